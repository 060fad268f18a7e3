/-
  A field of numbers with commas between, in layer 25, parse mode.
-/
import Derived.Test.YtgkddjefmonlaaaGreatDoorScrM
import Derived.Test.YtgkddjefmonlaaaGreatDoorStep
namespace Go.Proofs.YtgkddjefmonlaaaGreatDoor
open Go.RowKit

/-- the pieces of a text between the places of a separator -/
def cutW (s sep : ByteArray) : List ByteArray := Lib.splitB sep 0 (Lib.countB s sep) s
theorem cutW_length (s sep : ByteArray) (h1 : 1 ≤ sep.size) : (cutW s sep).length = Lib.countB s sep + 1 := Lib.splitB_all sep h1 0 _ s rfl
theorem splitB_size (sep : ByteArray) : ∀ (k : Nat) (s p : ByteArray), p ∈ Lib.splitB sep 0 k s → p.size ≤ s.size
  | 0, s, p, h => by
    rw [Lib.splitB_zero] at h; simp at h; subst h; exact Nat.le_refl _
  | k + 1, s, p, h => by
    unfold Lib.splitB at h
    split at h
    · simp at h; subst h; exact Nat.le_refl _
    · rcases List.mem_cons.1 h with rfl | h
      · simp; omega
      · have := splitB_size sep k _ p h
        simp at this; omega
theorem cutW_size {s sep p : ByteArray} (h : p ∈ cutW s sep) : p.size ≤ s.size := splitB_size sep _ s p h
theorem cutW_le (s sep : ByteArray) (h1 : 1 ≤ sep.size) : (cutW s sep).length ≤ s.size + 1 := by
  rw [cutW_length s sep h1]
  have := Lib.countB_le sep h1 s.size s (Nat.le_refl _)
  omega
theorem strings_split (s sep : ByteArray) (h1 : 1 ≤ sep.size) (hs : s.size ≤ 100000) (w : World) (hE : Env w) :
    Calls Tryz.prog 21 #[.string s, .string sep] w fun e w' => e = .returned (.slice (some ⟨w.heap.size, 0, none⟩) (cutW s sep).length (cutW s sep).length) ∧ w' = w.alloc (.cells ((cutW s sep).map Value.string).toArray 9) := by
  obtain ⟨m, hm⟩ := hE.max
  rw [cutW_length s sep h1]
  exact Tryz.strings_Split s sep m w (by omega) hm h1

/-- the numbers of words -/
def numsW : List ByteArray → Option (List Int)
  | [] => some []
  | p :: r => match numW (bl p) with
    | none => none
    | some n => (numsW r).map (n :: ·)
def comma : ByteArray := ⟨#[44]⟩
/-- the next word, if there is one, as numbers with commas between -/
def fatesN : List ByteArray → Option (List Int × List ByteArray)
  | [] => some ([], [])
  | x :: r => match numsW (cutW x comma) with
    | none => none
    | some l => if l.length ≤ 16 then some (l, r) else none
theorem numsW_length : ∀ (l : List ByteArray) (m : List Int), numsW l = some m → m.length = l.length
  | [], m, h => by cases h; rfl
  | p :: r, m, h => by
    simp only [numsW] at h
    split at h
    · cases h
    · obtain ⟨t, ht, rfl⟩ := Option.map_eq_some_iff.1 h
      simp [numsW_length r t ht]

/-- a call that gives up, as a step of a region that draws its order -/
theorem step_call1_dead {P : Program} {ops : Array Oper} {o : Oper} {a : Act} {w : World} {K : Act → World → Prop} {Q : Exit → Act → World → Prop} {E : Prop} {f : FuncId} {fn : Func} {c : Code} {R : Ending → World → Prop} {v : Value}
    (hf : P.funcs[f]? = some fn) (hname : (fn.name == "runtime.NumGoroutine") = false) (hb : fn.body = some c) (hgd : o.guard = none) (x : Operand) (t : TypeId)
    (ho : o.op = .call { callee := .value (.func f), args := #[x], argTypes := #[t] }) (hx : a.eval x = v) (hc : Calls P f #[v] w R)
    (hk : ∀ e w', R e w' → ∃ ch, e = .panicked ch ∧ Q (.panic ch) a w') (_ : wpAny P .any #[] (fun _ _ _ => True) 0 #[] a w) : if Region.wanted o (yielded ops a.tmps) = true then Oper.wp P o a w K Q else E := by
  have hw : Region.wanted o (yielded ops a.tmps) = true := by simp [Region.wanted, hgd]
  rw [if_pos hw]
  have hm : (execOp a.eval o).run P w = .ok (.enter f #[v]) w := by
    unfold execOp
    have e1 : a.eval (.func f) = .func (.func f) #[] #[] := rfl
    simp only [ho, resolve, invoke, Sem.run_bind, List.map_toArray, List.map_cons, List.map_nil, hx, e1]
    have e2 : (Deferred.ofValue (.func (.func f) #[] #[]) #[v]).run P w = .ok ⟨.fn (.func f) #[], #[v]⟩ w := by
      simp [Deferred.ofValue]
    simp only [e2, Result.andThen_ok, Array.append_empty]
    exact run_enter hf hname hb _ w
  unfold Oper.wp
  rw [hm, Oper.upon_enter]
  refine hc.mono ?_
  intro e w' he
  obtain ⟨u, rfl, hK⟩ := hk e w' he
  exact hK

/-- the loop over the pieces: what holds at its head -/
structure FatesAt (w W : World) (fb wb pb po tb : Nat) (ps r : List ByteArray) (a : Option Addr) (k c : Nat) (acc : List Int) : Prop where
  cell : W.cell? ⟨pb, po, none⟩ = some (.slice a k c)
  free : W.frozen? ⟨pb, po, none⟩ = false
  own : W.ownsRow w.heap.size 3 1 (.slice a k c) k (ints acc)
  row : W.heap[tb]? = some (.cells (ps.map Value.string).toArray 9 (0, 0))
  form : FormP W fb wb r
  only : Only w.heap.size (fun k => k = fb ∨ k = pb) w W
  nums : numsW ps = (numsW (ps.drop k)).map (acc ++ ·)
  gtb : w.heap.size ≤ tb
  gpb : pb < w.heap.size
  gfb : fb < w.heap.size
  gwb : wb < w.heap.size
  hpb : nGlob ≤ pb ∧ pb ≠ fb ∧ pb ≠ wb
  keep : ∀ (t : TypeId) (n : Nat) (f : Nat → Value), w.rowIs pb t n f → W.rowIs pb t n (fun i => if i = po then .slice a k c else f i)
section
variable {w W W' : World} {fb wb pb po tb : Nat} {ps r : List ByteArray} {a : Option Addr} {k c : Nat} {acc : List Int}
theorem FatesAt.below (h : FatesAt w W fb wb pb po tb ps r a k c acc) (hb : Below W.heap.size W W') : FatesAt w W' fb wb pb po tb ps r a k c acc := by
  have hlt := lt_of_cell h.cell
  exact ⟨(hb.cell (p := ⟨pb, po, none⟩) hlt).trans h.cell, (hb.frozen (p := ⟨pb, po, none⟩) hlt).trans h.free, own_below h.own hb (Nat.le_refl _), (hb.block _ (Array.getElem?_eq_some_iff.1 h.row).1).trans h.row, h.form.below hb, only_below h.only hb, h.nums, h.gtb, h.gpb, h.gfb, h.gwb, h.hpb, fun t n f hf => (h.keep t n f hf).of_block (hb.block _ hlt)⟩
theorem FatesAt.grown_cell {u : Value} {W' : World} (h : FatesAt w W fb wb pb po tb ps r a k c acc) (hg : (W.alloc (.cells #[u] 3)).grownBy W' (Value.slice a k c).ownBlock) : W'.cell? ⟨pb, po, none⟩ = some (.slice a k c) ∧ W'.frozen? ⟨pb, po, none⟩ = false := by
  have hlt := lt_of_cell h.cell
  have hal : (W.alloc (.cells #[u] 3)).heap[pb]? = W.heap[pb]? := Below.heap_alloc W _ pb hlt
  have hne : some pb ≠ (Value.slice a k c).ownBlock := by
    intro e
    have h1 := (h.own.lt pb e.symm).1
    have h2 := h.gpb
    omega
  have hb : W'.heap[pb]? = W.heap[pb]? := (hg.block pb (by simp; omega) hne).trans hal
  exact ⟨(World.cell?_of_block (w := W) (a := ⟨pb, po, none⟩) hb).trans h.cell, (World.frozen?_of_block (w := W) (a := ⟨pb, po, none⟩) hb).trans h.free⟩
theorem FatesAt.step {u : Value} {W' : World} {v : Int} {a7 : Option Addr} {c7 : Nat} (h : FatesAt w W fb wb pb po tb ps r a k c acc) (hg : (W.alloc (.cells #[u] 3)).grownBy W' (Value.slice a k c).ownBlock)
    (ho : W'.ownsRow w.heap.size 3 1 (.slice a7 (k + 1) c7) (k + 1) (ints acc ++ [.int .i64 v])) (hn : numsW (ps.drop k) = (numsW (ps.drop (k + 1))).map (v :: ·)) :
    FatesAt w (W'.setCell ⟨pb, po, none⟩ (.slice a7 (k + 1) c7)) fb wb pb po tb ps r a7 (k + 1) c7 (acc ++ [v]) := by
  have hlt := lt_of_cell h.cell
  obtain ⟨z1, z2⟩ := h.grown_cell hg
  have hB := h.only.size
  have hon : Only W.heap.size (fun k' => w.heap.size ≤ k' ∧ k' ≠ tb) W W' :=
    ((Only.refl _ _ _).alloc (Nat.le_refl _) _).grown hg (by simp) fun k' hk' => .inr ⟨(h.own.lt k' hk').1, by
      rintro rfl
      rcases h.own.2 with ⟨e, _⟩ | ⟨g, cap, cur, e, _, hgg, _⟩
      · rw [e] at hk'; cases hk'
      · rw [e] at hk'; cases hk'
        rw [h.row] at hgg; cases hgg⟩
  have hw : Only w.heap.size (fun k => k = fb ∨ k = pb) w W' := h.only.trans ((hon.mono hB).weaken fun k' hk' hs => by have := hs.1; omega)
  have hf := h.gfb
  have hwb := h.gwb
  have hp := h.gpb
  have hG := h.form.gf
  have hF : FormP W' fb wb r := h.form.only hon fun k' hk' => by have := hk'.1; omega
  have hrow : W'.heap[tb]? = some (.cells (ps.map Value.string).toArray 9 (0, 0)) := (hon.block tb (Array.getElem?_eq_some_iff.1 h.row).1 (fun hs => hs.2 rfl)).trans h.row
  have htb := h.gtb
  refine ⟨World.cell?_setCell_same _ _ _ z1, by rw [World.frozen?_setCell]; exact z2, by rw [ints_append]; exact ownsRow_set (a := ⟨pb, po, none⟩) ho (fun e => by have h1 := (ho.lt pb e).1; omega) _, (Below.heap_setCell W' ⟨pb, po, none⟩ _ tb (by show tb ≠ pb; omega)).trans hrow, hF.set h.hpb _, hw.setCell (.inr (.inr rfl)) _, ?_, h.gtb, h.gpb, h.gfb, h.gwb, h.hpb, fun t n f hf => (((h.keep t n f hf).of_block (hon.block _ hlt (fun hs => by have := hs.1; omega))).set po _).congr (fun i hi => by by_cases e : i = po <;> simp [e])⟩
  rw [h.nums, hn]
  cases numsW (ps.drop (k + 1)) <;> simp
end

set_option maxRecDepth 100000 in
theorem FormP.fates {w : World} {fb wb pb po : Nat} {ws : List ByteArray} (h : FormP w fb wb ws) (hc : w.cell? ⟨pb, po, none⟩ = some (.slice none 0 0)) (hz : w.frozen? ⟨pb, po, none⟩ = false) (hpb : nGlob ≤ pb ∧ pb ≠ fb ∧ pb ≠ wb) {R : Ending → World → Prop}
    (hp : fatesN ws = none → ∀ W, Only w.heap.size (fun k => k = fb ∨ k = pb) w W → R (.panicked badChain) W)
    (hr : ∀ l r a c W, fatesN ws = some (l, r) → FormP W fb wb r → Only w.heap.size (fun k => k = fb ∨ k = pb) w W → W.ownsRow w.heap.size 3 1 (.slice a l.length c) l.length (ints l) → (∀ (t : TypeId) (n : Nat) (f : Nat → Value), w.rowIs pb t n f → W.rowIs pb t n (fun i => if i = po then .slice a l.length c else f i)) → R (.returned (.tuple #[])) W) :
    Calls Tryz.prog 52 #[.pointer (some ⟨fb, 0, none⟩), .pointer (some ⟨pb, po, none⟩)] w R := by
  have hpr := h.print
  have hlt := lt_of_cell hc
  have hpb2 := hpb.2.1
  obtain ⟨o, cc, hw⟩ := h.words
  obtain ⟨i3, hi, hz0, hz1, hz2⟩ := info3_of Tryz.info3
  cases ws with
  | nil =>
    have HR := Lib.hid (hr [] [] none 0 w rfl h (Only.refl _ _ _) (World.ownsRow_nil _ _ _ _) (fun t n f hf => hf.congr (fun i hi => by
      by_cases e : i = po
      · rw [if_pos e]; have := hf.cell hi; rw [e, hc] at this; cases e; exact (Option.some.inj this).symm
      · rw [if_neg e])))
    simp only [List.length_nil] at hw
    clear hp hr
    go_enter Tryz.func52, Tryz.ntmps52
    go_wp2_with (go_at_call 25; refine (want_t (by first | rfl | (simp; omega) | simp) _).mono ?_; rintro e w' ⟨rfl, rfl⟩)
    go_end0
    exact HR.out
  | cons y r =>
    have hx := h.bnd y (by simp)
    have hS : ∀ W, Env W → Calls Tryz.prog 21 #[.string y, .string ⟨#[44]⟩] W fun e w' => e = .returned (.slice (some ⟨W.heap.size, 0, none⟩) (cutW y comma).length (cutW y comma).length) ∧ w' = W.alloc (.cells ((cutW y comma).map Value.string).toArray 9) := fun W hW => strings_split y comma (by decide) hx W hW
    have hcl := cutW_le y comma (by decide)
    have hcb : ∀ p ∈ cutW y comma, p.size ≤ 100000 := fun p hpp => Nat.le_trans (cutW_size hpp) hx
    have HX := Lib.hid (show fatesN (y :: r) = (match numsW (cutW y comma) with | none => none | some l => if l.length ≤ 16 then some (l, r) else none) from rfl)
    obtain ⟨ps, hps⟩ : ∃ ps, ps = cutW y comma := ⟨_, rfl⟩
    rw [← hps] at hS hcl hcb HX
    have HS := Lib.hid hS
    have HB := Lib.hid hcb
    have HP := Lib.hid hp
    have HR := Lib.hid (fun l => hr l r)
    have hl := h.len
    simp only [List.length_cons] at hw hl
    obtain ⟨n, hn⟩ : ∃ n, n = r.length + 1 := ⟨_, rfl⟩
    rw [← hn] at hw
    have hn1 : (1 : Int) ≤ (n : Int) := by omega
    clear hps hS hcb hp hr hn
    go_enter Tryz.func52, Tryz.ntmps52
    go_wp2_with (first
      | (go_at_call 75; refine h.next_cons.mono ?_; rintro e w1 ⟨rfl, h1, ho⟩)
      | (go_at_call 21; refine (HS.out _ h1.env).mono ?_; rintro e w2 ⟨rfl, hw2⟩))
    have hb2 : Below w1.heap.size w1 w2 := by rw [hw2]; exact (Below.refl _ _).alloc (Nat.le_refl _) _
    have hrow : w2.heap[w1.heap.size]? = some (.cells (ps.map Value.string).toArray 9 (0, 0)) := by rw [hw2]; exact heap_al_new _ _
    obtain ⟨hc2, hz2⟩ := field_kept (only_below ho hb2) hpb.2.1 hc hz
    obtain ⟨tb, htb⟩ : ∃ tb, tb = w1.heap.size := ⟨_, rfl⟩
    have hI : FatesAt w w2 fb wb pb po tb ps r none 0 0 [] :=
      ⟨hc2, hz2, World.ownsRow_nil _ _ _ _, by rw [htb]; exact hrow, h1.below hb2, only_or (only_below ho hb2), by simp, by rw [htb]; exact ho.size, hlt, h.lt, h.wlt, hpb, fun t n f hf => ((hf.of_block ((only_below ho hb2).block _ hlt hpb.2.1)).congr (fun i hi => by
        by_cases e : i = po
        · rw [if_pos e]; have := hf.cell hi; rw [e, hc] at this; cases e; exact (Option.some.inj this).symm
        · rw [if_neg e]))⟩
    rw [← htb]
    rw [← hw2]
    clear hb2 hrow hc2 hz2 htb hw2 hc hz hpr hw ho h1 h hlt
    go_loopw [24] (fun i wr => ∃ (k : Nat) (a : Option Addr) (c : Nat) (acc : List Int), k ≤ ps.length ∧ i = .int .i64 (k : Int) ∧ acc.length = k ∧ FatesAt w wr fb wb pb po tb ps r a k c acc) (fun i _ => ps.length - (intOf i).toNat)
    case atStart => exact ⟨0, none, 0, [], by omega, rfl, rfl, hI⟩
    case round =>
      clear hI
      obtain ⟨k, a, c, acc, hk, rfl, hacc, hI⟩ := hrel
      have HACC := Lib.hid hacc
      clear hacc
      by_cases hlt : k < ps.length
      · have hf : wr.cell? ⟨tb, k, none⟩ = some (.string ps[k]) := by simp [World.cell?, hI.row, hlt]
        have hd : numsW (ps.drop k) = match numW (bl ps[k]) with | none => none | some n => (numsW (ps.drop (k + 1))).map (n :: ·) := by rw [List.drop_eq_getElem_cons hlt]; rfl
        have hxk := HB.out ps[k] (by simp)
        obtain ⟨x, hx⟩ : ∃ x, x = ps[k] := ⟨_, rfl⟩
        rw [← hx] at hf hd hxk
        have hkb : k + 1 ≤ 1000000 := by omega
        clear hx
        cases hn : numW (bl x) with
        | none =>
          have hnone : numsW (ps.drop k) = none := by rw [hd, hn]
          have HN := Lib.hid hn
          have hfin : fatesN (y :: r) = none := by rw [HX.out, hI.nums, hnone]; rfl
          have HF := Lib.hid hfin
          have hD : FatesAt w wr.drew fb wb pb po tb ps r a k c acc := hI.below (below_drewN wr 1)
          have HI := Lib.hid hI
          clear hnone hfin hd hn hI
          have hcell := HI.out.cell
          have hfree := HI.out.free
          go_wp2_with fail
          have hcell2 := hD.cell
          have hfree2 := hD.free
          have HD := Lib.hid hD
          have HC := Lib.hid (number_none hxk hD.form.env HN.out)
          clear hD
          go_region_law (refine step_call1_dead Tryz.func76 (by kernel_rfl) rfl (by rfl) _ _ (by rfl) (by rfl) HC.out (by rintro e w5 ⟨rfl, hb5⟩; exact ⟨_, rfl, rfl, HP.out HF.out _ (only_below HD.out.only hb5)⟩) ?_)
          all_goals trivial
        | some v =>
          have hd2 : numsW (ps.drop k) = (numsW (ps.drop (k + 1))).map (v :: ·) := by rw [hd, hn]
          have HN := Lib.hid hn
          have HD2 := Lib.hid hd2
          have hD : FatesAt w wr.drew fb wb pb po tb ps r a k c acc := hI.below (below_drewN wr 1)
          have HI := Lib.hid hI
          clear hd hn hI hd2
          have hcell := HI.out.cell
          have hfree := HI.out.free
          go_wp2_with fail
          have hcell2 := hD.cell
          have hfree2 := hD.free
          have HD := Lib.hid hD
          have hcall : Calls Tryz.prog 76 #[.string x] wr.drew fun e w' => e = .returned (.int .i64 v) ∧ FatesAt w w' fb wb pb po tb ps r a k c acc := (number_some hxk hD.form.env HN.out).mono fun e w' ⟨he, hb⟩ => ⟨he, HD.out.below hb⟩
          have HC := Lib.hid hcall
          clear hD hcall
          go_region_law (first
            | (refine step_call1 Tryz.func76 (by kernel_rfl) rfl (by rfl) _ _ (by rfl) (by rfl) HC.out ?_
               rintro e w5 ⟨rfl, h5⟩
               refine ⟨_, rfl, ?_⟩
               have H5 := Lib.hid h5
               have hS5 := h5.cell
               have hS6 := fun o => (h5.below ((Below.refl _ _).alloc (Nat.le_refl _) o)).cell
               clear h5)
            | (refine step_append_vals (by rfl) _ _ _ (by rfl) w.heap.size 3 _ 1 8 Tryz.underlying27 hi hz0 hz1 hz2 rfl (by decide) _ k _ (by rfl) (H5.out.own.alloc _) _ 0 1 1 _ (by rfl) (by rfl) (reads_new (heap_al_new _ _)) (by intro u hu; simp at hu; subst hu; rfl) (by unfold maxLen; omega) (by omega) (by have := H5.out.only.size; simp; omega) ?_
               intro v7 w7 hown7 hgrow7 hblk7
               obtain ⟨a7, c7, hv7⟩ := own_form hown7
               subst hv7
               have hZ7 : w7.cell? ⟨pb, po, none⟩ = some (.slice a k c) ∧ w7.frozen? ⟨pb, po, none⟩ = false := H5.out.grown_cell hgrow7
               have hZ7a := hZ7.1
               have hZ7b := hZ7.2))
          all_goals
            go_wp2_with fail
            go_roundw
            case rel => exact ⟨k + 1, a7, c7, acc ++ [v], by omega, by go_num, by simp [HACC.out], H5.out.step hgrow7 hown7 HD2.out⟩
            case measure => simp [intOf]; omega
      · obtain rfl : k = ps.length := by omega
        have hall : numsW ps = some acc := by rw [hI.nums, List.drop_eq_nil_of_le (Nat.le_refl _)]; simp [numsW]
        have hX : fatesN (y :: r) = if acc.length ≤ 16 then some (acc, r) else none := by rw [HX.out, hall]
        have HY := Lib.hid hX
        have HI := Lib.hid hI
        have hcell := HI.out.cell
        have hfree := HI.out.free
        clear hX hall hI
        have hd0 : decide ((ps.length : Int) < (ps.length : Int)) = false := by simp
        by_cases h16 : ps.length ≤ 16
        · go_wp2_with (go_at_call 25; refine (want_t (by first | rfl | (simp; omega) | simp) _).mono ?_; rintro e w' ⟨rfl, rfl⟩)
          go_end0
          have ho := HI.out.own
          have hc := HI.out.keep
          rw [← HACC.out] at ho hc
          exact HR.out acc a c wr (by rw [HY.out, if_pos (by rw [HACC.out]; exact h16)]) HI.out.form HI.out.only ho hc
        · go_wp2_with (go_at_call 25; refine (want_f (by first | rfl | (simp; omega) | simp) _).mono ?_; rintro e w' ⟨rfl, rfl⟩)
          exact ⟨rfl, HP.out (by rw [HY.out, if_neg (by rw [HACC.out]; exact h16)]) _ HI.out.only⟩
end Go.Proofs.YtgkddjefmonlaaaGreatDoor
