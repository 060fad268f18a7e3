/-
  Parse of layer 25.
-/
import Derived.Test.YtgkddjefmonlaaaGreatDoorScrT
namespace Go.Proofs.YtgkddjefmonlaaaGreatDoor
open Go.RowKit

def blank : ByteArray := ⟨#[32]⟩
def stepCells : Obj := .cells #[.int .i64 0, .int .i64 0, .int .i64 0, .int .i64 0, .int .i64 0, .slice none 0 0, .float .f64 0, .slice none 0 0, .slice none 0 0] 29
theorem results_cell_tmp {P : Program} {fn : Func} {p q : Tmp} {ty : TypeId} (h : fn.results = #[.cell p ty, .tmp q]) (tmps : Array Value) (w : World) (g : Nat) (cs : List Value) (d : TypeDesc)
    (hp : tmps.getD p undef = .pointer (some ⟨g, 0, none⟩)) (hc : w.rangeAt g 0 cs) (hu : P.underlying ty = some d) (hd : d.isRow = true) (hi : (P.info? ty).map (·.size) = some cs.length) :
    (results fn tmps).run P w = .ok (.tuple #[.agg cs.toArray, tmps.getD q undef]) w := by
  have hp' : tmps[p]?.getD undef = .pointer (some ⟨g, 0, none⟩) := by simpa using hp
  simp [results, h, hp', asAddr, run_loadVar_mid w g 0 ty cs d hc hu hd hi]

/-- the memory that Parse lays ahead of its run -/
def parseW (w : World) (ps : List ByteArray) : World :=
  ((((w.alloc stepCells).alloc stepCells).alloc (.cells (ps.map Value.string).toArray 9)).alloc (.cells #[.bool false, .slice (some ⟨w.heap.size + 1 + 1, 0, none⟩) ps.length ps.length] 55)).alloc (.cells #[.pointer (some ⟨w.heap.size + 1 + 1 + 1, 0, none⟩)] 51)
theorem parseW_size (w : World) (ps : List ByteArray) : (parseW w ps).heap.size = w.heap.size + 5 := by simp [parseW]
theorem parseW_below (w : World) (ps : List ByteArray) : Below w.heap.size w (parseW w ps) := bel_al (bel_al (bel_al (bel_al (bel_al (Below.refl _ _) _) _) _) _) _
theorem parseW_at (w : World) (ps : List ByteArray) :
    (parseW w ps).heap[w.heap.size]? = some (.cells #[.int .i64 0, .int .i64 0, .int .i64 0, .int .i64 0, .int .i64 0, .slice none 0 0, .float .f64 0, .slice none 0 0, .slice none 0 0] 29 (0, 0)) ∧
    (parseW w ps).heap[w.heap.size + 1]? = some (.cells #[.int .i64 0, .int .i64 0, .int .i64 0, .int .i64 0, .int .i64 0, .slice none 0 0, .float .f64 0, .slice none 0 0, .slice none 0 0] 29 (0, 0)) ∧
    (parseW w ps).heap[w.heap.size + 2]? = some (.cells (ps.map Value.string).toArray 9 (0, 0)) ∧
    (parseW w ps).heap[w.heap.size + 3]? = some (.cells #[.bool false, .slice (some ⟨w.heap.size + 1 + 1, 0, none⟩) ps.length ps.length] 55 (0, 0)) ∧
    (parseW w ps).heap[w.heap.size + 4]? = some (.cells #[.pointer (some ⟨w.heap.size + 1 + 1 + 1, 0, none⟩)] 51 (0, 0)) := by
  unfold parseW
  have s1 : (w.alloc stepCells).heap.size = w.heap.size + 1 := by simp
  have s2 : ((w.alloc stepCells).alloc stepCells).heap.size = w.heap.size + 2 := by simp
  have s3 : (((w.alloc stepCells).alloc stepCells).alloc (.cells (ps.map Value.string).toArray 9)).heap.size = w.heap.size + 3 := by simp
  refine ⟨?_, ?_, ?_, ?_, ?_⟩
  · exact heap_al_old (heap_al_old (heap_al_old (heap_al_old (heap_al_new _ _) _) _) _) _
  · exact heap_al_old (heap_al_old (heap_al_old (s1 ▸ heap_al_new _ _) _) _) _
  · exact heap_al_old (heap_al_old (s2 ▸ heap_al_new _ _) _) _
  · exact heap_al_old (s3 ▸ heap_al_new _ _) _
  · have s4 : ((((w.alloc stepCells).alloc stepCells).alloc (.cells (ps.map Value.string).toArray 9)).alloc (.cells #[.bool false, .slice (some ⟨w.heap.size + 1 + 1, 0, none⟩) ps.length ps.length] 55)).heap.size = w.heap.size + 4 := by simp
    exact s4 ▸ heap_al_new _ _

theorem rowIs_lit {w : World} {b t : Nat} {cs : List Value} (h : w.heap[b]? = some (.cells cs.toArray t (0, 0))) (f : Nat → Value) (hf : ∀ i, i < cs.length → cs[i]? = some (f i)) : w.rowIs b t cs.length f :=
  ⟨cs.toArray, h, by simp, fun i hi => by simpa using hf i hi⟩
theorem parse_start (w : World) (ps : List ByteArray) (hE : Env w) (hl : ps.length ≤ 100000) (hb : ∀ p ∈ ps, p.size ≤ 100000) (o : Obj) :
    Pz ((parseW w ps).alloc o) ((parseW w ps).alloc o) (w.heap.size + 3) (w.heap.size + 2) (w.heap.size + 1) ps step0 (.slice none 0 0) (.slice none 0 0) (.slice none 0 0) := by
  obtain ⟨h0, h1, h2, h3, h4⟩ := parseW_at w ps
  have hsz : ((parseW w ps).alloc o).heap.size = w.heap.size + 6 := by simp [parseW_size]
  have hg := hE.size
  unfold nGlob at hg
  refine ⟨⟨⟨0, ps.length, rowIs_lit (cs := [.bool false, .slice (some ⟨w.heap.size + 1 + 1, 0, none⟩) ps.length ps.length]) (heap_al_old h3 o) _ ?_, Nat.le_refl _, by omega, ?_⟩, by omega, by omega, by unfold nGlob; omega, by unfold nGlob; omega, hl, hb, hE.below (bel_al (parseW_below w ps) o)⟩,
    rowIs_lit (cs := [.int .i64 0, .int .i64 0, .int .i64 0, .int .i64 0, .int .i64 0, .slice none 0 0, .float .f64 0, .slice none 0 0, .slice none 0 0]) (heap_al_old h1 o) _ ?_,
    ⟨World.ownsRow_nil _ _ _ _, World.ownsRow_nil _ _ _ _, World.ownsRow_nil _ _ _ _⟩, Only.refl _ _ _, by omega, by omega, by omega, by omega, by unfold nGlob; omega⟩
  · intro i hi
    match i, hi with
    | 0, _ => rfl
    | 1, _ => rfl
  · have := reads_new (heap_al_old h2 o)
    simpa using this
  · intro i hi
    match i, hi with
    | 0, _ => rfl
    | 1, _ => rfl
    | 2, _ => rfl
    | 3, _ => rfl
    | 4, _ => rfl
    | 5, _ => rfl
    | 6, _ => rfl
    | 7, _ => rfl
    | 8, _ => rfl

theorem parse_run (w : World) (ps : List ByteArray) (hE : Env w) (hl : ps.length ≤ 100000) (hb : ∀ p ∈ ps, p.size ≤ 100000) :
    Calls Tryz.prog 22 #[.func (.func 23) #[] #[.pointer (some ⟨w.heap.size + 1 + 1 + 1 + 1, 0, none⟩), .pointer (some ⟨w.heap.size + 1, 0, none⟩)]] (parseW w ps) fun e w' =>
      (e = .returned (.int .i64 0) ∧ (∃ s d1 d2 fs, parseN ps = some s ∧ w'.rowIs (w.heap.size + 1) 29 9 (stF (stVals s d1 d2 fs)) ∧ StOwn w' (w.heap.size + 6) s d1 d2 fs) ∨ e = .returned (.int .i64 3) ∧ parseN ps = none) ∧ (∃ g, w'.rowIs w.heap.size 29 9 g) ∧ Below w.heap.size w w' := by
  obtain ⟨h0, h1, h2, h3, h4⟩ := parseW_at w ps
  obtain ⟨E, hEE⟩ : ∃ E : Obj, E = .cells #[.int .i64 0] 30 := ⟨_, rfl⟩
  have hS := parse_start w ps hE hl hb E
  obtain ⟨W6, hW6⟩ : ∃ W6, W6 = (parseW w ps).alloc E := ⟨_, rfl⟩
  have hsz : W6.heap.size = w.heap.size + 6 := by rw [hW6]; simp [parseW_size]
  have hps := parseW_size w ps
  have hv : W6.cell? ⟨w.heap.size + 4, 0, none⟩ = some (.pointer (some ⟨w.heap.size + 3, 0, none⟩)) := by
    have := heap_al_old h4 E
    rw [← hW6] at this
    simp [World.cell?, this]
  have hr0 : W6.rowIs w.heap.size 29 9 (fun i => ([.int .i64 0, .int .i64 0, .int .i64 0, .int .i64 0, .int .i64 0, .slice none 0 0, .float .f64 0, .slice none 0 0, .slice none 0 0] : List Value).getD i undef) := by
    rw [hW6]
    refine rowIs_lit (cs := [.int .i64 0, .int .i64 0, .int .i64 0, .int .i64 0, .int .i64 0, .slice none 0 0, .float .f64 0, .slice none 0 0, .slice none 0 0]) (heap_al_old h0 E) _ ?_
    intro i hi
    simp only [List.getD_eq_getElem?_getD, List.getElem?_eq_getElem hi, Option.getD_some]
  have he : W6.heap[w.heap.size + 5]? = some (.cells #[.int .i64 0] 30 (0, 0)) := by
    rw [hW6, ← hps, hEE]; exact heap_al_new _ _
  have hb6 : Below w.heap.size w W6 := by rw [hW6]; exact bel_al (parseW_below w ps) E
  rw [← hW6] at hS
  -- what is kept whatever the run does
  have hkeep : ∀ W', Only W6.heap.size (fun k => k = w.heap.size + 3 ∨ k = w.heap.size + 1) W6 W' → (W'.cell? ⟨w.heap.size + 5, 0, none⟩ = some (.int .i64 0) ∧ W'.frozen? ⟨w.heap.size + 5, 0, none⟩ = false) ∧ (∃ g, W'.rowIs w.heap.size 29 9 g) ∧ Below w.heap.size w W' := by
    intro W' ho
    have e5 := ho.block (w.heap.size + 5) (by omega) (by omega)
    have e0 := ho.block w.heap.size (by omega) (by omega)
    refine ⟨⟨?_, ?_⟩, ⟨_, hr0.of_block e0⟩, hb6.trans (ho.below (by omega) (by intro k hk; omega))⟩
    · simp [World.cell?, e5, he]
    · simp [World.frozen?, e5, he]
  have hcl : Calls Tryz.prog 23 #[.pointer (some ⟨w.heap.size + 4, 0, none⟩), .pointer (some ⟨w.heap.size + 1, 0, none⟩)] W6 fun e w' =>
      (e = .returned (.tuple #[]) ∧ (∃ s d1 d2 fs, parseN ps = some s ∧ Pz W6 w' (w.heap.size + 3) (w.heap.size + 2) (w.heap.size + 1) [] s d1 d2 fs) ∨ e = .panicked badChain ∧ (parseN ps = none ∧ Only W6.heap.size (fun k => k = w.heap.size + 3 ∨ k = w.heap.size + 1) W6 w')) ∧ w'.cell? ⟨w.heap.size + 5, 0, none⟩ = some (.int .i64 0) ∧ w'.frozen? ⟨w.heap.size + 5, 0, none⟩ = false :=
    hS.parse1 hv (by omega) (by omega) (fun hn W' ho => ⟨.inr ⟨rfl, hn, ho⟩, (hkeep W' ho).1⟩) (fun s d1 d2 fs W' hs hz => ⟨.inl ⟨rfl, s, d1, d2, fs, hs, hz⟩, (hkeep W' hz.only).1⟩)
  refine (safely_Parse _ _ (parseW w ps) _ _ (by rw [hps, ← hEE, ← hW6]; exact hcl)).mono ?_
  rw [hps]
  rintro e w' (⟨rfl, W, ⟨s, d1, d2, fs, hs, hz⟩, rfl⟩ | ⟨rfl, W, o, ⟨hn, ho⟩, rfl⟩)
  · obtain ⟨-, ⟨g, hg⟩, hb⟩ := hkeep W hz.only
    refine ⟨.inl ⟨rfl, s, d1, d2, fs, hs, row_oth hz.row (by omega) _, ?_⟩, ⟨g, row_oth hg (by omega) _⟩, bel_set hb (by omega) _⟩
    rw [← hsz]
    exact hz.own.over (by omega) _ _
  · obtain ⟨-, ⟨g, hg⟩, hb⟩ := hkeep W ho
    exact ⟨.inr ⟨rfl, hn⟩, ⟨g, (row_oth hg (by omega) _).alloc o⟩, bel_al (bel_set hb (by omega) _) o⟩

theorem fin9_range {W : World} {b t : Nat} {g : Nat → Value} (hg : W.rowIs b t 9 g) (v0 v1 v2 v3 v4 v5 v6 v7 v8 : Value) : (fin9 W b v0 v1 v2 v3 v4 v5 v6 v7 v8).rangeAt b 0 [v0, v1, v2, v3, v4, v5, v6, v7, v8] := by
  refine rowIs_range (((((((((hg.set 0 v0).set 1 v1).set 2 v2).set 3 v3).set 4 v4).set 5 v5).set 6 v6).set 7 v7).set 8 v8) _ rfl ?_
  intro i hi
  match i, hi with
  | 0, _ => rfl
  | 1, _ => rfl
  | 2, _ => rfl
  | 3, _ => rfl
  | 4, _ => rfl
  | 5, _ => rfl
  | 6, _ => rfl
  | 7, _ => rfl
  | 8, _ => rfl
theorem fin9_below {w W : World} (h : Below w.heap.size w W) {b : Nat} (hb : w.heap.size ≤ b) (v0 v1 v2 v3 v4 v5 v6 v7 v8 : Value) : Below w.heap.size w (fin9 W b v0 v1 v2 v3 v4 v5 v6 v7 v8) :=
  bel_set (bel_set (bel_set (bel_set (bel_set (bel_set (bel_set (bel_set (bel_set h hb _) hb _) hb _) hb _) hb _) hb _) hb _) hb _) hb _
theorem own_beside {W : World} {base b n : Nat} {e : TypeId} {v : Value} {xs : List Value} (h : W.ownsRow base e 1 v n xs) (hs : b < base) (i : Nat) (u : Value) : (W.setCell ⟨b, i, none⟩ u).ownsRow base e 1 v n xs :=
  ownsRow_set (a := ⟨b, i, none⟩) h (fun e => by have h1 := (h.lt b e).1; omega) u
theorem own_fin9 {W : World} {base b n : Nat} {e : TypeId} {v : Value} {xs : List Value} (h : W.ownsRow base e 1 v n xs) (hs : b < base) (v0 v1 v2 v3 v4 v5 v6 v7 v8 : Value) : (fin9 W b v0 v1 v2 v3 v4 v5 v6 v7 v8).ownsRow base e 1 v n xs :=
  own_beside (own_beside (own_beside (own_beside (own_beside (own_beside (own_beside (own_beside (own_beside h hs _ _) hs _ _) hs _ _) hs _ _) hs _ _) hs _ _) hs _ _) hs _ _) hs _ _
theorem StOwn.fin9 {W : World} {base b : Nat} {s : AStep} {d1 d2 fs : Value} (h : StOwn W base s d1 d2 fs) (hs : b < base) (v0 v1 v2 v3 v4 v5 v6 v7 v8 : Value) : StOwn (fin9 W b v0 v1 v2 v3 v4 v5 v6 v7 v8) base s d1 d2 fs :=
  ⟨own_fin9 h.d1 hs _ _ _ _ _ _ _ _ _, own_fin9 h.d2 hs _ _ _ _ _ _ _ _ _, own_fin9 h.fs hs _ _ _ _ _ _ _ _ _⟩

/-- what Parse answers -/
def ParsePost (w : World) (o : Option AStep) (e : Ending) (w' : World) : Prop :=
  match o with
  | none => e = .returned (.tuple #[.agg (stVals step0 (.slice none 0 0) (.slice none 0 0) (.slice none 0 0)).toArray, .int .i64 3]) ∧ Below w.heap.size w w'
  | some s => ∃ d1 d2 fs, e = .returned (.tuple #[.agg (stVals s d1 d2 fs).toArray, .int .i64 0]) ∧ StOwn w' w.heap.size s d1 d2 fs ∧ Below w.heap.size w w'
set_option maxHeartbeats 400000 in
set_option maxRecDepth 100000 in
theorem script_Parse (x : ByteArray) (hx : x.size ≤ 99999) (w : World) (hE : Env w) :
    Calls Tryz.prog 10 #[.string x] w (ParsePost w (parseN (cutW x blank))) := by
  have hS : ∀ W, Env W → Calls Tryz.prog 21 #[.string x, .string ⟨#[32]⟩] W fun e w' => e = .returned (.slice (some ⟨W.heap.size, 0, none⟩) (cutW x blank).length (cutW x blank).length) ∧ w' = W.alloc (.cells ((cutW x blank).map Value.string).toArray 9) := fun W hW => strings_split x blank (by decide) (by omega) W hW
  have hcl := cutW_le x blank (by decide)
  have hcb : ∀ p ∈ cutW x blank, p.size ≤ 100000 := fun p hpp => Nat.le_trans (cutW_size hpp) (by omega)
  obtain ⟨ps, hps⟩ : ∃ ps, ps = cutW x blank := ⟨_, rfl⟩
  rw [← hps] at hS hcl hcb ⊢
  have HS := Lib.hid hS
  have HB := Lib.hid hcb
  clear hps hS hcb
  have hmf : ∀ (fn : Fn) (first cap : Array Value) (w : World), (Instr.makeFunc fn first cap).run Tryz.prog w = .ok (.func fn first cap) w := fun _ _ _ _ => rfl
  have hE2 : ∀ a b, Env ((w.alloc a).alloc b) := fun a b => hE.below (bel_al (bel_al (Below.refl _ _) _) _)
  go_enter Tryz.func10, Tryz.ntmps10
  go_wp2_with (go_at_call 21; refine (HS.out _ (hE2 _ _)).mono ?_; rintro e w1 ⟨rfl, rfl⟩)
  refine (parse_run w ps hE (by omega) HB.out).mono ?_
  rintro e w2 ⟨hcase, ⟨g, hg⟩, hbel⟩
  have d0 := hg.cell (i := 0) (by omega)
  have y0 := hg.frozen 0
  have d1 := hg.cell (i := 1) (by omega)
  have y1 := hg.frozen 1
  have d2 := hg.cell (i := 2) (by omega)
  have y2 := hg.frozen 2
  have d3 := hg.cell (i := 3) (by omega)
  have y3 := hg.frozen 3
  have d4 := hg.cell (i := 4) (by omega)
  have y4 := hg.frozen 4
  have d5 := hg.cell (i := 5) (by omega)
  have y5 := hg.frozen 5
  have d6 := hg.cell (i := 6) (by omega)
  have y6 := hg.frozen 6
  have d7 := hg.cell (i := 7) (by omega)
  have y7 := hg.frozen 7
  have d8 := hg.cell (i := 8) (by omega)
  have y8 := hg.frozen 8
  have hlg := hg.lt
  clear hE2
  have HG := Lib.hid hg
  clear hg
  rcases hcase with ⟨rfl, s, d1, d2, fs, hs, hrow, hown⟩ | ⟨rfl, hn⟩
  · obtain ⟨a1, n1, rfl⟩ := own_form hown.d1
    obtain ⟨a2, n2, rfl⟩ := own_form hown.d2
    obtain ⟨a3, n3, rfl⟩ := own_form hown.fs
    have HO := Lib.hid hown
    have HS2 := Lib.hid hs
    have HB2 := Lib.hid hbel
    have c0 := hrow.cell (i := 0) (by omega)
    have c1 := hrow.cell (i := 1) (by omega)
    have c2 := hrow.cell (i := 2) (by omega)
    have c3 := hrow.cell (i := 3) (by omega)
    have c4 := hrow.cell (i := 4) (by omega)
    have c5 := hrow.cell (i := 5) (by omega)
    have c6 := hrow.cell (i := 6) (by omega)
    have c7 := hrow.cell (i := 7) (by omega)
    have c8 := hrow.cell (i := 8) (by omega)
    simp only [stF, stVals, List.getD_cons_succ, List.getD_cons_zero] at c0 c1 c2 c3 c4 c5 c6 c7 c8
    clear hown hs hbel hrow
    go_wp2_with fail
    refine bodyPost_ret (results_cell_tmp (by rfl) _ _ w.heap.size (stVals s (.slice a1 s.op.data.length n1) (.slice a2 s.data.length n2) (.slice a3 s.fates.length n3)) _ (by rfl) (fin9_range HG.out _ _ _ _ _ _ _ _ _) Tryz.underlying29 rfl Tryz.sizeStep) (by rfl) ?_
    rw [HS2.out]
    exact ⟨_, _, _, rfl, (HO.out.fin9 (by omega) _ _ _ _ _ _ _ _ _).mono (by omega), fin9_below HB2.out (Nat.le_refl _) _ _ _ _ _ _ _ _ _⟩
  · have HN := Lib.hid hn
    have HB2 := Lib.hid hbel
    clear hn hbel
    go_wp2_with fail
    refine bodyPost_ret (results_cell_tmp (by rfl) _ _ w.heap.size (stVals step0 (.slice none 0 0) (.slice none 0 0) (.slice none 0 0)) _ (by rfl) (fin9_range HG.out _ _ _ _ _ _ _ _ _) Tryz.underlying29 rfl Tryz.sizeStep) (by rfl) ?_
    rw [HN.out]
    exact ⟨rfl, fin9_below HB2.out (Nat.le_refl _) _ _ _ _ _ _ _ _ _⟩
end Go.Proofs.YtgkddjefmonlaaaGreatDoor
