/-
  The Decode of layer 25, the program's and the reference's: the same steps.
-/
import Derived.Test.YtgkddjefmonlaaaGreatDoorScrS
namespace Go.Proofs.YtgkddjefmonlaaaGreatDoor
open Go.RowKit

/-- so many steps off a text of bytes, and the place behind them -/
def decN (l : List UInt8) : Nat → List AStep × Nat
  | 0 => ([], 0)
  | k + 1 => ((decN l k).1 ++ [(stepAt l (decN l k).2).1], (stepAt l (decN l k).2).2)
def Goes (l : List UInt8) (k : Nat) : Prop := (decN l k).2 < l.length ∧ k < 1024
/-- where the making of steps ends -/
def Stops (l : List UInt8) (k : Nat) : Prop := (∀ j, j < k → Goes l j) ∧ ¬ Goes l k
theorem stops_unique {l : List UInt8} {k m : Nat} (h : Stops l k) (h' : Stops l m) : k = m := by
  rcases Nat.lt_trichotomy k m with hl | hl | hl
  · exact absurd (h'.1 k hl) h.2
  · exact hl
  · exact absurd (h.1 m hl) h'.2
theorem decN_length (l : List UInt8) : ∀ k, (decN l k).1.length = k
  | 0 => rfl
  | k + 1 => by simp [decN, decN_length l k]

abbrev StT := AStep × Value × Value × Value
def StT.vals (t : StT) : List Value := stVals t.1 t.2.1 t.2.2.1 t.2.2.2
/-- a slice of steps in memory -/
structure Steps (w : World) (base : Nat) (v : Value) (T : List StT) : Prop where
  row : w.ownsRow base 29 9 v T.length (T.flatMap StT.vals)
  own : ∀ t ∈ T, StOwn w base t.1 t.2.1 t.2.2.1 t.2.2.2

section
variable {w w' : World} {base base' : Nat} {v d1 d2 fs : Value} {T : List StT} {s : AStep}
theorem own_ne_own {n m : Nat} {e e' : TypeId} {z z' : Nat} {xs ys : List Value} {u : Value} (h : w.ownsRow base e z v n xs) (h' : w.ownsRow base' e' z' u m ys) (he : e ≠ e') : v.ownBlock = none ∨ v.ownBlock ≠ u.ownBlock := by
  rcases h.2 with ⟨rfl, _⟩ | ⟨g, cap, cur, rfl, _, hg, _⟩
  · exact .inl rfl
  · right
    intro hv
    rcases h'.2 with ⟨rfl, _⟩ | ⟨g', cap', cur', rfl, _, hg', _⟩
    · cases hv
    · cases hv
      rw [hg] at hg'
      cases hg'
      exact he rfl
theorem StOwn.only {B : Nat} {S : Nat → Prop} (h : StOwn w base s d1 d2 fs) (hw : Only B S w w') (hB : w.heap.size ≤ B) (hS : ∀ k, base ≤ k → ¬ S k) : StOwn w' base s d1 d2 fs :=
  ⟨own_only h.d1 hw hB fun k hk => hS k (h.d1.lt k hk).1, own_only h.d2 hw hB fun k hk => hS k (h.d2.lt k hk).1, own_only h.fs hw hB fun k hk => hS k (h.fs.lt k hk).1⟩
theorem StOwn.mono (h : StOwn w base s d1 d2 fs) (hb : base' ≤ base) : StOwn w base' s d1 d2 fs := ⟨own_mono h.d1 hb, own_mono h.d2 hb, own_mono h.fs hb⟩
theorem StOwn.alloc (h : StOwn w base s d1 d2 fs) (o : Obj) : StOwn (w.alloc o) base s d1 d2 fs := ⟨h.d1.alloc o, h.d2.alloc o, h.fs.alloc o⟩
theorem StOwn.kept {n : Nat} {xs : List Value} (h : StOwn w base s d1 d2 fs) (hr : w.ownsRow base' 29 9 v n xs) (hg : w.grownBy w' v.ownBlock) : StOwn w' base s d1 d2 fs :=
  ⟨h.d1.kept hg (own_ne_own h.d1 hr (by decide)), h.d2.kept hg (own_ne_own h.d2 hr (by decide)), h.fs.kept hg (own_ne_own h.fs hr (by decide))⟩
theorem Steps.only {B : Nat} {S : Nat → Prop} (h : Steps w base v T) (hw : Only B S w w') (hB : w.heap.size ≤ B) (hS : ∀ k, base ≤ k → ¬ S k) : Steps w' base v T :=
  ⟨own_only h.row hw hB fun k hk => hS k (h.row.lt k hk).1, fun t ht => (h.own t ht).only hw hB hS⟩
theorem Steps.alloc (h : Steps w base v T) (o : Obj) : Steps (w.alloc o) base v T := ⟨h.row.alloc o, fun t ht => (h.own t ht).alloc o⟩
theorem Steps.nil : Steps w base (.slice none 0 0) [] := ⟨World.ownsRow_nil _ _ _ _, fun _ h => by cases h⟩
theorem Steps.grown {v' : Value} (h : Steps w base v T) (hs : StOwn w base s d1 d2 fs) (hg : w.grownBy w' v.ownBlock) (hr : w'.ownsRow base 29 9 v' (T.length + 1) (T.flatMap StT.vals ++ stVals s d1 d2 fs)) : Steps w' base v' (T ++ [(s, d1, d2, fs)]) := by
  refine ⟨by simpa [StT.vals] using hr, fun t ht => ?_⟩
  rcases List.mem_append.1 ht with ht | ht
  · exact (h.own t ht).kept h.row hg
  · obtain rfl := List.mem_singleton.1 ht
    exact hs.kept h.row hg
end
theorem Tryz.infoStep : (Tryz.prog.info? 29).map (fun i => (i.zero, i.size, i.bytes)) = some (some (.agg #[.int .i64 0, .int .i64 0, .int .i64 0, .int .i64 0, .int .i64 0, .slice none 0 0, .float .f64 0, .slice none 0 0, .slice none 0 0]), 9, 120) := by kernel_rfl
theorem stVals_one (s : AStep) (a1 a2 a3 c1 c2 c3) (n1 n2 n3 : Nat) : ∀ u ∈ stVals s (.slice a1 n1 c1) (.slice a2 n2 c2) (.slice a3 n3 c3), u.oneCell' = true := by
  intro u hu
  simp only [stVals, List.mem_cons, List.not_mem_nil, or_false] at hu
  rcases hu with rfl | rfl | rfl | rfl | rfl | rfl | rfl | rfl | rfl <;> rfl

theorem src_step' (sb : Nat) (l : List UInt8) (p : Nat) (w : World) (h : SrcAt w sb (l.drop p)) (R : Ending → World → Prop)
    (hk : ∀ s q a1 c1 a2 c2 a3 c3 w', stepAt l p = (s, q) → StOwn w' w.heap.size s (.slice a1 s.op.data.length c1) (.slice a2 s.data.length c2) (.slice a3 s.fates.length c3) → SrcAt w' sb (l.drop q) → Only w.heap.size (· = sb) w w' →
      R (.returned (.agg #[.int .i64 s.kind, .int .i64 s.a, .int .i64 s.b, .int .i64 s.op.kind, .int .i64 s.op.page, .slice a1 s.op.data.length c1, .float .f64 s.op.by_, .slice a2 s.data.length c2, .slice a3 s.fates.length c3])) w') :
    Calls Tryz.prog 35 #[.pointer (some ⟨sb, 0, none⟩)] w R :=
  (src_step sb l p w h).mono (by
    rintro e w' ⟨d1, d2, fs, rfl, ho, hs, hon⟩
    obtain ⟨a1, c1, rfl⟩ := own_form ho.d1
    obtain ⟨a2, c2, rfl⟩ := own_form ho.d2
    obtain ⟨a3, c3, rfl⟩ := own_form ho.fs
    exact hk _ _ a1 c1 a2 c2 a3 c3 w' rfl ho hs hon)

set_option maxRecDepth 100000 in
theorem script_Decode (a : Option Addr) (n c : Nat) (l : List UInt8) (w : World) (h : Bs w a n c l) (hs : ∀ x, a = some x → x.block < w.heap.size) :
    Calls Tryz.prog 13 #[.slice a n c] w fun e w' => ∃ v T k, e = .returned v ∧ Stops l k ∧ T.map (·.1) = (decN l k).1 ∧ Steps w' w.heap.size v T ∧ Below w.heap.size w w' := by
  have hbl := h.len
  obtain ⟨iS, hi, hz0, hz1, hz2⟩ := info_parts Tryz.infoStep
  go_enter Tryz.func13, Tryz.ntmps13
  go_wp2_with fail
  have h0 : SrcAt (w.alloc (.cells #[.slice a l.length c] 72)) w.heap.size (l.drop (decN l 0).2) := by
    rw [← hbl]
    exact ⟨a, n, c, World.rowIs_alloc w _ _ _ (fun i hi => by match i, hi with | 0, _ => rfl), h.below ((Below.refl _ _).alloc (Nat.le_refl _) _) (Nat.le_refl _), hs⟩
  have hb0 : Below w.heap.size w (w.alloc (.cells #[.slice a l.length c] 72)) := (Below.refl _ _).alloc (Nat.le_refl _) _
  have hlb := h.lenle
  go_loopw [3] (fun v wr => ∃ (T : List StT) (k : Nat) (va : Option Addr) (vc : Nat), v = .slice va k vc ∧ T.map (·.1) = (decN l k).1 ∧ (∀ j, j < k → Goes l j) ∧ k ≤ 1024 ∧ Steps wr (w.heap.size + 1) v T ∧ SrcAt wr w.heap.size (l.drop (decN l k).2) ∧ Below w.heap.size w wr ∧ w.heap.size + 1 ≤ wr.heap.size) (fun v _ => 1024 - (match v with | .slice _ n _ => n | _ => 0))
  case atStart => exact ⟨[], 0, none, 0, rfl, rfl, (fun j hj => absurd hj (Nat.not_lt_zero j)), by omega, Steps.nil, h0, hb0, by simp⟩
  case round =>
    clear h0 hb0
    obtain ⟨T, k, va, vc, rfl, hT, hG, hk, hS, hsrc, hbel, hsz⟩ := hrel
    have hTl : T.length = k := by have := congrArg List.length hT; rw [List.length_map, decN_length] at this; exact this
    obtain ⟨ra, rn, rc, hrr, hrb, _⟩ := hsrc.row
    have hrn := hrb.len
    have c0 := hrr.cell (i := 0) (by omega)
    rw [List.length_drop] at hrn
    have HT := Lib.hid hT
    have HTL := Lib.hid hTl
    have HRN := Lib.hid hrn
    have HBL := Lib.hid hbl
    by_cases hgo : Goes l k
    · have hg1 : (0 : Int) < (rn : Int) := by have := hgo.1; omega
      have hg2 : (k : Int) < 1024 := by have := hgo.2; omega
      have HG := Lib.hid hgo
      clear hT hTl hrn hbl hgo
      go_wp2_with (first
        | (go_at_call 35; refine src_step' w.heap.size l (decN l k).2 wr hsrc _ ?_; intro s q a1 c1 a2 c2 a3 c3 w2 hst hown2 hsrc2 ho2; have hst' := Lib.hid hst; clear hst; have hS2 := (hS.only ho2 (Nat.le_refl _) (by intro k' hk' e; omega)); have hrow2 := hS2.row; rw [HTL.out] at hrow2; have hz2s := ho2.size)
        | (at_builtin; refine wpList_append_vals rfl _ _ _ rfl (w.heap.size + 1) 29 _ 9 120 Tryz.underlying37 hi hz0 hz1 hz2 rfl (by decide) _ k _ rfl (hrow2.alloc _) _ 0 1 1 (stVals s (.slice a1 s.op.data.length c1) (.slice a2 s.data.length c2) (.slice a3 s.fates.length c3)) rfl rfl (reads_new (heap_al_new _ _)) (stVals_one _ _ _ _ _ _ _ _ _ _) (by unfold maxLen; omega) (by omega) (by simp; omega) ?_; intro v3 w3 hown3 hgrow3 hblk3; obtain ⟨a4, c4, hv4⟩ := own_form hown3; subst hv4))
      have hown2' := hown2.mono (base' := w.heap.size + 1) hsz
      have hS3 : Steps w3 (w.heap.size + 1) (.slice a4 (k + 1) c4) (T ++ [(s, .slice a1 s.op.data.length c1, .slice a2 s.data.length c2, .slice a3 s.fates.length c3)]) := by
        refine (hS2.alloc _).grown (hown2'.alloc _) hgrow3 ?_
        rw [HTL.out]; exact hown3
      have hsr : SrcAt w3 w.heap.size (l.drop q) := hsrc2.only (B := w2.heap.size) (S := fun k => w.heap.size + 1 ≤ k) (((Only.refl _ _ _).alloc (Nat.le_refl _) _).grown hgrow3 (by simp) (fun k' hk' => .inr (hrow2.lt k' hk').1)) (Nat.le_refl _) (by intro k' hk'; omega)
      have hbel3 : Below w.heap.size w w3 := ((hbel.trans (ho2.below (B' := w.heap.size) (by omega) (by rintro k' rfl; exact Nat.le_refl _))).alloc (by omega) _).grown hgrow3 (by simp; omega) (fun k' hk' => by have := (hrow2.lt k' hk').1; omega)
      have hsz3 := hgrow3.size
      simp at hsz3
      go_roundw
      case rel =>
        have hq : decN l (k + 1) = ((decN l k).1 ++ [s], q) := by simp only [decN, hst'.out]
        refine ⟨_, k + 1, a4, c4, rfl, ?_, ?_, by have := HG.out.2; omega, hS3, by rw [hq]; exact hsr, hbel3, by omega⟩
        · rw [hq, List.map_append, HT.out]; rfl
        · intro j hj
          by_cases e : j = k
          · subst e; exact HG.out
          · exact hG j (by omega)
      case measure => have := HG.out.2; simp; omega
    · have hstop : Stops l k := ⟨hG, hgo⟩
      have HP := Lib.hid hstop
      by_cases hp : (decN l k).2 < l.length
      · have hk1 : k = 1024 := by unfold Goes at hgo; omega
        subst hk1
        have hg1 : (0 : Int) < (rn : Int) := by omega
        clear hT hTl hrn hbl hgo hstop
        go_wp2_with fail
        go_ret
        exact ⟨_, T, 1024, rfl, HP.out, HT.out, ⟨own_mono hS.row (by omega), fun t ht => (hS.own t ht).mono (by omega)⟩, hbel⟩
      · have hr0 : rn = 0 := by omega
        subst hr0
        clear hT hTl hrn hbl hgo hstop
        go_wp2_with fail
        go_ret
        exact ⟨_, T, k, rfl, HP.out, HT.out, ⟨own_mono hS.row (by omega), fun t ht => (hS.own t ht).mono (by omega)⟩, hbel⟩

theorem rs_step' (sb : Nat) (l : List UInt8) (p : Nat) (w : World) (h : RS sb l w p) (hp : p ≤ 999999999998000) (hsb : sb < w.heap.size) (R : Ending → World → Prop)
    (hk : ∀ s q a1 c1 a2 c2 a3 c3 w', stepAt l p = (s, q) → StOwn w' w.heap.size s (.slice a1 s.op.data.length c1) (.slice a2 s.data.length c2) (.slice a3 s.fates.length c3) → RS sb l w' q → Only w.heap.size (· = sb) w w' →
      R (.returned (.agg #[.int .i64 s.kind, .int .i64 s.a, .int .i64 s.b, .int .i64 s.op.kind, .int .i64 s.op.page, .slice a1 s.op.data.length c1, .float .f64 s.op.by_, .slice a2 s.data.length c2, .slice a3 s.fates.length c3])) w') :
    Calls Tryz.prog 36 #[.pointer (some ⟨sb, 0, none⟩)] w R :=
  (rs_step sb l p w h hp hsb).mono (by
    rintro e w' ⟨d1, d2, fs, rfl, ho, hs, hon⟩
    obtain ⟨a1, c1, rfl⟩ := own_form ho.d1
    obtain ⟨a2, c2, rfl⟩ := own_form ho.d2
    obtain ⟨a3, c3, rfl⟩ := own_form ho.fs
    exact hk _ _ a1 c1 a2 c2 a3 c3 w' rfl ho hs hon)

set_option maxRecDepth 100000 in
theorem ref25_Decode (a : Option Addr) (n c : Nat) (l : List UInt8) (w : World) (h : Bs w a n c l) (hs : ∀ x, a = some x → x.block < w.heap.size) :
    Calls Tryz.prog 15 #[.slice a n c] w fun e w' => ∃ v T k, e = .returned v ∧ Stops l k ∧ T.map (·.1) = (decN l k).1 ∧ Steps w' w.heap.size v T ∧ Below w.heap.size w w' := by
  have hbl := h.len
  obtain ⟨iS, hi, hz0, hz1, hz2⟩ := info_parts Tryz.infoStep
  go_enter Tryz.func15, Tryz.ntmps15
  go_wp2_with fail
  have h0 : RS w.heap.size l (w.alloc (.cells #[.slice a l.length c, .int .i64 0] 76)) (decN l 0).2 := by
    rw [← hbl]
    exact ⟨a, n, c, World.rowIs_alloc w _ _ _ (fun i hi => by match i, hi with | 0, _ => rfl | 1, _ => rfl), h.below ((Below.refl _ _).alloc (Nat.le_refl _) _) (Nat.le_refl _), hs⟩
  have hb0 : Below w.heap.size w (w.alloc (.cells #[.slice a l.length c, .int .i64 0] 76)) := (Below.refl _ _).alloc (Nat.le_refl _) _
  have hlb := h.lenle
  have hK := kept_rs w.heap.size l
  go_loopw [3] (fun v wr => ∃ (T : List StT) (k : Nat) (va : Option Addr) (vc : Nat), v = .slice va k vc ∧ T.map (·.1) = (decN l k).1 ∧ (∀ j, j < k → Goes l j) ∧ k ≤ 1024 ∧ Steps wr (w.heap.size + 1) v T ∧ RS w.heap.size l wr (decN l k).2 ∧ Below w.heap.size w wr ∧ w.heap.size + 1 ≤ wr.heap.size) (fun v _ => 1024 - (match v with | .slice _ n _ => n | _ => 0))
  case atStart => exact ⟨[], 0, none, 0, rfl, rfl, (fun j hj => absurd hj (Nat.not_lt_zero j)), by omega, Steps.nil, h0, hb0, by simp⟩
  case round =>
    clear h0 hb0
    obtain ⟨T, k, va, vc, rfl, hT, hG, hk, hS, hsrc, hbel, hsz⟩ := hrel
    have hTl : T.length = k := by have := congrArg List.length hT; rw [List.length_map, decN_length] at this; exact this
    obtain ⟨P, hP⟩ : ∃ P, P = (decN l k).2 := ⟨_, rfl⟩
    rw [← hP] at hsrc
    obtain ⟨ra, rn, rc, hrr, hrb, _⟩ := id hsrc
    have c1 := hrr.cell (i := 1) (by omega)
    simp only [rsF] at c1
    have HT := Lib.hid hT
    have HTL := Lib.hid hTl
    have HP := Lib.hid hP
    have HBL := Lib.hid hbl
    by_cases hgo : Goes l k
    · have hg0 : P < l.length := by rw [hP]; exact hgo.1
      have hg1 : (P : Int) < (n : Int) := by omega
      have hg1' : (P : Int) < (l.length : Int) := by omega
      have hg2 : (k : Int) < 1024 := by have := hgo.2; omega
      have HG := Lib.hid hgo
      clear hT hTl hbl hgo hP
      go_wp2_with (first
        | (go_at_call 36; refine rs_step' w.heap.size l P wr hsrc (by omega) (by omega) _ ?_; intro s q a1 c1 a2 c2 a3 c3 w2 hst hown2 hsrc2 ho2; have hst' := Lib.hid hst; clear hst; have hS2 := (hS.only ho2 (Nat.le_refl _) (by intro k' hk' e; omega)); have hrow2 := hS2.row; rw [HTL.out] at hrow2; have hz2s := ho2.size)
        | (at_builtin; refine wpList_append_vals rfl _ _ _ rfl (w.heap.size + 1) 29 _ 9 120 Tryz.underlying37 hi hz0 hz1 hz2 rfl (by decide) _ k _ rfl (hrow2.alloc _) _ 0 1 1 (stVals s (.slice a1 s.op.data.length c1) (.slice a2 s.data.length c2) (.slice a3 s.fates.length c3)) rfl rfl (reads_new (heap_al_new _ _)) (stVals_one _ _ _ _ _ _ _ _ _ _) (by unfold maxLen; omega) (by omega) (by simp; omega) ?_; intro v3 w3 hown3 hgrow3 hblk3; obtain ⟨a4, c4, hv4⟩ := own_form hown3; subst hv4))
      have hown2' := hown2.mono (base' := w.heap.size + 1) hsz
      have hS3 : Steps w3 (w.heap.size + 1) (.slice a4 (k + 1) c4) (T ++ [(s, .slice a1 s.op.data.length c1, .slice a2 s.data.length c2, .slice a3 s.fates.length c3)]) := by
        refine (hS2.alloc _).grown (hown2'.alloc _) hgrow3 ?_
        rw [HTL.out]; exact hown3
      have hsr : RS w.heap.size l w3 q := hK w2 w3 q (fun k => w.heap.size + 1 ≤ k) hsrc2 (((Only.refl _ _ _).alloc (Nat.le_refl _) _).grown hgrow3 (by simp) (fun k' hk' => .inr (hrow2.lt k' hk').1)) (by intro k' hk'; omega)
      have hbel3 : Below w.heap.size w w3 := ((hbel.trans (ho2.below (B' := w.heap.size) (by omega) (by rintro k' rfl; exact Nat.le_refl _))).alloc (by omega) _).grown hgrow3 (by simp; omega) (fun k' hk' => by have := (hrow2.lt k' hk').1; omega)
      have hsz3 := hgrow3.size
      simp at hsz3
      go_roundw
      case rel =>
        have hq : decN l (k + 1) = ((decN l k).1 ++ [s], q) := by simp only [decN, ← HP.out, hst'.out]
        refine ⟨_, k + 1, a4, c4, rfl, ?_, ?_, by have := HG.out.2; omega, hS3, by rw [hq]; exact hsr, hbel3, by omega⟩
        · rw [hq, List.map_append, HT.out]; rfl
        · intro j hj
          by_cases e : j = k
          · subst e; exact HG.out
          · exact hG j (by omega)
      case measure => have := HG.out.2; simp; omega
    · have hstop : Stops l k := ⟨hG, hgo⟩
      have HS := Lib.hid hstop
      by_cases hp : P < l.length
      · have hk1 : k = 1024 := by unfold Goes at hgo; omega
        subst hk1
        have hg1 : (P : Int) < (n : Int) := by omega
        have hg1' : (P : Int) < (l.length : Int) := by omega
        clear hT hTl hbl hgo hstop hP
        go_wp2_with fail
        go_ret
        exact ⟨_, T, 1024, rfl, HS.out, HT.out, ⟨own_mono hS.row (by omega), fun t ht => (hS.own t ht).mono (by omega)⟩, hbel⟩
      · have hg1 : (l.length : Int) ≤ (P : Int) := by omega
        have hg1' : (n : Int) ≤ (P : Int) := by omega
        clear hT hTl hbl hgo hstop hP
        go_wp2_with fail
        go_ret
        exact ⟨_, T, k, rfl, HS.out, HT.out, ⟨own_mono hS.row (by omega), fun t ht => (hS.own t ht).mono (by omega)⟩, hbel⟩
end Go.Proofs.YtgkddjefmonlaaaGreatDoor
