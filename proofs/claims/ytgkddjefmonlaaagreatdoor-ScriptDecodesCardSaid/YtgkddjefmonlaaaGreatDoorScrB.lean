/-
  A step, read off words: layer 25, parse mode.
-/
import Derived.Test.YtgkddjefmonlaaaGreatDoorScrA
namespace Go.Proofs.YtgkddjefmonlaaaGreatDoor
open Go.RowKit

def step0 : AStep := ⟨0, 0, 0, op0, [], []⟩
/-- a step, off words -/
def stepN (ws : List ByteArray) : Option (AStep × List ByteArray) :=
  match choiceN stepTbl ws with
  | none => none
  | some (k, r) =>
    if k = 1 then match numN r with
      | none => none
      | some (a, r) => match askN r with
        | none => none
        | some (op, r) => some (⟨1, a, 0, op, [], []⟩, r)
    else if k = 2 ∨ k = 3 ∨ k = 6 ∨ k = 11 then match numN r with
      | none => none
      | some (a, r) => some (⟨k, a, 0, op0, [], []⟩, r)
    else if k = 9 then match numN r with
      | none => none
      | some (a, r) => match numN r with
        | none => none
        | some (b, r) => some (⟨9, a, b, op0, [], []⟩, r)
    else if k = 8 then match numN r with
      | none => none
      | some (a, r) => match numN r with
        | none => none
        | some (b, r) => match dataN 256 r with
          | none => none
          | some (d, r) => some (⟨8, a, b, op0, d, []⟩, r)
    else if k = 7 then match numN r with
      | none => none
      | some (a, r) => match fatesN r with
        | none => none
        | some (l, r) => some (⟨7, a, 0, op0, [], l⟩, r)
    else if k = 12 then match numN r with
      | none => none
      | some (a, r) => match bitsN r with
        | none => none
        | some (x, r) => some (⟨12, a, 0, ⟨0, 0, [], x⟩, [], []⟩, r)
    else some (⟨k, 0, 0, op0, [], []⟩, r)

set_option maxHeartbeats 1000000 in
set_option maxRecDepth 100000 in
theorem Pz.step_1 {w W : World} {fb wb sb : Nat} {ws r1 : List ByteArray} {R : Ending → World → Prop} (h : Pz w W fb wb sb ws step0 (.slice none 0 0) (.slice none 0 0) (.slice none 0 0)) (hk : choiceN stepTbl ws = some (1, r1))
    (hp : stepN ws = none → ∀ W', Only w.heap.size (fun k => k = fb ∨ k = sb) w W' → R (.panicked badChain) W')
    (hr : ∀ s r d1 d2 fs W', stepN ws = some (s, r) → Pz w W' fb wb sb r s d1 d2 fs → R (.returned (.tuple #[])) W') :
    Calls Tryz.prog 24 #[.pointer (some ⟨fb, 0, none⟩), .pointer (some ⟨sb, 0, none⟩)] W R := by
  have HP := Lib.hid hp
  have HR := Lib.hid hr
  have HK := Lib.hid hk
  have hsz := h.form.lt
  have hfb := h.lf
  clear hp hr hk
  go_enter Tryz.func24, Tryz.ntmps24
  go_wp2_with fail
  have hd := h.below (below_drewN W 1)
  have hszd : fb < W.drew.heap.size := hsz
  have HD := Lib.hid hd
  clear hd
  go_region_with (first
    | (go_at_call 49; refine (script_steps' _).mono ?_; rintro e w1 ⟨tb, rfl, htb, hrt, hb1⟩)
    | (go_at_call 48; refine (HD.out.below hb1).kind (tbl := stepTbl) hrt (by omega) rfl (by omega) (by omega) (fun hn W' ho => by rw [HK.out] at hn; cases hn) ?_; intro k' r1' W1 hk1 h1))
  obtain ⟨rfl, rfl⟩ : k' = 1 ∧ r1' = r1 := by rw [HK.out] at hk1; simp at hk1; exact ⟨hk1.1.symm, hk1.2.symm⟩
  have c3 := h1.cell 0 (by omega)
  simp only [stF, stVals, List.getD_cons_zero] at c3
  have hfb' := hfb
  clear hk1 hrt htb hb1 hsz hszd HD h
  go_wp2_with (first
    | (go_at_call 50; refine h1.numA (fun hn W' ho => ⟨rfl, HP.out (by simp only [stepN, HK.out, hn]; rfl) _ ho⟩) ?_; intro n r2 W2 hn2 h2; have HN2 := Lib.hid hn2; clear hn2 h1)
    | (go_at_call 54; refine h2.ask rfl (fun hn W' ho => ⟨rfl, HP.out (by simp only [stepN, HK.out, HN2.out, hn]; rfl) _ ho⟩) ?_; intro op r3 d W3 hn3 h3; have HN3 := Lib.hid hn3; clear hn3))
  go_end0
  exact HR.out ⟨1, n, 0, op, [], []⟩ r3 d (.slice none 0 0) (.slice none 0 0) _ (by simp only [stepN, HK.out, HN2.out, HN3.out]; rfl) h3
set_option maxHeartbeats 1000000 in
set_option maxRecDepth 100000 in
theorem Pz.step_2 {w W : World} {fb wb sb : Nat} {ws r1 : List ByteArray} {R : Ending → World → Prop} (h : Pz w W fb wb sb ws step0 (.slice none 0 0) (.slice none 0 0) (.slice none 0 0)) (hk : choiceN stepTbl ws = some (2, r1))
    (hp : stepN ws = none → ∀ W', Only w.heap.size (fun k => k = fb ∨ k = sb) w W' → R (.panicked badChain) W')
    (hr : ∀ s r d1 d2 fs W', stepN ws = some (s, r) → Pz w W' fb wb sb r s d1 d2 fs → R (.returned (.tuple #[])) W') :
    Calls Tryz.prog 24 #[.pointer (some ⟨fb, 0, none⟩), .pointer (some ⟨sb, 0, none⟩)] W R := by
  have HP := Lib.hid hp
  have HR := Lib.hid hr
  have HK := Lib.hid hk
  have hsz := h.form.lt
  have hfb := h.lf
  clear hp hr hk
  go_enter Tryz.func24, Tryz.ntmps24
  go_wp2_with fail
  have hd := h.below (below_drewN W 1)
  have hszd : fb < W.drew.heap.size := hsz
  have HD := Lib.hid hd
  clear hd
  go_region_with (first
    | (go_at_call 49; refine (script_steps' _).mono ?_; rintro e w1 ⟨tb, rfl, htb, hrt, hb1⟩)
    | (go_at_call 48; refine (HD.out.below hb1).kind (tbl := stepTbl) hrt (by omega) rfl (by omega) (by omega) (fun hn W' ho => by rw [HK.out] at hn; cases hn) ?_; intro k' r1' W1 hk1 h1))
  obtain ⟨rfl, rfl⟩ : k' = 2 ∧ r1' = r1 := by rw [HK.out] at hk1; simp at hk1; exact ⟨hk1.1.symm, hk1.2.symm⟩
  have c3 := h1.cell 0 (by omega)
  simp only [stF, stVals, List.getD_cons_zero] at c3
  have hfb' := hfb
  clear hk1 hrt htb hb1 hsz hszd HD h
  go_wp2_with (go_at_call 50; refine h1.numA (fun hn W' ho => ⟨rfl, HP.out (by simp only [stepN, HK.out, hn]; rfl) _ ho⟩) ?_; intro n r2 W2 hn2 h2; have HN2 := Lib.hid hn2; clear hn2 h1)
  go_end0
  exact HR.out ⟨2, n, 0, op0, [], []⟩ r2 (.slice none 0 0) (.slice none 0 0) (.slice none 0 0) _ (by simp only [stepN, HK.out, HN2.out]; rfl) h2
set_option maxHeartbeats 1000000 in
set_option maxRecDepth 100000 in
theorem Pz.step_3 {w W : World} {fb wb sb : Nat} {ws r1 : List ByteArray} {R : Ending → World → Prop} (h : Pz w W fb wb sb ws step0 (.slice none 0 0) (.slice none 0 0) (.slice none 0 0)) (hk : choiceN stepTbl ws = some (3, r1))
    (hp : stepN ws = none → ∀ W', Only w.heap.size (fun k => k = fb ∨ k = sb) w W' → R (.panicked badChain) W')
    (hr : ∀ s r d1 d2 fs W', stepN ws = some (s, r) → Pz w W' fb wb sb r s d1 d2 fs → R (.returned (.tuple #[])) W') :
    Calls Tryz.prog 24 #[.pointer (some ⟨fb, 0, none⟩), .pointer (some ⟨sb, 0, none⟩)] W R := by
  have HP := Lib.hid hp
  have HR := Lib.hid hr
  have HK := Lib.hid hk
  have hsz := h.form.lt
  have hfb := h.lf
  clear hp hr hk
  go_enter Tryz.func24, Tryz.ntmps24
  go_wp2_with fail
  have hd := h.below (below_drewN W 1)
  have hszd : fb < W.drew.heap.size := hsz
  have HD := Lib.hid hd
  clear hd
  go_region_with (first
    | (go_at_call 49; refine (script_steps' _).mono ?_; rintro e w1 ⟨tb, rfl, htb, hrt, hb1⟩)
    | (go_at_call 48; refine (HD.out.below hb1).kind (tbl := stepTbl) hrt (by omega) rfl (by omega) (by omega) (fun hn W' ho => by rw [HK.out] at hn; cases hn) ?_; intro k' r1' W1 hk1 h1))
  obtain ⟨rfl, rfl⟩ : k' = 3 ∧ r1' = r1 := by rw [HK.out] at hk1; simp at hk1; exact ⟨hk1.1.symm, hk1.2.symm⟩
  have c3 := h1.cell 0 (by omega)
  simp only [stF, stVals, List.getD_cons_zero] at c3
  have hfb' := hfb
  clear hk1 hrt htb hb1 hsz hszd HD h
  go_wp2_with (go_at_call 50; refine h1.numA (fun hn W' ho => ⟨rfl, HP.out (by simp only [stepN, HK.out, hn]; rfl) _ ho⟩) ?_; intro n r2 W2 hn2 h2; have HN2 := Lib.hid hn2; clear hn2 h1)
  go_end0
  exact HR.out ⟨3, n, 0, op0, [], []⟩ r2 (.slice none 0 0) (.slice none 0 0) (.slice none 0 0) _ (by simp only [stepN, HK.out, HN2.out]; rfl) h2
set_option maxHeartbeats 1000000 in
set_option maxRecDepth 100000 in
theorem Pz.step_6 {w W : World} {fb wb sb : Nat} {ws r1 : List ByteArray} {R : Ending → World → Prop} (h : Pz w W fb wb sb ws step0 (.slice none 0 0) (.slice none 0 0) (.slice none 0 0)) (hk : choiceN stepTbl ws = some (6, r1))
    (hp : stepN ws = none → ∀ W', Only w.heap.size (fun k => k = fb ∨ k = sb) w W' → R (.panicked badChain) W')
    (hr : ∀ s r d1 d2 fs W', stepN ws = some (s, r) → Pz w W' fb wb sb r s d1 d2 fs → R (.returned (.tuple #[])) W') :
    Calls Tryz.prog 24 #[.pointer (some ⟨fb, 0, none⟩), .pointer (some ⟨sb, 0, none⟩)] W R := by
  have HP := Lib.hid hp
  have HR := Lib.hid hr
  have HK := Lib.hid hk
  have hsz := h.form.lt
  have hfb := h.lf
  clear hp hr hk
  go_enter Tryz.func24, Tryz.ntmps24
  go_wp2_with fail
  have hd := h.below (below_drewN W 1)
  have hszd : fb < W.drew.heap.size := hsz
  have HD := Lib.hid hd
  clear hd
  go_region_with (first
    | (go_at_call 49; refine (script_steps' _).mono ?_; rintro e w1 ⟨tb, rfl, htb, hrt, hb1⟩)
    | (go_at_call 48; refine (HD.out.below hb1).kind (tbl := stepTbl) hrt (by omega) rfl (by omega) (by omega) (fun hn W' ho => by rw [HK.out] at hn; cases hn) ?_; intro k' r1' W1 hk1 h1))
  obtain ⟨rfl, rfl⟩ : k' = 6 ∧ r1' = r1 := by rw [HK.out] at hk1; simp at hk1; exact ⟨hk1.1.symm, hk1.2.symm⟩
  have c3 := h1.cell 0 (by omega)
  simp only [stF, stVals, List.getD_cons_zero] at c3
  have hfb' := hfb
  clear hk1 hrt htb hb1 hsz hszd HD h
  go_wp2_with (go_at_call 50; refine h1.numA (fun hn W' ho => ⟨rfl, HP.out (by simp only [stepN, HK.out, hn]; rfl) _ ho⟩) ?_; intro n r2 W2 hn2 h2; have HN2 := Lib.hid hn2; clear hn2 h1)
  go_end0
  exact HR.out ⟨6, n, 0, op0, [], []⟩ r2 (.slice none 0 0) (.slice none 0 0) (.slice none 0 0) _ (by simp only [stepN, HK.out, HN2.out]; rfl) h2
set_option maxHeartbeats 1000000 in
set_option maxRecDepth 100000 in
theorem Pz.step_11 {w W : World} {fb wb sb : Nat} {ws r1 : List ByteArray} {R : Ending → World → Prop} (h : Pz w W fb wb sb ws step0 (.slice none 0 0) (.slice none 0 0) (.slice none 0 0)) (hk : choiceN stepTbl ws = some (11, r1))
    (hp : stepN ws = none → ∀ W', Only w.heap.size (fun k => k = fb ∨ k = sb) w W' → R (.panicked badChain) W')
    (hr : ∀ s r d1 d2 fs W', stepN ws = some (s, r) → Pz w W' fb wb sb r s d1 d2 fs → R (.returned (.tuple #[])) W') :
    Calls Tryz.prog 24 #[.pointer (some ⟨fb, 0, none⟩), .pointer (some ⟨sb, 0, none⟩)] W R := by
  have HP := Lib.hid hp
  have HR := Lib.hid hr
  have HK := Lib.hid hk
  have hsz := h.form.lt
  have hfb := h.lf
  clear hp hr hk
  go_enter Tryz.func24, Tryz.ntmps24
  go_wp2_with fail
  have hd := h.below (below_drewN W 1)
  have hszd : fb < W.drew.heap.size := hsz
  have HD := Lib.hid hd
  clear hd
  go_region_with (first
    | (go_at_call 49; refine (script_steps' _).mono ?_; rintro e w1 ⟨tb, rfl, htb, hrt, hb1⟩)
    | (go_at_call 48; refine (HD.out.below hb1).kind (tbl := stepTbl) hrt (by omega) rfl (by omega) (by omega) (fun hn W' ho => by rw [HK.out] at hn; cases hn) ?_; intro k' r1' W1 hk1 h1))
  obtain ⟨rfl, rfl⟩ : k' = 11 ∧ r1' = r1 := by rw [HK.out] at hk1; simp at hk1; exact ⟨hk1.1.symm, hk1.2.symm⟩
  have c3 := h1.cell 0 (by omega)
  simp only [stF, stVals, List.getD_cons_zero] at c3
  have hfb' := hfb
  clear hk1 hrt htb hb1 hsz hszd HD h
  go_wp2_with (go_at_call 50; refine h1.numA (fun hn W' ho => ⟨rfl, HP.out (by simp only [stepN, HK.out, hn]; rfl) _ ho⟩) ?_; intro n r2 W2 hn2 h2; have HN2 := Lib.hid hn2; clear hn2 h1)
  go_end0
  exact HR.out ⟨11, n, 0, op0, [], []⟩ r2 (.slice none 0 0) (.slice none 0 0) (.slice none 0 0) _ (by simp only [stepN, HK.out, HN2.out]; rfl) h2
set_option maxHeartbeats 1000000 in
set_option maxRecDepth 100000 in
theorem Pz.step_9 {w W : World} {fb wb sb : Nat} {ws r1 : List ByteArray} {R : Ending → World → Prop} (h : Pz w W fb wb sb ws step0 (.slice none 0 0) (.slice none 0 0) (.slice none 0 0)) (hk : choiceN stepTbl ws = some (9, r1))
    (hp : stepN ws = none → ∀ W', Only w.heap.size (fun k => k = fb ∨ k = sb) w W' → R (.panicked badChain) W')
    (hr : ∀ s r d1 d2 fs W', stepN ws = some (s, r) → Pz w W' fb wb sb r s d1 d2 fs → R (.returned (.tuple #[])) W') :
    Calls Tryz.prog 24 #[.pointer (some ⟨fb, 0, none⟩), .pointer (some ⟨sb, 0, none⟩)] W R := by
  have HP := Lib.hid hp
  have HR := Lib.hid hr
  have HK := Lib.hid hk
  have hsz := h.form.lt
  have hfb := h.lf
  clear hp hr hk
  go_enter Tryz.func24, Tryz.ntmps24
  go_wp2_with fail
  have hd := h.below (below_drewN W 1)
  have hszd : fb < W.drew.heap.size := hsz
  have HD := Lib.hid hd
  clear hd
  go_region_with (first
    | (go_at_call 49; refine (script_steps' _).mono ?_; rintro e w1 ⟨tb, rfl, htb, hrt, hb1⟩)
    | (go_at_call 48; refine (HD.out.below hb1).kind (tbl := stepTbl) hrt (by omega) rfl (by omega) (by omega) (fun hn W' ho => by rw [HK.out] at hn; cases hn) ?_; intro k' r1' W1 hk1 h1))
  obtain ⟨rfl, rfl⟩ : k' = 9 ∧ r1' = r1 := by rw [HK.out] at hk1; simp at hk1; exact ⟨hk1.1.symm, hk1.2.symm⟩
  have c3 := h1.cell 0 (by omega)
  simp only [stF, stVals, List.getD_cons_zero] at c3
  have hfb' := hfb
  clear hk1 hrt htb hb1 hsz hszd HD h
  go_wp2_with (first
    | (go_at_call 50; refine h1.numA (fun hn W' ho => ⟨rfl, HP.out (by simp only [stepN, HK.out, hn]; rfl) _ ho⟩) ?_; intro n r2 W2 hn2 h2; have HN2 := Lib.hid hn2; clear hn2 h1)
    | (go_at_call 50; refine h2.numB (fun hn W' ho => ⟨rfl, HP.out (by simp only [stepN, HK.out, HN2.out, hn]; rfl) _ ho⟩) ?_; intro b r3 W3 hn3 h3; have HN3 := Lib.hid hn3; clear hn3))
  go_end0
  exact HR.out ⟨9, n, b, op0, [], []⟩ r3 (.slice none 0 0) (.slice none 0 0) (.slice none 0 0) _ (by simp only [stepN, HK.out, HN2.out, HN3.out]; rfl) h3
set_option maxHeartbeats 1000000 in
set_option maxRecDepth 100000 in
theorem Pz.step_8 {w W : World} {fb wb sb : Nat} {ws r1 : List ByteArray} {R : Ending → World → Prop} (h : Pz w W fb wb sb ws step0 (.slice none 0 0) (.slice none 0 0) (.slice none 0 0)) (hk : choiceN stepTbl ws = some (8, r1))
    (hp : stepN ws = none → ∀ W', Only w.heap.size (fun k => k = fb ∨ k = sb) w W' → R (.panicked badChain) W')
    (hr : ∀ s r d1 d2 fs W', stepN ws = some (s, r) → Pz w W' fb wb sb r s d1 d2 fs → R (.returned (.tuple #[])) W') :
    Calls Tryz.prog 24 #[.pointer (some ⟨fb, 0, none⟩), .pointer (some ⟨sb, 0, none⟩)] W R := by
  have HP := Lib.hid hp
  have HR := Lib.hid hr
  have HK := Lib.hid hk
  have hsz := h.form.lt
  have hfb := h.lf
  clear hp hr hk
  go_enter Tryz.func24, Tryz.ntmps24
  go_wp2_with fail
  have hd := h.below (below_drewN W 1)
  have hszd : fb < W.drew.heap.size := hsz
  have HD := Lib.hid hd
  clear hd
  go_region_with (first
    | (go_at_call 49; refine (script_steps' _).mono ?_; rintro e w1 ⟨tb, rfl, htb, hrt, hb1⟩)
    | (go_at_call 48; refine (HD.out.below hb1).kind (tbl := stepTbl) hrt (by omega) rfl (by omega) (by omega) (fun hn W' ho => by rw [HK.out] at hn; cases hn) ?_; intro k' r1' W1 hk1 h1))
  obtain ⟨rfl, rfl⟩ : k' = 8 ∧ r1' = r1 := by rw [HK.out] at hk1; simp at hk1; exact ⟨hk1.1.symm, hk1.2.symm⟩
  have c3 := h1.cell 0 (by omega)
  simp only [stF, stVals, List.getD_cons_zero] at c3
  have hfb' := hfb
  clear hk1 hrt htb hb1 hsz hszd HD h
  go_wp2_with (first
    | (go_at_call 50; refine h1.numA (fun hn W' ho => ⟨rfl, HP.out (by simp only [stepN, HK.out, hn]; rfl) _ ho⟩) ?_; intro n r2 W2 hn2 h2; have HN2 := Lib.hid hn2; clear hn2 h1)
    | (go_at_call 50; refine h2.numB (fun hn W' ho => ⟨rfl, HP.out (by simp only [stepN, HK.out, HN2.out, hn]; rfl) _ ho⟩) ?_; intro b r3 W3 hn3 h3; have HN3 := Lib.hid hn3; clear hn3)
    | (go_at_call 51; refine h3.dataS (m := 256) (by omega) (fun hn W' ho => ⟨rfl, HP.out (by simp only [stepN, HK.out, HN2.out, HN3.out, hn]; rfl) _ ho⟩) ?_; intro l r4 d W4 hn4 h4; have HN4 := Lib.hid hn4; clear hn4))
  go_end0
  exact HR.out ⟨8, n, b, op0, l, []⟩ r4 (.slice none 0 0) d (.slice none 0 0) _ (by simp only [stepN, HK.out, HN2.out, HN3.out, HN4.out]; rfl) h4
set_option maxHeartbeats 1000000 in
set_option maxRecDepth 100000 in
theorem Pz.step_7 {w W : World} {fb wb sb : Nat} {ws r1 : List ByteArray} {R : Ending → World → Prop} (h : Pz w W fb wb sb ws step0 (.slice none 0 0) (.slice none 0 0) (.slice none 0 0)) (hk : choiceN stepTbl ws = some (7, r1))
    (hp : stepN ws = none → ∀ W', Only w.heap.size (fun k => k = fb ∨ k = sb) w W' → R (.panicked badChain) W')
    (hr : ∀ s r d1 d2 fs W', stepN ws = some (s, r) → Pz w W' fb wb sb r s d1 d2 fs → R (.returned (.tuple #[])) W') :
    Calls Tryz.prog 24 #[.pointer (some ⟨fb, 0, none⟩), .pointer (some ⟨sb, 0, none⟩)] W R := by
  have HP := Lib.hid hp
  have HR := Lib.hid hr
  have HK := Lib.hid hk
  have hsz := h.form.lt
  have hfb := h.lf
  clear hp hr hk
  go_enter Tryz.func24, Tryz.ntmps24
  go_wp2_with fail
  have hd := h.below (below_drewN W 1)
  have hszd : fb < W.drew.heap.size := hsz
  have HD := Lib.hid hd
  clear hd
  go_region_with (first
    | (go_at_call 49; refine (script_steps' _).mono ?_; rintro e w1 ⟨tb, rfl, htb, hrt, hb1⟩)
    | (go_at_call 48; refine (HD.out.below hb1).kind (tbl := stepTbl) hrt (by omega) rfl (by omega) (by omega) (fun hn W' ho => by rw [HK.out] at hn; cases hn) ?_; intro k' r1' W1 hk1 h1))
  obtain ⟨rfl, rfl⟩ : k' = 7 ∧ r1' = r1 := by rw [HK.out] at hk1; simp at hk1; exact ⟨hk1.1.symm, hk1.2.symm⟩
  have c3 := h1.cell 0 (by omega)
  simp only [stF, stVals, List.getD_cons_zero] at c3
  have hfb' := hfb
  clear hk1 hrt htb hb1 hsz hszd HD h
  go_wp2_with (first
    | (go_at_call 50; refine h1.numA (fun hn W' ho => ⟨rfl, HP.out (by simp only [stepN, HK.out, hn]; rfl) _ ho⟩) ?_; intro n r2 W2 hn2 h2; have HN2 := Lib.hid hn2; clear hn2 h1)
    | (go_at_call 52; refine h2.fates (fun hn W' ho => ⟨rfl, HP.out (by simp only [stepN, HK.out, HN2.out, hn]; rfl) _ ho⟩) ?_; intro l r3 d W3 hn3 h3; have HN3 := Lib.hid hn3; clear hn3))
  go_end0
  exact HR.out ⟨7, n, 0, op0, [], l⟩ r3 (.slice none 0 0) (.slice none 0 0) d _ (by simp only [stepN, HK.out, HN2.out, HN3.out]; rfl) h3
set_option maxHeartbeats 1000000 in
set_option maxRecDepth 100000 in
theorem Pz.step_12 {w W : World} {fb wb sb : Nat} {ws r1 : List ByteArray} {R : Ending → World → Prop} (h : Pz w W fb wb sb ws step0 (.slice none 0 0) (.slice none 0 0) (.slice none 0 0)) (hk : choiceN stepTbl ws = some (12, r1))
    (hp : stepN ws = none → ∀ W', Only w.heap.size (fun k => k = fb ∨ k = sb) w W' → R (.panicked badChain) W')
    (hr : ∀ s r d1 d2 fs W', stepN ws = some (s, r) → Pz w W' fb wb sb r s d1 d2 fs → R (.returned (.tuple #[])) W') :
    Calls Tryz.prog 24 #[.pointer (some ⟨fb, 0, none⟩), .pointer (some ⟨sb, 0, none⟩)] W R := by
  have HP := Lib.hid hp
  have HR := Lib.hid hr
  have HK := Lib.hid hk
  have hsz := h.form.lt
  have hfb := h.lf
  clear hp hr hk
  go_enter Tryz.func24, Tryz.ntmps24
  go_wp2_with fail
  have hd := h.below (below_drewN W 1)
  have hszd : fb < W.drew.heap.size := hsz
  have HD := Lib.hid hd
  clear hd
  go_region_with (first
    | (go_at_call 49; refine (script_steps' _).mono ?_; rintro e w1 ⟨tb, rfl, htb, hrt, hb1⟩)
    | (go_at_call 48; refine (HD.out.below hb1).kind (tbl := stepTbl) hrt (by omega) rfl (by omega) (by omega) (fun hn W' ho => by rw [HK.out] at hn; cases hn) ?_; intro k' r1' W1 hk1 h1))
  obtain ⟨rfl, rfl⟩ : k' = 12 ∧ r1' = r1 := by rw [HK.out] at hk1; simp at hk1; exact ⟨hk1.1.symm, hk1.2.symm⟩
  have c3 := h1.cell 0 (by omega)
  simp only [stF, stVals, List.getD_cons_zero] at c3
  have hfb' := hfb
  clear hk1 hrt htb hb1 hsz hszd HD h
  go_wp2_with (first
    | (go_at_call 50; refine h1.numA (fun hn W' ho => ⟨rfl, HP.out (by simp only [stepN, HK.out, hn]; rfl) _ ho⟩) ?_; intro n r2 W2 hn2 h2; have HN2 := Lib.hid hn2; clear hn2 h1)
    | (go_at_call 53; refine h2.bits (fun hn W' ho => ⟨rfl, HP.out (by simp only [stepN, HK.out, HN2.out, hn]; rfl) _ ho⟩) ?_; intro x r3 W3 hn3 h3; have HN3 := Lib.hid hn3; clear hn3))
  go_end0
  exact HR.out ⟨12, n, 0, ⟨0, 0, [], x⟩, [], []⟩ r3 (.slice none 0 0) (.slice none 0 0) (.slice none 0 0) _ (by simp only [stepN, HK.out, HN2.out, HN3.out]; rfl) h3
set_option maxHeartbeats 1000000 in
set_option maxRecDepth 100000 in
theorem Pz.step_4 {w W : World} {fb wb sb : Nat} {ws r1 : List ByteArray} {R : Ending → World → Prop} (h : Pz w W fb wb sb ws step0 (.slice none 0 0) (.slice none 0 0) (.slice none 0 0)) (hk : choiceN stepTbl ws = some (4, r1))
    (hp : stepN ws = none → ∀ W', Only w.heap.size (fun k => k = fb ∨ k = sb) w W' → R (.panicked badChain) W')
    (hr : ∀ s r d1 d2 fs W', stepN ws = some (s, r) → Pz w W' fb wb sb r s d1 d2 fs → R (.returned (.tuple #[])) W') :
    Calls Tryz.prog 24 #[.pointer (some ⟨fb, 0, none⟩), .pointer (some ⟨sb, 0, none⟩)] W R := by
  have HP := Lib.hid hp
  have HR := Lib.hid hr
  have HK := Lib.hid hk
  have hsz := h.form.lt
  have hfb := h.lf
  clear hp hr hk
  go_enter Tryz.func24, Tryz.ntmps24
  go_wp2_with fail
  have hd := h.below (below_drewN W 1)
  have hszd : fb < W.drew.heap.size := hsz
  have HD := Lib.hid hd
  clear hd
  go_region_with (first
    | (go_at_call 49; refine (script_steps' _).mono ?_; rintro e w1 ⟨tb, rfl, htb, hrt, hb1⟩)
    | (go_at_call 48; refine (HD.out.below hb1).kind (tbl := stepTbl) hrt (by omega) rfl (by omega) (by omega) (fun hn W' ho => by rw [HK.out] at hn; cases hn) ?_; intro k' r1' W1 hk1 h1))
  obtain ⟨rfl, rfl⟩ : k' = 4 ∧ r1' = r1 := by rw [HK.out] at hk1; simp at hk1; exact ⟨hk1.1.symm, hk1.2.symm⟩
  have c3 := h1.cell 0 (by omega)
  simp only [stF, stVals, List.getD_cons_zero] at c3
  have hfb' := hfb
  clear hk1 hrt htb hb1 hsz hszd HD h
  go_wp2_with fail
  go_end0
  exact HR.out ⟨4, 0, 0, op0, [], []⟩ r1' (.slice none 0 0) (.slice none 0 0) (.slice none 0 0) _ (by simp only [stepN, HK.out]; rfl) h1
set_option maxHeartbeats 1000000 in
set_option maxRecDepth 100000 in
theorem Pz.step_5 {w W : World} {fb wb sb : Nat} {ws r1 : List ByteArray} {R : Ending → World → Prop} (h : Pz w W fb wb sb ws step0 (.slice none 0 0) (.slice none 0 0) (.slice none 0 0)) (hk : choiceN stepTbl ws = some (5, r1))
    (hp : stepN ws = none → ∀ W', Only w.heap.size (fun k => k = fb ∨ k = sb) w W' → R (.panicked badChain) W')
    (hr : ∀ s r d1 d2 fs W', stepN ws = some (s, r) → Pz w W' fb wb sb r s d1 d2 fs → R (.returned (.tuple #[])) W') :
    Calls Tryz.prog 24 #[.pointer (some ⟨fb, 0, none⟩), .pointer (some ⟨sb, 0, none⟩)] W R := by
  have HP := Lib.hid hp
  have HR := Lib.hid hr
  have HK := Lib.hid hk
  have hsz := h.form.lt
  have hfb := h.lf
  clear hp hr hk
  go_enter Tryz.func24, Tryz.ntmps24
  go_wp2_with fail
  have hd := h.below (below_drewN W 1)
  have hszd : fb < W.drew.heap.size := hsz
  have HD := Lib.hid hd
  clear hd
  go_region_with (first
    | (go_at_call 49; refine (script_steps' _).mono ?_; rintro e w1 ⟨tb, rfl, htb, hrt, hb1⟩)
    | (go_at_call 48; refine (HD.out.below hb1).kind (tbl := stepTbl) hrt (by omega) rfl (by omega) (by omega) (fun hn W' ho => by rw [HK.out] at hn; cases hn) ?_; intro k' r1' W1 hk1 h1))
  obtain ⟨rfl, rfl⟩ : k' = 5 ∧ r1' = r1 := by rw [HK.out] at hk1; simp at hk1; exact ⟨hk1.1.symm, hk1.2.symm⟩
  have c3 := h1.cell 0 (by omega)
  simp only [stF, stVals, List.getD_cons_zero] at c3
  have hfb' := hfb
  clear hk1 hrt htb hb1 hsz hszd HD h
  go_wp2_with fail
  go_end0
  exact HR.out ⟨5, 0, 0, op0, [], []⟩ r1' (.slice none 0 0) (.slice none 0 0) (.slice none 0 0) _ (by simp only [stepN, HK.out]; rfl) h1
set_option maxHeartbeats 1000000 in
set_option maxRecDepth 100000 in
theorem Pz.step_10 {w W : World} {fb wb sb : Nat} {ws r1 : List ByteArray} {R : Ending → World → Prop} (h : Pz w W fb wb sb ws step0 (.slice none 0 0) (.slice none 0 0) (.slice none 0 0)) (hk : choiceN stepTbl ws = some (10, r1))
    (hp : stepN ws = none → ∀ W', Only w.heap.size (fun k => k = fb ∨ k = sb) w W' → R (.panicked badChain) W')
    (hr : ∀ s r d1 d2 fs W', stepN ws = some (s, r) → Pz w W' fb wb sb r s d1 d2 fs → R (.returned (.tuple #[])) W') :
    Calls Tryz.prog 24 #[.pointer (some ⟨fb, 0, none⟩), .pointer (some ⟨sb, 0, none⟩)] W R := by
  have HP := Lib.hid hp
  have HR := Lib.hid hr
  have HK := Lib.hid hk
  have hsz := h.form.lt
  have hfb := h.lf
  clear hp hr hk
  go_enter Tryz.func24, Tryz.ntmps24
  go_wp2_with fail
  have hd := h.below (below_drewN W 1)
  have hszd : fb < W.drew.heap.size := hsz
  have HD := Lib.hid hd
  clear hd
  go_region_with (first
    | (go_at_call 49; refine (script_steps' _).mono ?_; rintro e w1 ⟨tb, rfl, htb, hrt, hb1⟩)
    | (go_at_call 48; refine (HD.out.below hb1).kind (tbl := stepTbl) hrt (by omega) rfl (by omega) (by omega) (fun hn W' ho => by rw [HK.out] at hn; cases hn) ?_; intro k' r1' W1 hk1 h1))
  obtain ⟨rfl, rfl⟩ : k' = 10 ∧ r1' = r1 := by rw [HK.out] at hk1; simp at hk1; exact ⟨hk1.1.symm, hk1.2.symm⟩
  have c3 := h1.cell 0 (by omega)
  simp only [stF, stVals, List.getD_cons_zero] at c3
  have hfb' := hfb
  clear hk1 hrt htb hb1 hsz hszd HD h
  go_wp2_with fail
  go_end0
  exact HR.out ⟨10, 0, 0, op0, [], []⟩ r1' (.slice none 0 0) (.slice none 0 0) (.slice none 0 0) _ (by simp only [stepN, HK.out]; rfl) h1
set_option maxRecDepth 100000 in
theorem Pz.step {w W : World} {fb wb sb : Nat} {ws : List ByteArray} {R : Ending → World → Prop} (h : Pz w W fb wb sb ws step0 (.slice none 0 0) (.slice none 0 0) (.slice none 0 0))
    (hp : stepN ws = none → ∀ W', Only w.heap.size (fun k => k = fb ∨ k = sb) w W' → R (.panicked badChain) W')
    (hr : ∀ s r d1 d2 fs W', stepN ws = some (s, r) → Pz w W' fb wb sb r s d1 d2 fs → R (.returned (.tuple #[])) W') :
    Calls Tryz.prog 24 #[.pointer (some ⟨fb, 0, none⟩), .pointer (some ⟨sb, 0, none⟩)] W R := by
  cases hc : choiceN stepTbl ws with
  | none =>
    have HK := Lib.hid hc
    have HP := Lib.hid (hp (by simp only [stepN, hc]))
    have hsz := h.form.lt
    have hfb := h.lf
    clear hp hr hc
    go_enter Tryz.func24, Tryz.ntmps24
    go_wp2_with fail
    have hd := h.below (below_drewN W 1)
    have hszd : fb < W.drew.heap.size := hsz
    have HD := Lib.hid hd
    clear hd
    go_region_with (first
      | (go_at_call 49; refine (script_steps' _).mono ?_; rintro e w1 ⟨tb, rfl, htb, hrt, hb1⟩)
      | (go_at_call 48; refine (HD.out.below hb1).kind (tbl := stepTbl) hrt (by omega) rfl (by omega) (by omega) (fun hn W' ho => ⟨rfl, HP.out _ ho⟩) ?_; intro k' r1' W1 hk1 h1))
    rw [HK.out] at hk1
    cases hk1
  | some x =>
    obtain ⟨k, r1⟩ := x
    have hrg := choiceN_range hc
    have hrk : 1 ≤ k ∧ k ≤ 12 := ⟨hrg.1, by have := hrg.2; simp [stepTbl] at this; omega⟩
    have : k = 1 ∨ k = 2 ∨ k = 3 ∨ k = 4 ∨ k = 5 ∨ k = 6 ∨ k = 7 ∨ k = 8 ∨ k = 9 ∨ k = 10 ∨ k = 11 ∨ k = 12 := by omega
    rcases this with rfl | rfl | rfl | rfl | rfl | rfl | rfl | rfl | rfl | rfl | rfl | rfl
    · exact h.step_1 hc hp hr
    · exact h.step_2 hc hp hr
    · exact h.step_3 hc hp hr
    · exact h.step_4 hc hp hr
    · exact h.step_5 hc hp hr
    · exact h.step_6 hc hp hr
    · exact h.step_7 hc hp hr
    · exact h.step_8 hc hp hr
    · exact h.step_9 hc hp hr
    · exact h.step_10 hc hp hr
    · exact h.step_11 hc hp hr
    · exact h.step_12 hc hp hr
end Go.Proofs.YtgkddjefmonlaaaGreatDoor
