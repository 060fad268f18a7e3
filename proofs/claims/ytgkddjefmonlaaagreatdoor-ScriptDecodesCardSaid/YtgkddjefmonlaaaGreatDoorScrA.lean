/-
  What is asked for, and a step, read off words: layer 25, parse mode.
-/
import Derived.Test.YtgkddjefmonlaaaGreatDoorScrG
namespace Go.Proofs.YtgkddjefmonlaaaGreatDoor
open Go.RowKit

/-- what is asked for, off words -/
def askN (ws : List ByteArray) : Option (AOp × List ByteArray) :=
  match choiceN askTbl ws with
  | none => none
  | some (k, r) =>
    if k = 1 then match numN r with
      | none => none
      | some (n, r) => some (⟨1, n, [], 0⟩, r)
    else if k = 2 then match numN r with
      | none => none
      | some (n, r) => match dataN 240 r with
        | none => none
        | some (b, r) => some (⟨2, n, b, 0⟩, r)
    else if k = 5 then match numN r with
      | none => none
      | some (n, r) => match bitsN r with
        | none => none
        | some (x, r) => some (⟨5, n, [], x⟩, r)
    else some (⟨k, 0, [], 0⟩, r)
theorem choiceN_range {tbl : List ByteArray} {ws r : List ByteArray} {k : Nat} (h : choiceN tbl ws = some (k, r)) : 1 ≤ k ∧ k < 1 + (tbl.drop 1).length := by
  cases ws with
  | nil => cases h
  | cons x t =>
    simp only [choiceN] at h
    cases hp : pickW (tbl.drop 1) 1 x with
    | none => rw [hp] at h; cases h
    | some j =>
      rw [hp] at h
      cases h
      have := pickW_range _ _ hp
      omega

set_option maxRecDepth 100000 in
theorem Pz.ask {w W : World} {fb wb sb : Nat} {ws : List ByteArray} {s : AStep} {d2 fs : Value} {R : Ending → World → Prop} (h : Pz w W fb wb sb ws s (.slice none 0 0) d2 fs) (hop : s.op = op0)
    (hp : askN ws = none → ∀ W', Only w.heap.size (fun k => k = fb ∨ k = sb) w W' → R (.panicked badChain) W')
    (hr : ∀ op r d W', askN ws = some (op, r) → Pz w W' fb wb sb r { s with op := op } d d2 fs → R (.returned (.tuple #[])) W') :
    Calls Tryz.prog 54 #[.pointer (some ⟨fb, 0, none⟩), .pointer (some ⟨sb, 3, none⟩)] W R := by
  have HP := Lib.hid hp
  have HR := Lib.hid hr
  have HO := Lib.hid hop
  have hsz := h.form.lt
  have hfb := h.lf
  clear hp hr hop
  go_enter Tryz.func54, Tryz.ntmps54
  go_wp2_with fail
  have hd := h.below (below_drewN W 1)
  have hszd : fb < W.drew.heap.size := hsz
  have HD := Lib.hid hd
  clear hd
  go_region_with (first
    | (go_at_call 81; refine (script_asks' _).mono ?_; rintro e w1 ⟨tb, rfl, htb, hrt, hb1⟩)
    | (go_at_call 48; refine (HD.out.below hb1).opKind (tbl := askTbl) hrt (by omega) rfl (by omega) (by omega) (fun hn W' ho => ⟨rfl, HP.out (by simp only [askN, hn]) _ ho⟩) ?_; intro k r1 W1 hk1 h1))
  have hrg := choiceN_range hk1
  have hrk : 1 ≤ k ∧ k ≤ 6 := ⟨hrg.1, by have := hrg.2; simp [askTbl] at this; omega⟩
  have c3 := h1.cell 3 (by omega)
  simp only [stF, stVals, List.getD_cons_succ, List.getD_cons_zero] at c3
  have HK := Lib.hid hk1
  have hop : ∀ op : AOp, { s with op := op } = { s with op := op } := fun _ => rfl
  clear hk1 hrg hop hrt htb hb1
  by_cases k1 : k = 1
  · subst k1
    go_wp2_with (go_at_call 50; refine h1.numP (fun hn W' ho => ⟨rfl, HP.out (by simp only [askN, HK.out, hn]; rfl) _ ho⟩) ?_; intro n r2 W2 hn2 h2)
    go_end0
    refine HR.out ⟨1, n, [], 0⟩ r2 (.slice none 0 0) _ (by simp only [askN, HK.out, hn2]; rfl) ?_
    rw [HO.out] at h2
    exact h2
  · by_cases k2 : k = 2
    · subst k2
      go_wp2_with (first
        | (go_at_call 50; refine h1.numP (fun hn W' ho => ⟨rfl, HP.out (by simp only [askN, HK.out, hn]; rfl) _ ho⟩) ?_; intro n r2 W2 hn2 h2; have HN2 := Lib.hid hn2; clear hn2)
        | (go_at_call 51; refine h2.dataOp (m := 240) (by omega) (fun hn W' ho => ⟨rfl, HP.out (by simp only [askN, HK.out, HN2.out, hn]; rfl) _ ho⟩) ?_; intro b r3 d W3 hn3 h3))
      go_end0
      refine HR.out ⟨2, n, b, 0⟩ r3 d _ (by simp only [askN, HK.out, HN2.out, hn3]; rfl) ?_
      rw [HO.out] at h3
      exact h3
    · by_cases k5 : k = 5
      · subst k5
        go_wp2_with (first
          | (go_at_call 50; refine h1.numP (fun hn W' ho => ⟨rfl, HP.out (by simp only [askN, HK.out, hn]; rfl) _ ho⟩) ?_; intro n r2 W2 hn2 h2; have HN2 := Lib.hid hn2; clear hn2)
          | (go_at_call 53; refine h2.bits (fun hn W' ho => ⟨rfl, HP.out (by simp only [askN, HK.out, HN2.out, hn]; rfl) _ ho⟩) ?_; intro b r3 W3 hn3 h3))
        go_end0
        refine HR.out ⟨5, n, [], b⟩ r3 (.slice none 0 0) _ (by simp only [askN, HK.out, HN2.out, hn3]; rfl) ?_
        rw [HO.out] at h3
        exact h3
      · have q1 : ((k : Int) == 1) = false := by rw [beq_eq_false_iff_ne]; omega
        have q2 : ((k : Int) == 2) = false := by rw [beq_eq_false_iff_ne]; omega
        have q5 : ((k : Int) == 5) = false := by rw [beq_eq_false_iff_ne]; omega
        have HQ := Lib.hid (show askN ws = some (⟨k, 0, [], 0⟩, r1) from by simp only [askN, HK.out, if_neg k1, if_neg k2, if_neg k5])
        clear k1 k2 k5
        go_wp2_with fail
        go_end0
        refine HR.out ⟨k, 0, [], 0⟩ r1 (.slice none 0 0) _ HQ.out ?_
        rw [HO.out] at h1
        exact h1
end Go.Proofs.YtgkddjefmonlaaaGreatDoor
