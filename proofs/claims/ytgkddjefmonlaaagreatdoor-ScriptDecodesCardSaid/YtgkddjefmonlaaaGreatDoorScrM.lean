/-
  A field of bits in layer 25, parse mode.
-/
import Derived.Test.YtgkddjefmonlaaaGreatDoorScrL
namespace Go.Proofs.YtgkddjefmonlaaaGreatDoor
open Go.RowKit

/-- is it no NaN? -/
def isNum (n : Nat) : Bool := FloatKind.f64.format.order n n == some .eq
/-- the next word, as a float64's bits -/
def bitsN : List ByteArray → Option (Nat × List ByteArray)
  | [] => none
  | x :: r => match unhexW (bl x) with
    | none => none
    | some b => if b.length = 8 ∧ (isNum (beN b).toNat = true ∨ (beN b).toNat = 9221120237041090561) then some ((beN b).toNat, r) else none

set_option maxRecDepth 100000 in
theorem FormP.bits {w : World} {fb wb pb po : Nat} {ws : List ByteArray} {v : Value} (h : FormP w fb wb ws) (hc : w.cell? ⟨pb, po, none⟩ = some v) (hz : w.frozen? ⟨pb, po, none⟩ = false) (hpb : nGlob ≤ pb ∧ pb ≠ fb ∧ pb ≠ wb) {R : Ending → World → Prop}
    (hp : bitsN ws = none → ∀ W, Only w.heap.size (fun k => k = fb ∨ k = pb) w W → R (.panicked badChain) W)
    (hr : ∀ n r W, bitsN ws = some (n, r) → FormP W fb wb r → Only w.heap.size (· = fb) w W → R (.returned (.tuple #[])) (W.setCell ⟨pb, po, none⟩ (.float .f64 n))) :
    Calls Tryz.prog 53 #[.pointer (some ⟨fb, 0, none⟩), .pointer (some ⟨pb, po, none⟩)] w R := by
  have hpr := h.print
  cases ws with
  | nil =>
    have HP := Lib.hid (hp rfl)
    clear hp hr
    go_enter Tryz.func53, Tryz.ntmps53
    go_wp2_with (go_at_call 75; refine h.next_nil.mono ?_; rintro e w' ⟨rfl, rfl⟩)
    exact ⟨rfl, HP.out _ (Only.refl _ _ _)⟩
  | cons x r =>
    have hx := h.bnd x (by simp)
    cases hn : unhexW (bl x) with
    | none =>
      have HN := Lib.hid hn
      have HP := Lib.hid (hp (by simp only [bitsN, hn]))
      clear hp hr hn
      go_enter Tryz.func53, Tryz.ntmps53
      go_wp2_with (first
        | (go_at_call 75; refine h.next_cons.mono ?_; rintro e w1 ⟨rfl, h1, ho⟩)
        | (go_at_call 78; refine (unhex_none hx _ HN.out).mono ?_; rintro e w2 ⟨rfl, hb⟩))
      exact ⟨rfl, HP.out _ (only_or (only_below ho hb))⟩
    | some b =>
      have HN := Lib.hid hn
      have hbl := unhexW_length _ _ hn
      have hsz : (bl x).length = x.size := by simp [bl]
      have hb1 : b.length ≤ 100000 := by omega
      clear hbl hsz
      by_cases h8 : b.length = 8
      · have HP := Lib.hid hp
        have HR := Lib.hid (fun n W => hr n r W)
        have HX := Lib.hid (show bitsN (x :: r) = if isNum (beN b).toNat = true ∨ (beN b).toNat = 9221120237041090561 then some ((beN b).toNat, r) else none from by simp only [bitsN, hn, h8, true_and])
        have hU : ∀ W, Calls Tryz.prog 78 #[.string x] W fun e w' => ∃ a c, e = .returned (.slice a 8 c) ∧ w'.ownsRow W.heap.size 5 1 (.slice a 8 c) 8 (bs b) ∧ Below W.heap.size W w' := fun W => by rw [← h8]; exact unhex_some hx W hn
        have HU := Lib.hid hU
        have H8 := Lib.hid h8
        clear hp hr hn hU h8 hb1
        go_enter Tryz.func53, Tryz.ntmps53
        go_wp2_with (first
          | (go_at_call 75; refine h.next_cons.mono ?_; rintro e w1 ⟨rfl, h1, ho⟩)
          | (go_at_call 78; refine (HU.out _).mono ?_; rintro e w2 ⟨a, c, rfl, hown, hb⟩; obtain ⟨hc2, hz2⟩ := field_kept (only_below ho hb) hpb.2.1 hc hz)
          | (go_at_call 25; refine (want_t (by first | rfl | (simp; omega) | simp) _).mono ?_; rintro e w' ⟨rfl, rfl⟩))
        obtain ⟨g, rfl, -, -, hrd⟩ := ownsRow_some hown (by omega)
        have HO := Lib.hid hown
        have ho2 := only_below ho hb
        have hf2 := h1.below hb
        clear hown ho hb hc hz hpr
        go_loop [8, 53] (fun v i => ∃ k : Nat, k ≤ 8 ∧ i = .int .i64 (k : Int) ∧ v = .int .u64 ((beN (b.take k)).toNat : Int)) (fun _ i => 8 - (intOf i).toNat)
        case atStart => exact ⟨0, Nat.zero_le _, rfl, by simp [beN]⟩
        case round =>
          obtain ⟨k, hk, rfl, rfl⟩ := hrel
          obtain ⟨N, hN⟩ : ∃ N, N = beN (b.take k) := ⟨_, rfl⟩
          have hNl := w64_le N
          rw [← hN]
          have HN := Lib.hid hN
          clear hN
          by_cases hlt : k < 8
          · have hkb : k < b.length := by have := H8.out; omega
            have hf := hrd.at hkb
            rw [Nat.zero_add] at hf
            have hbb := byte_le b[k]
            obtain ⟨B, hB⟩ : ∃ B, B = b[k] := ⟨_, rfl⟩
            rw [← hB] at hf hbb
            have HB := Lib.hid hB
            have hrd' := Lib.hid hrd
            clear hrd hB
            go_wp2_with fail
            go_round
            case rel => exact ⟨k + 1, by omega, by go_num, by rw [List.take_succ_eq_append_getElem hkb, beN_snoc, ← HN.out, ← HB.out, ← or_byte]⟩
            case measure => simp [intOf]; omega
          · have hfb := run_frombits
            obtain rfl : k = 8 := by omega
            have hfull : b.take 8 = b := List.take_of_length_le (by have := H8.out; omega)
            have HF := Lib.hid hfull
            have hrd' := Lib.hid hrd
            clear hrd hfull hlt
            have hNF : N = beN b := by rw [HN.out, HF.out]
            have HNF := Lib.hid hNF
            clear hNF
            by_cases hq : isNum N.toNat = true
            · have hq1 : (FloatKind.f64.format.order N.toNat N.toNat == some .eq) = true := hq
              have HQ := Lib.hid hq
              clear hq
              go_wp2_with fail
              refine still_tail 11 (by kernel_rfl) (by kernel_rfl) ?_
              simp only [List.take_succ_cons, List.take_zero, List.drop_succ_cons, List.drop_zero]
              repeat still_step
              refine wpStill_nil ?_
              go_wp2_with (go_at_call 25; refine (want_t (by first | rfl | (simp; omega) | simp) _).mono ?_; rintro e w' ⟨rfl, rfl⟩)
              go_end0
              exact HR.out _ w2.drew (by rw [HX.out, HNF.out, if_pos (.inl (HNF.out ▸ HQ.out))]) hf2.drew ho2.drew
            · have hq0 : isNum N.toNat = false := by simpa using hq
              have hq1 : (FloatKind.f64.format.order N.toNat N.toNat == some .eq) = false := hq0
              have HQ := Lib.hid hq
              clear hq hq0
              by_cases hn : N.toNat = 9221120237041090561
              · have hn1 : ((N.toNat : Int) == 9221120237041090561) = true := by rw [beq_iff_eq]; omega
                have HNN := Lib.hid hn
                clear hn
                go_wp2_with fail
                refine still_tail 11 (by kernel_rfl) (by kernel_rfl) ?_
                simp only [List.take_succ_cons, List.take_zero, List.drop_succ_cons, List.drop_zero]
                repeat still_step
                refine wpStill_nil ?_
                go_wp2_with (go_at_call 25; refine (want_t (by first | rfl | (simp; omega) | simp) _).mono ?_; rintro e w' ⟨rfl, rfl⟩)
                go_end0
                exact HR.out _ w2.drew (by rw [HX.out, HNF.out, if_pos (.inr (HNF.out ▸ HNN.out))]) hf2.drew ho2.drew
              · have hn1 : ((N.toNat : Int) == 9221120237041090561) = false := by rw [beq_eq_false_iff_ne]; omega
                have HNN := Lib.hid hn
                clear hn
                go_wp2_with fail
                refine still_tail 11 (by kernel_rfl) (by kernel_rfl) ?_
                simp only [List.take_succ_cons, List.take_zero, List.drop_succ_cons, List.drop_zero]
                repeat still_step
                refine wpStill_nil ?_
                go_wp2_with (go_at_call 25; refine (want_f (by first | rfl | (simp; omega) | simp) _).mono ?_; rintro e w' ⟨rfl, rfl⟩)
                exact ⟨rfl, HP.out (by rw [HX.out, ← HNF.out, if_neg (fun h => h.elim HQ.out HNN.out)]) _ ((only_or ho2).setCell (p := ⟨pb, po, none⟩) (.inr (.inr rfl)) _).drew⟩
      · have HP := Lib.hid (hp (by simp only [bitsN, hn, h8, false_and, if_false]))
        clear hp hr hn
        go_enter Tryz.func53, Tryz.ntmps53
        go_wp2_with (first
          | (go_at_call 75; refine h.next_cons.mono ?_; rintro e w1 ⟨rfl, h1, ho⟩)
          | (go_at_call 78; refine (unhex_some hx _ HN.out).mono ?_; rintro e w2 ⟨a, c, rfl, hown, hb⟩)
          | (go_at_call 25; refine (want_f (by first | rfl | (simp; omega) | simp) _).mono ?_; rintro e w' ⟨rfl, rfl⟩))
        exact ⟨rfl, HP.out _ (only_or (only_below ho hb))⟩
end Go.Proofs.YtgkddjefmonlaaaGreatDoor
