/-
  The reference's comparisons: equal steps are the same.
-/
import Derived.Test.YtgkddjefmonlaaaGreatDoorScrC
import Derived.Test.YtgkddjefmonlaaaGreatDoorRef02
namespace Go.Proofs.YtgkddjefmonlaaaGreatDoor
open Go.RowKit

def rank (x : Nat) : Int :=
  if (FloatKind.f64.format.order x x != some .eq) = true then 9223372036854775807
  else if ((x : Int) / 9223372036854775808 == 1) = true then wrap64 (wrap64 (-wrap64 (bits .and .u64 (x : Int) 9223372036854775807)) - 1)
  else wrap64 (bits .and .u64 (x : Int) 9223372036854775807)
set_option maxRecDepth 100000 in
theorem ref01_Rank (x : Nat) (w : World) : Calls Tryz.prog 82 #[.float .f64 x] w fun e w' => e = .returned (.int .i64 (rank x)) ∧ w' = w := by
  have hfb := run_floatbits
  generalize hA : (FloatKind.f64.format.order x x != some .eq) = A
  go_enter Tryz.func82, Tryz.ntmps82
  go_wp2
  · go_ret
    refine ⟨ret_int ?_, rfl⟩
    unfold rank; rw [hA, if_pos (by assumption)]
  · go_ret
    refine ⟨ret_int ?_, rfl⟩
    unfold rank; rw [hA, if_neg (by simp_all), if_pos (by assumption)]
  · go_ret
    refine ⟨ret_int ?_, rfl⟩
    unfold rank; rw [hA, if_neg (by simp_all), if_neg (by simp_all)]

theorem math_Signbit (x : Nat) (w : World) : Calls Tryz.prog 56 #[.float .f64 x] w fun e w' => e = .returned (.bool (decide (IntKind.i64.wrap (x : Int) < 0))) ∧ w' = w := by
  have hfb := run_floatbits
  go_enter Tryz.func56, Tryz.ntmps56
  go_wp2
  go_ret
  exact ⟨by rw [IntWalk.i64_left]; rfl, rfl⟩

set_option maxRecDepth 100000 in
theorem ref14_SameInts (a1 a2 : Option Addr) (n c1 c2 : Nat) (l : List Int) (w : World) (hn : n = l.length) (hb : n ≤ 140737488351232) (h1 : n = 0 ∨ ∃ b o, a1 = some ⟨b, o, none⟩ ∧ Reads w b o (ints l)) (h2 : n = 0 ∨ ∃ b o, a2 = some ⟨b, o, none⟩ ∧ Reads w b o (ints l)) :
    Calls Tryz.prog 34 #[.slice a1 n c1, .slice a2 n c2] w fun e w' => e = .returned (.bool true) ∧ ∃ m, w' = w.drewN m := by
  go_enter Tryz.func34, Tryz.ntmps34
  go_wp2
  go_loopw [5] (fun i wr => ∃ k m : Nat, wr = w.drewN m ∧ i = .int .i64 k ∧ k ≤ n) (fun i _ => n - (intOf i).toNat)
  case atStart => exact ⟨0, 0, rfl, rfl, Nat.zero_le _⟩
  case round =>
    obtain ⟨k, m, rfl, rfl, hk⟩ := hrel
    by_cases hlt : k < n
    · obtain ⟨p1, o1, rfl, g1⟩ := h1.resolve_left (by omega)
      obtain ⟨p2, o2, rfl, g2⟩ := h2.resolve_left (by omega)
      obtain ⟨y, hy⟩ : ∃ y, (ints l)[k]? = some (.int .i64 y) := ⟨l[k]'(by omega), by simp [ints, hn ▸ hlt]⟩
      have f1 := g1 k _ hy
      have f2 := g2 k _ hy
      have HN := Lib.hid hn
      clear g1 g2 h1 h2 hn hy
      go_wp2
      go_quiet (fail)
      go_wp2
      go_roundw
      case rel => exact ⟨k + 1, m + nq, rfl, by go_num, by omega⟩
      case measure => simp [intOf]; omega
    · go_wp2
      go_ret
      exact ⟨rfl, m, rfl⟩
end Go.Proofs.YtgkddjefmonlaaaGreatDoor
