/-
  The reference's Num of layer 2.
-/
import Derived.Test.YtgkddjefmonlaaaGreatDoorWord
namespace Go.Proofs.YtgkddjefmonlaaaGreatDoor
open Go.RowKit

/-- the number that bytes make -/
def beN (l : List UInt8) : UInt64 := l.foldl (fun n b => 256 * n + b.toUInt64) 0
theorem beN_snoc (l : List UInt8) (b : UInt8) : beN (l ++ [b]) = 256 * beN l + b.toUInt64 := by simp [beN]
theorem num_step (N : UInt64) (b : UInt8) : IntKind.u64.wrap (IntKind.u64.wrap ((256 : Int) * (N.toNat : Int)) + (b.toNat : Int)) = ((256 * N + b.toUInt64).toNat : Int) := by
  rw [IntKind.wrap_u64, IntKind.wrap_u64, UInt64.toNat_add, UInt64.toNat_mul]; simp

set_option maxRecDepth 100000 in
theorem ref02_Num (a : Option Addr) (n c : Nat) (l : List UInt8) (w : World) (h : Bs w a n c l) :
    Calls Tryz.prog 31 #[.slice a n c] w fun e w' => e = .returned (.int .u64 ((beN l).toNat : Int)) ∧ ∃ m, w' = w.drewN m := by
  have b1 := h.lenle
  obtain ⟨rfl, _, _, _, _, h1⟩ := h
  go_enter Tryz.func31, Tryz.ntmps31
  go_wp2
  go_loopw [3, 4] (fun v i wr => ∃ k m : Nat, wr = w.drewN m ∧ i = .int .i64 k ∧ k ≤ l.length ∧ v = .int .u64 ((beN (l.take k)).toNat : Int)) (fun _ i _ => l.length - (intOf i).toNat)
  case atStart => exact ⟨0, 0, rfl, rfl, Nat.zero_le _, by simp [beN]⟩
  case round =>
    obtain ⟨k, m, rfl, rfl, hk, rfl⟩ := hrel
    obtain ⟨N, hN⟩ : ∃ N, N = beN (l.take k) := ⟨_, rfl⟩
    have hNl := w64_le N
    rw [← hN]
    have HN := Lib.hid hN
    clear hN
    by_cases hlt : k < l.length
    · obtain ⟨p1, o1, rfl, g1⟩ := h1.resolve_left (by intro e; simp [e] at hlt)
      have f1 := g1.at hlt
      have hb := byte_le l[k]
      clear g1 h1
      go_wp2
      go_roundw
      case rel => exact ⟨k + 1, m, rfl, by go_num, by omega, by rw [List.take_succ_eq_append_getElem hlt, beN_snoc, ← HN.out, ← num_step]⟩
      case measure => simp [intOf]; omega
    · go_wp2
      go_ret
      refine ⟨?_, m, rfl⟩
      rw [HN.out, List.take_of_length_le (by omega)]; rfl
end Go.Proofs.YtgkddjefmonlaaaGreatDoor
