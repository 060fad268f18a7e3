/-
  The reference's comparisons: equal steps are the same, second part.
-/
import Derived.Test.YtgkddjefmonlaaaGreatDoorScrQ
namespace Go.Proofs.YtgkddjefmonlaaaGreatDoor
open Go.RowKit

theorem ref01_Same (x : Nat) (w : World) : Calls Tryz.prog 55 #[.float .f64 x, .float .f64 x] w fun e w' => e = .returned (.bool true) ∧ ∃ m, w' = w.drewN m := by
  go_enter Tryz.func55, Tryz.ntmps55
  go_wp2_with (go_at_call 82; refine (ref01_Rank x _).mono ?_; rintro e w' ⟨rfl, rfl⟩)
  go_ret
  exact ⟨rfl, 0, rfl⟩

theorem bs_drewN {w : World} {a : Option Addr} {n c : Nat} {l : List UInt8} (h : Bs w a n c l) (m : Nat) : Bs (w.drewN m) a n c l := ⟨h.len, h.cap, h.bnd, h.lbnd, h.nil', h.at'⟩
set_option maxHeartbeats 8000000 in
set_option maxRecDepth 100000 in
theorem ref25_SameOp (kd pg : Int) (x n c1 c2 : Nat) (a1 a2 : Option Addr) (l : List UInt8) (w : World) (h1 : Bs w a1 n c1 l) (h2 : Bs w a2 n c2 l) :
    Calls Tryz.prog 32 #[.agg #[.int .i64 kd, .int .i64 pg, .slice a1 n c1, .float .f64 x], .agg #[.int .i64 kd, .int .i64 pg, .slice a2 n c2, .float .f64 x]] w fun e w' => e = .returned (.bool true) ∧ Below w.heap.size w w' := by
  go_enter Tryz.func32, Tryz.ntmps32
  go_wp2_with fail
  have g1 : ∀ o o', Bs ((w.alloc o).alloc o') a1 n c1 l := fun o o' => h1.below (((Below.refl _ _).alloc (Nat.le_refl _) o).alloc (by simp) o') (Nat.le_refl _)
  have g2 : ∀ o o', Bs ((w.alloc o).alloc o') a2 n c2 l := fun o o' => h2.below (((Below.refl _ _).alloc (Nat.le_refl _) o).alloc (by simp) o') (Nat.le_refl _)
  have hss : ∀ W : World, Bs W a1 n c1 l → Bs W a2 n c2 l → Calls Tryz.prog 33 #[.slice a1 n c1, .slice a2 n c2] W fun e w' => e = .returned (.bool true) ∧ ∃ m, w' = W.drewN m := fun W k1 k2 =>
    (ref02_Same a1 a2 n c1 n c2 l l W k1 k2).mono (by rintro e w' ⟨rfl, h⟩; exact ⟨by simp, h⟩)
  simp only [List.append_eq, List.cons_append, List.nil_append]
  go_quiet (first
    | (go_at_call 33; exact Calls.quiet_of (hss _ (bs_drewN (g1 _ _) _) (bs_drewN (g2 _ _) _)))
    | (go_at_call 55; exact Calls.quiet_of (ref01_Same x _))
    | (go_at_call 56; exact Calls.quiet_of_same (math_Signbit x _)))
  go_wp2
  go_ret
  exact ⟨rfl, bel_drN (((Below.refl _ _).alloc (Nat.le_refl _) _).alloc (by simp) _) nq⟩

end Go.Proofs.YtgkddjefmonlaaaGreatDoor
