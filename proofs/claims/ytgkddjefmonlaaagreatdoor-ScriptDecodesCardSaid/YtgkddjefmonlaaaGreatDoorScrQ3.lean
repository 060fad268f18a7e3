/-
  The reference's comparisons: equal steps are the same, third part.
-/
import Derived.Test.YtgkddjefmonlaaaGreatDoorScrQ2
namespace Go.Proofs.YtgkddjefmonlaaaGreatDoor
open Go.RowKit

set_option maxHeartbeats 8000000 in
set_option maxRecDepth 100000 in
theorem ref25_Same (s : AStep) (a1 a2 a3 b1 b2 b3 : Option Addr) (c1 c2 c3 k1 k2 k3 : Nat) (w : World)
    (h1 : Bs w a1 s.op.data.length c1 s.op.data) (g1 : Bs w b1 s.op.data.length k1 s.op.data) (h2 : Bs w a2 s.data.length c2 s.data) (g2 : Bs w b2 s.data.length k2 s.data)
    (hb : s.fates.length ≤ 140737488351232) (h3 : s.fates.length = 0 ∨ ∃ b o, a3 = some ⟨b, o, none⟩ ∧ Reads w b o (ints s.fates)) (g3 : s.fates.length = 0 ∨ ∃ b o, b3 = some ⟨b, o, none⟩ ∧ Reads w b o (ints s.fates)) :
    Calls Tryz.prog 12 #[.agg (stVals s (.slice a1 s.op.data.length c1) (.slice a2 s.data.length c2) (.slice a3 s.fates.length c3)).toArray, .agg (stVals s (.slice b1 s.op.data.length k1) (.slice b2 s.data.length k2) (.slice b3 s.fates.length k3)).toArray] w fun e w' => e = .returned (.bool true) ∧ Below w.heap.size w w' := by
  simp only [stVals]
  go_enter Tryz.func12, Tryz.ntmps12
  go_wp2_with fail
  generalize hw0 : (w.alloc _).alloc _ = w0
  have hf : Below w.heap.size w w0 ∧ w0.heap.size = w.heap.size + 2 ∧ w0.cell? ⟨w.heap.size, 7, none⟩ = some (.slice a2 s.data.length c2) ∧ w0.cell? ⟨w.heap.size + 1, 7, none⟩ = some (.slice b2 s.data.length k2) ∧
      w0.cell? ⟨w.heap.size, 8, none⟩ = some (.slice a3 s.fates.length c3) ∧ w0.cell? ⟨w.heap.size + 1, 8, none⟩ = some (.slice b3 s.fates.length k3) := by
    subst hw0
    refine ⟨((Below.refl _ _).alloc (Nat.le_refl _) _).alloc (by simp) _, by simp, ?_, ?_, ?_, ?_⟩ <;> simp [go_sem]
  obtain ⟨hb0, hs0, e1, e2, e3, e4⟩ := hf
  clear hw0
  refine (ref25_SameOp s.op.kind s.op.page s.op.by_ _ _ _ _ _ s.op.data w0 (h1.below hb0 (Nat.le_refl _)) (g1.below hb0 (Nat.le_refl _))).mono ?_
  rintro e w1 ⟨rfl, hb1⟩
  have hb01 : Below w.heap.size w w1 := hb0.trans (hb1.mono (by omega))
  have f1 := (hb1.cell (p := ⟨w.heap.size, 7, none⟩) (by show w.heap.size < _; omega)).trans e1
  have f2 := (hb1.cell (p := ⟨w.heap.size + 1, 7, none⟩) (by show w.heap.size + 1 < _; omega)).trans e2
  have f3 := (hb1.cell (p := ⟨w.heap.size, 8, none⟩) (by show w.heap.size < _; omega)).trans e3
  have f4 := (hb1.cell (p := ⟨w.heap.size + 1, 8, none⟩) (by show w.heap.size + 1 < _; omega)).trans e4
  clear e1 e2 e3 e4 hb1
  go_wp2_with fail
  refine (ref02_Same a2 b2 _ c2 _ k2 s.data s.data w1 (h2.below hb01 (Nat.le_refl _)) (g2.below hb01 (Nat.le_refl _))).mono ?_
  rintro e w2 ⟨rfl, m, rfl⟩
  rw [decide_eq_true rfl]
  go_wp2_with fail
  have hr : ∀ {a : Option Addr}, (s.fates.length = 0 ∨ ∃ b o, a = some ⟨b, o, none⟩ ∧ Reads w b o (ints s.fates)) → (s.fates.length = 0 ∨ ∃ b o, a = some ⟨b, o, none⟩ ∧ Reads (w1.drewN m) b o (ints s.fates)) := fun h => h.imp id fun ⟨b, o, e, r⟩ => ⟨b, o, e, r.below (bel_drN hb01 m) (Nat.le_refl _)⟩
  refine (ref14_SameInts a3 b3 _ c3 k3 s.fates (w1.drewN m) rfl hb (hr h3) (hr g3)).mono ?_
  rintro e w3 ⟨rfl, m', rfl⟩
  go_wp2_with fail
  go_ret
  exact ⟨rfl, bel_drN hb01 (m + m')⟩
end Go.Proofs.YtgkddjefmonlaaaGreatDoor
