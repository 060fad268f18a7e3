/-
  The reference's step of layer 25: all of them.
-/
import Derived.Test.YtgkddjefmonlaaaGreatDoorScrS7
namespace Go.Proofs.YtgkddjefmonlaaaGreatDoor
open Go.RowKit

set_option maxHeartbeats 2000000 in
set_option maxRecDepth 100000 in
theorem rs_step (sb : Nat) (l : List UInt8) (p : Nat) (w : World) (h : RS sb l w p) (hp : p ≤ 999999999998000) (hsb : sb < w.heap.size) :
    Calls Tryz.prog 36 #[.pointer (some ⟨sb, 0, none⟩)] w fun e w' => ∃ d1 d2 fs, e = .returned (.agg (stVals (stepAt l p).1 d1 d2 fs).toArray) ∧ StOwn w' w.heap.size (stepAt l p).1 d1 d2 fs ∧ RS sb l w' (stepAt l p).2 ∧ Only w.heap.size (· = sb) w w' := by
  by_cases hk7 : (byt l p).toNat % 12 + 1 = 7
  · exact rs_step7 sb l p w h hp hsb hk7
  have hK := kept_rs sb l
  go_enter Tryz.func36, Tryz.ntmps36
  go_wp2_with fail
  generalize hw0 : (w.alloc _).alloc _ = w0
  have h0 := StSt.startR hK h hsb hw0
  clear hw0
  refine StSt.nextR h0 (by omega) ?_
  intro w1 h1
  clear h0
  obtain ⟨k, hk⟩ : ∃ k, k = (byt l p).toNat % 12 + 1 := ⟨_, rfl⟩
  have hkv : ((byt l p).toNat : Int) % 12 + 1 = (k : Int) := by omega
  have hkb : k ≤ 12 := by omega
  have hkl : (k : Int) ≤ 12 := by omega
  have HK := Lib.hid hk
  clear hk
  have hx1 := h1.row.lt
  by_cases kr : k = 4 ∨ k = 5 ∨ k = 10
  · have hst : stepAt l p = (⟨(k : Int), 0, 0, op0, [], []⟩, p + 1) := by simp only [stepAt, ← HK.out]; rw [if_neg (by omega), if_neg (by omega), if_neg (by omega), if_neg (by omega), if_neg (by omega), if_neg (by omega)]
    have HS := Lib.hid hst
    clear hst HK
    rcases kr with rfl | rfl | rfl
    all_goals
      obtain ⟨c0, c1, c2, c3, c4, c5, c6, c7, c8, z0, z1, z2, z3, z4, z5, z6, z7, z8⟩ := h1.cells
      obtain ⟨g, d0, d1, d2, d3, d4, d5, d6, d7, d8, y0, y1, y2, y3, y4, y5, y6, y7, y8⟩ := h1.rcells
      have hx := h1.xb
      have hx2 := h1.row.lt
      go_wp2_with fail
      exact StSt.retG hK (by rfl) (h1.set0 hK _) _ ⟨_, 0, 0, op0, [], []⟩ _ _ _ HS.out (by rfl) (by rfl) (World.ownsRow_nil _ _ _ _) (World.ownsRow_nil _ _ _ _) (World.ownsRow_nil _ _ _ _)
  by_cases ka : k = 2 ∨ k = 3 ∨ k = 6 ∨ k = 11
  · have HA := Lib.hid ka
    have hka : stepAt l p = (⟨(k : Int), ((byt l (p + 1)).toNat : Int), 0, op0, [], []⟩, p + 2) := by simp only [stepAt, ← HK.out]; rw [if_neg (by omega), if_pos HA.out]
    have HS := Lib.hid hka
    clear hka HA HK kr
    rcases ka with rfl | rfl | rfl | rfl
    all_goals
      obtain ⟨c0, c1, c2, c3, c4, c5, c6, c7, c8, z0, z1, z2, z3, z4, z5, z6, z7, z8⟩ := h1.cells
      go_wp2_with fail
      refine StSt.nextR (h1.set0 hK _) (by omega) ?_
      intro w2 h2
      clear h1 c0 c1 c2 c3 c4 c5 c6 c7 c8 z0 z1 z2 z3 z4 z5 z6 z7 z8
      obtain ⟨c0, c1, c2, c3, c4, c5, c6, c7, c8, z0, z1, z2, z3, z4, z5, z6, z7, z8⟩ := h2.cells
      obtain ⟨g, d0, d1, d2, d3, d4, d5, d6, d7, d8, y0, y1, y2, y3, y4, y5, y6, y7, y8⟩ := h2.rcells
      have hx := h2.xb
      have hx2 := h2.row.lt
      go_wp2_with fail
      exact StSt.retG hK (by rfl) (h2.set1 hK _) _ ⟨_, ((byt l (p + 1)).toNat : Int), 0, op0, [], []⟩ _ _ _ HS.out (by rfl) (by rfl) (World.ownsRow_nil _ _ _ _) (World.ownsRow_nil _ _ _ _) (World.ownsRow_nil _ _ _ _)
  by_cases k9 : k = 9
  · subst k9
    clear kr ka
    obtain ⟨c0, c1, c2, c3, c4, c5, c6, c7, c8, z0, z1, z2, z3, z4, z5, z6, z7, z8⟩ := h1.cells
    go_wp2_with fail
    refine StSt.nextR (h1.set0 hK _) (by omega) ?_
    intro w2 h2
    clear h1
    clear c0 c1 c2 c3 c4 c5 c6 c7 c8 z0 z1 z2 z3 z4 z5 z6 z7 z8
    obtain ⟨c0, c1, c2, c3, c4, c5, c6, c7, c8, z0, z1, z2, z3, z4, z5, z6, z7, z8⟩ := h2.cells
    go_wp2_with fail
    refine StSt.nextR (h2.set1 hK _) (by omega) ?_
    intro w3 h3
    clear h2
    clear c0 c1 c2 c3 c4 c5 c6 c7 c8 z0 z1 z2 z3 z4 z5 z6 z7 z8
    obtain ⟨c0, c1, c2, c3, c4, c5, c6, c7, c8, z0, z1, z2, z3, z4, z5, z6, z7, z8⟩ := h3.cells
    obtain ⟨g, d0, d1, d2, d3, d4, d5, d6, d7, d8, y0, y1, y2, y3, y4, y5, y6, y7, y8⟩ := h3.rcells
    have hx := h3.xb
    have hx2 := h3.row.lt
    go_wp2_with fail
    exact StSt.retG hK (by rfl) (h3.set2 hK _) _ ⟨9, ((byt l (p + 1)).toNat : Int), ((byt l (p + 2)).toNat : Int), op0, [], []⟩ _ _ _ (by simp only [stepAt, ← HK.out]; rfl) (by rfl) (by rfl) (World.ownsRow_nil _ _ _ _) (World.ownsRow_nil _ _ _ _) (World.ownsRow_nil _ _ _ _)
  by_cases k8 : k = 8
  · subst k8
    clear kr ka k9
    obtain ⟨c0, c1, c2, c3, c4, c5, c6, c7, c8, z0, z1, z2, z3, z4, z5, z6, z7, z8⟩ := h1.cells
    go_wp2_with fail
    refine StSt.nextR (h1.set0 hK _) (by omega) ?_
    intro w2 h2
    clear h1
    clear c0 c1 c2 c3 c4 c5 c6 c7 c8 z0 z1 z2 z3 z4 z5 z6 z7 z8
    obtain ⟨c0, c1, c2, c3, c4, c5, c6, c7, c8, z0, z1, z2, z3, z4, z5, z6, z7, z8⟩ := h2.cells
    go_wp2_with fail
    refine StSt.nextR (h2.set1 hK _) (by omega) ?_
    intro w3 h3
    clear h2
    clear c0 c1 c2 c3 c4 c5 c6 c7 c8 z0 z1 z2 z3 z4 z5 z6 z7 z8
    obtain ⟨c0, c1, c2, c3, c4, c5, c6, c7, c8, z0, z1, z2, z3, z4, z5, z6, z7, z8⟩ := h3.cells
    go_wp2_with fail
    refine StSt.someR (h3.set2 hK _) (by omega) ?_
    intro a c w4 hown h4
    clear h3
    clear c0 c1 c2 c3 c4 c5 c6 c7 c8 z0 z1 z2 z3 z4 z5 z6 z7 z8
    obtain ⟨c0, c1, c2, c3, c4, c5, c6, c7, c8, z0, z1, z2, z3, z4, z5, z6, z7, z8⟩ := h4.cells
    obtain ⟨g, d0, d1, d2, d3, d4, d5, d6, d7, d8, y0, y1, y2, y3, y4, y5, y6, y7, y8⟩ := h4.rcells
    have hx := h4.xb
    have hx2 := h4.row.lt
    go_wp2_with fail
    have hne := own_ne_row hown h4.row (by decide)
    refine StSt.retG hK (by rfl) (h4.set7 hK _) _ ⟨8, ((byt l (p + 1)).toNat : Int), ((byt l (p + 2)).toNat : Int), op0, rowB l (p + 4) ((byt l (p + 3)).toNat % 9), []⟩ _ _ _ (by simp only [stepAt, ← HK.out]; rfl) (by rfl) (by rfl) (World.ownsRow_nil _ _ _ _) ?_ (World.ownsRow_nil _ _ _ _)
    rw [rowB_length]
    exact ownsRow_set hown hne _
  by_cases k12 : k = 12
  · subst k12
    clear kr ka k9 k8
    obtain ⟨c0, c1, c2, c3, c4, c5, c6, c7, c8, z0, z1, z2, z3, z4, z5, z6, z7, z8⟩ := h1.cells
    go_wp2_with fail
    refine StSt.nextR (h1.set0 hK _) (by omega) ?_
    intro w2 h2
    clear h1
    clear c0 c1 c2 c3 c4 c5 c6 c7 c8 z0 z1 z2 z3 z4 z5 z6 z7 z8
    obtain ⟨c0, c1, c2, c3, c4, c5, c6, c7, c8, z0, z1, z2, z3, z4, z5, z6, z7, z8⟩ := h2.cells
    go_wp2_with fail
    refine StSt.realR ((h2.set1 hK _).set1 hK _) (by omega) ?_
    intro w3 h3
    clear h2
    clear c0 c1 c2 c3 c4 c5 c6 c7 c8 z0 z1 z2 z3 z4 z5 z6 z7 z8
    obtain ⟨c0, c1, c2, c3, c4, c5, c6, c7, c8, z0, z1, z2, z3, z4, z5, z6, z7, z8⟩ := h3.cells
    obtain ⟨g, d0, d1, d2, d3, d4, d5, d6, d7, d8, y0, y1, y2, y3, y4, y5, y6, y7, y8⟩ := h3.rcells
    have hx := h3.xb
    have hx2 := h3.row.lt
    go_wp2_with fail
    exact StSt.retG hK (by rfl) (h3.set6 hK _) _ ⟨12, ((byt l (p + 1)).toNat % 8 : Nat), 0, ⟨0, 0, [], (beN (rowB l (p + 2) 8)).toNat⟩, [], []⟩ _ _ _ (by simp only [stepAt, ← HK.out]; rfl) (by rfl) (by rfl) (World.ownsRow_nil _ _ _ _) (World.ownsRow_nil _ _ _ _) (World.ownsRow_nil _ _ _ _)
  by_cases k1 : k = 1
  · subst k1
    clear kr ka k9 k8 k12
    obtain ⟨c0, c1, c2, c3, c4, c5, c6, c7, c8, z0, z1, z2, z3, z4, z5, z6, z7, z8⟩ := h1.cells
    go_wp2_with fail
    refine StSt.nextR (h1.set0 hK _) (by omega) ?_
    intro w2 h2
    clear h1
    clear c0 c1 c2 c3 c4 c5 c6 c7 c8 z0 z1 z2 z3 z4 z5 z6 z7 z8
    obtain ⟨c0, c1, c2, c3, c4, c5, c6, c7, c8, z0, z1, z2, z3, z4, z5, z6, z7, z8⟩ := h2.cells
    go_wp2_with fail
    refine StSt.nextR ((h2.set1 hK _).set1 hK _) (by omega) ?_
    intro w3 h3
    clear h2
    clear c0 c1 c2 c3 c4 c5 c6 c7 c8 z0 z1 z2 z3 z4 z5 z6 z7 z8
    obtain ⟨c0, c1, c2, c3, c4, c5, c6, c7, c8, z0, z1, z2, z3, z4, z5, z6, z7, z8⟩ := h3.cells
    obtain ⟨m, hm⟩ : ∃ m, m = (byt l (p + 2)).toNat % 6 + 1 := ⟨_, rfl⟩
    have hmv : ((byt l (p + 2)).toNat : Int) % 6 + 1 = (m : Int) := by omega
    have hmb : m ≤ 6 := by omega
    have hml : (m : Int) ≤ 6 := by omega
    have HM := Lib.hid hm
    clear hm
    by_cases m1 : m = 1
    · subst m1
      go_wp2_with fail
      refine StSt.nextR (h3.set3 hK _) (by omega) ?_
      intro w4 h4
      clear h3
      clear c0 c1 c2 c3 c4 c5 c6 c7 c8 z0 z1 z2 z3 z4 z5 z6 z7 z8
      obtain ⟨c0, c1, c2, c3, c4, c5, c6, c7, c8, z0, z1, z2, z3, z4, z5, z6, z7, z8⟩ := h4.cells
      obtain ⟨g, d0, d1, d2, d3, d4, d5, d6, d7, d8, y0, y1, y2, y3, y4, y5, y6, y7, y8⟩ := h4.rcells
      have hx := h4.xb
      have hx2 := h4.row.lt
      go_wp2_with fail
      exact StSt.retG hK (by rfl) (h4.set4 hK _) _ ⟨1, ((byt l (p + 1)).toNat % 8 : Nat), 0, ⟨1, ((byt l (p + 3)).toNat : Int), [], 0⟩, [], []⟩ _ _ _ (by simp only [stepAt, ← HK.out, askAt, ← HM.out]; rfl) (by rfl) (by rfl) (World.ownsRow_nil _ _ _ _) (World.ownsRow_nil _ _ _ _) (World.ownsRow_nil _ _ _ _)
    by_cases m2 : m = 2
    · subst m2
      clear m1
      go_wp2_with fail
      refine StSt.nextR (h3.set3 hK _) (by omega) ?_
      intro w4 h4
      clear h3
      clear c0 c1 c2 c3 c4 c5 c6 c7 c8 z0 z1 z2 z3 z4 z5 z6 z7 z8
      obtain ⟨c0, c1, c2, c3, c4, c5, c6, c7, c8, z0, z1, z2, z3, z4, z5, z6, z7, z8⟩ := h4.cells
      go_wp2_with fail
      refine StSt.someR (h4.set4 hK _) (by omega) ?_
      intro a c w5 hown h5
      clear h4
      clear c0 c1 c2 c3 c4 c5 c6 c7 c8 z0 z1 z2 z3 z4 z5 z6 z7 z8
      obtain ⟨c0, c1, c2, c3, c4, c5, c6, c7, c8, z0, z1, z2, z3, z4, z5, z6, z7, z8⟩ := h5.cells
      obtain ⟨g, d0, d1, d2, d3, d4, d5, d6, d7, d8, y0, y1, y2, y3, y4, y5, y6, y7, y8⟩ := h5.rcells
      have hx := h5.xb
      have hx2 := h5.row.lt
      go_wp2_with fail
      have hne := own_ne_row hown h5.row (by decide)
      refine StSt.retG hK (by rfl) (h5.set5 hK _) _ ⟨1, ((byt l (p + 1)).toNat % 8 : Nat), 0, ⟨2, ((byt l (p + 3)).toNat : Int), rowB l (p + 5) ((byt l (p + 4)).toNat % 9), 0⟩, [], []⟩ _ _ _ (by simp only [stepAt, ← HK.out, askAt, ← HM.out]; rfl) (by rfl) (by rfl) ?_ (World.ownsRow_nil _ _ _ _) (World.ownsRow_nil _ _ _ _)
      rw [rowB_length]
      exact ownsRow_set hown hne _
    by_cases m5 : m = 5
    · subst m5
      clear m1 m2
      go_wp2_with fail
      refine StSt.nextR (h3.set3 hK _) (by omega) ?_
      intro w4 h4
      clear h3
      clear c0 c1 c2 c3 c4 c5 c6 c7 c8 z0 z1 z2 z3 z4 z5 z6 z7 z8
      obtain ⟨c0, c1, c2, c3, c4, c5, c6, c7, c8, z0, z1, z2, z3, z4, z5, z6, z7, z8⟩ := h4.cells
      go_wp2_with fail
      refine StSt.realR (h4.set4 hK _) (by omega) ?_
      intro w5 h5
      clear h4
      clear c0 c1 c2 c3 c4 c5 c6 c7 c8 z0 z1 z2 z3 z4 z5 z6 z7 z8
      obtain ⟨c0, c1, c2, c3, c4, c5, c6, c7, c8, z0, z1, z2, z3, z4, z5, z6, z7, z8⟩ := h5.cells
      obtain ⟨g, d0, d1, d2, d3, d4, d5, d6, d7, d8, y0, y1, y2, y3, y4, y5, y6, y7, y8⟩ := h5.rcells
      have hx := h5.xb
      have hx2 := h5.row.lt
      go_wp2_with fail
      exact StSt.retG hK (by rfl) (h5.set6 hK _) _ ⟨1, ((byt l (p + 1)).toNat % 8 : Nat), 0, ⟨5, ((byt l (p + 3)).toNat : Int), [], (beN (rowB l (p + 4) 8)).toNat⟩, [], []⟩ _ _ _ (by simp only [stepAt, ← HK.out, askAt, ← HM.out]; rfl) (by rfl) (by rfl) (World.ownsRow_nil _ _ _ _) (World.ownsRow_nil _ _ _ _) (World.ownsRow_nil _ _ _ _)
    · have e1 : ((m : Int) == 1) = false := by rw [beq_eq_false_iff_ne]; omega
      have e2 : ((m : Int) == 2) = false := by rw [beq_eq_false_iff_ne]; omega
      have e5 : ((m : Int) == 5) = false := by rw [beq_eq_false_iff_ne]; omega
      have hst : stepAt l p = (⟨1, ((byt l (p + 1)).toNat % 8 : Nat), 0, ⟨(m : Int), 0, [], 0⟩, [], []⟩, p + 3) := by
        simp only [stepAt, ← HK.out, askAt, ← HM.out]
        rw [if_neg m1, if_neg m2, if_neg m5]; rfl
      have HS := Lib.hid hst
      clear hst m1 m2 m5 HK HM
      obtain ⟨g, d0, d1, d2, d3, d4, d5, d6, d7, d8, y0, y1, y2, y3, y4, y5, y6, y7, y8⟩ := h3.rcells
      have hx := h3.xb
      have hx2 := h3.row.lt
      go_wp2_with fail
      exact StSt.retG hK (by rfl) (h3.set3 hK _) _ ⟨1, ((byt l (p + 1)).toNat % 8 : Nat), 0, ⟨(m : Int), 0, [], 0⟩, [], []⟩ _ _ _ HS.out (by rfl) (by rfl) (World.ownsRow_nil _ _ _ _) (World.ownsRow_nil _ _ _ _) (World.ownsRow_nil _ _ _ _)
  · have := HK.out
    omega
end Go.Proofs.YtgkddjefmonlaaaGreatDoor
