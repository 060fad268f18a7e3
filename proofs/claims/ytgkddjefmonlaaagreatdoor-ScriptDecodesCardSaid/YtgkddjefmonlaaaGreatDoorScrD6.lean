/-
  The program's step of layer 25: all of them.
-/
import Derived.Test.YtgkddjefmonlaaaGreatDoorScrD5
namespace Go.Proofs.YtgkddjefmonlaaaGreatDoor
open Go.RowKit

theorem bodyPost_world {P : Program} {fn : Func} {R : Ending → World → Prop} {x : Exit} {a : Act} {W W' : World} (e : W = W') (h : bodyPost P fn R x a W) : bodyPost P fn R x a W' := e ▸ h
theorem alloc_out9 {w : World} {n : Nat} (o : Obj) (v0 v1 v2 v3 v4 v5 v6 v7 v8 : Value) (hn : n < w.heap.size) :
    fin9 (w.alloc o) n v0 v1 v2 v3 v4 v5 v6 v7 v8 = (fin9 w n v0 v1 v2 v3 v4 v5 v6 v7 v8).alloc o := by
  unfold fin9
  rw [World.setCell_alloc_past _ _ _ _ hn, World.setCell_alloc_past _ _ _ _ (by simpa using hn), World.setCell_alloc_past _ _ _ _ (by simpa using hn), World.setCell_alloc_past _ _ _ _ (by simpa using hn), World.setCell_alloc_past _ _ _ _ (by simpa using hn), World.setCell_alloc_past _ _ _ _ (by simpa using hn), World.setCell_alloc_past _ _ _ _ (by simpa using hn), World.setCell_alloc_past _ _ _ _ (by simpa using hn), World.setCell_alloc_past _ _ _ _ (by simpa using hn)]

set_option maxHeartbeats 2000000 in
set_option maxRecDepth 100000 in
theorem src_step (sb : Nat) (l : List UInt8) (p : Nat) (w : World) (h : SrcAt w sb (l.drop p)) :
    Calls Tryz.prog 35 #[.pointer (some ⟨sb, 0, none⟩)] w fun e w' => ∃ d1 d2 fs, e = .returned (.agg (stVals (stepAt l p).1 d1 d2 fs).toArray) ∧ StOwn w' w.heap.size (stepAt l p).1 d1 d2 fs ∧ SrcAt w' sb (l.drop (stepAt l p).2) ∧ Only w.heap.size (· = sb) w w' := by
  by_cases hk7 : (byt l p).toNat % 12 + 1 = 7
  · exact src_step7 sb l p w h hk7
  have hsb := h.lt
  have hK := kept_src sb l
  go_enter Tryz.func35, Tryz.ntmps35
  go_wp2_with fail
  generalize hw0 : w.alloc _ = w0
  obtain ⟨hr0, hb0, hs0⟩ := step_alloc hw0
  clear hw0
  refine (src_at sb l p w0 (h.below hb0 (Nat.le_refl _))).mono ?_
  rintro e w1 ⟨rfl, h1, ho1⟩
  have hr1 := hr0.of_block (ho1.block _ (by omega) (by show w.heap.size ≠ sb; omega))
  have ho : Only w.heap.size (· = sb) w w1 := (Only.of_below hb0).trans (ho1.mono hb0.size)
  have hsz1 : w.heap.size < w1.heap.size := by have := ho1.size; omega
  clear hr0 hb0 hs0 ho1
  obtain ⟨k, hk⟩ : ∃ k, k = (byt l p).toNat % 12 + 1 := ⟨_, rfl⟩
  have hkv : ((byt l p).toNat : Int) % 12 + 1 = (k : Int) := by omega
  have hkb : k ≤ 12 := by omega
  have hkl : (k : Int) ≤ 12 := by omega
  have HK := Lib.hid hk
  have k7 := Lib.hid (show k ≠ 7 by rw [HK.out]; exact hk7)
  have h1' : PS sb l w1 (p + 1) := h1
  clear hk
  by_cases k1 : k = 1
  · subst k1
    go_wp2_with fail
    refine StSt.next (StSt.start hK hr1 h1' ho hsb) ?_
    intro w2 h2
    clear hr1 h1 ho h1'
    obtain ⟨c0, c1, c2, c3, c4, c5, c6, c7, c8, z0, z1, z2, z3, z4, z5, z6, z7, z8⟩ := h2.cells
    go_wp2_with fail
    refine StSt.ask (h2.set1 hK _) ?_
    intro a c w3 hown h3
    clear c0 c1 c2 c3 c4 c5 c6 c7 c8 z0 z1 z2 z3 z4 z5 z6 z7 z8
    obtain ⟨c0, c1, c2, c3, c4, c5, c6, c7, c8, z0, z1, z2, z3, z4, z5, z6, z7, z8⟩ := h3.cells
    obtain ⟨g, d0, d1, d2, d3, d4, d5, d6, d7, d8, y0, y1, y2, y3, y4, y5, y6, y7, y8⟩ := h3.rcells
    have hx := h3.xb
    have hx2 := h3.row.lt
    go_wp2_with fail
    have hne := own_ne_row hown h3.row (by decide)
    exact StSt.ret ((((h3.set3 hK _).set4 hK _).set5 hK _).set6 hK _) ⟨1, ((byt l (p + 1)).toNat % 8 : Nat), 0, (askAt l (p + 2)).1, [], []⟩ _ _ _ (by simp only [stepAt, ← HK.out]; rfl) (by rfl) (by rfl) (ownsRow_set (ownsRow_set (ownsRow_set (ownsRow_set hown hne _) hne _) hne _) hne _) (World.ownsRow_nil _ _ _ _) (World.ownsRow_nil _ _ _ _)
  by_cases ka : k = 2 ∨ k = 3 ∨ k = 6 ∨ k = 11
  · have HA := Lib.hid ka
    have hka : stepAt l p = (⟨(k : Int), ((byt l (p + 1)).toNat : Int), 0, op0, [], []⟩, p + 2) := by simp only [stepAt, ← HK.out]; rw [if_neg k1, if_pos HA.out]
    have HS := Lib.hid hka
    clear hka HA HK
    rcases ka with rfl | rfl | rfl | rfl
    all_goals
      clear k1
      go_wp2_with fail
      refine StSt.next (StSt.start hK hr1 h1' ho hsb) ?_
      intro w2 h2
      clear hr1 h1 ho h1'
      obtain ⟨c0, c1, c2, c3, c4, c5, c6, c7, c8, z0, z1, z2, z3, z4, z5, z6, z7, z8⟩ := h2.cells
      obtain ⟨g, d0, d1, d2, d3, d4, d5, d6, d7, d8, y0, y1, y2, y3, y4, y5, y6, y7, y8⟩ := h2.rcells
      have hx := h2.xb
      have hx2 := h2.row.lt
      go_wp2_with fail
      exact StSt.ret (h2.set1 hK _) ⟨_, ((byt l (p + 1)).toNat : Int), 0, op0, [], []⟩ _ _ _ HS.out (by rfl) (by rfl) (World.ownsRow_nil _ _ _ _) (World.ownsRow_nil _ _ _ _) (World.ownsRow_nil _ _ _ _)
  by_cases k9 : k = 9
  · subst k9
    clear k1 ka
    go_wp2_with fail
    refine StSt.next (StSt.start hK hr1 h1' ho hsb) ?_
    intro w2 h2
    clear hr1 h1 ho h1'
    obtain ⟨c0, c1, c2, c3, c4, c5, c6, c7, c8, z0, z1, z2, z3, z4, z5, z6, z7, z8⟩ := h2.cells
    go_wp2_with fail
    refine StSt.next (h2.set1 hK _) ?_
    intro w3 h3
    clear c0 c1 c2 c3 c4 c5 c6 c7 c8 z0 z1 z2 z3 z4 z5 z6 z7 z8
    obtain ⟨c0, c1, c2, c3, c4, c5, c6, c7, c8, z0, z1, z2, z3, z4, z5, z6, z7, z8⟩ := h3.cells
    obtain ⟨g, d0, d1, d2, d3, d4, d5, d6, d7, d8, y0, y1, y2, y3, y4, y5, y6, y7, y8⟩ := h3.rcells
    have hx := h3.xb
    have hx2 := h3.row.lt
    go_wp2_with fail
    exact StSt.ret (h3.set2 hK _) ⟨9, ((byt l (p + 1)).toNat : Int), ((byt l (p + 2)).toNat : Int), op0, [], []⟩ _ _ _ (by simp only [stepAt, ← HK.out]; rfl) (by rfl) (by rfl) (World.ownsRow_nil _ _ _ _) (World.ownsRow_nil _ _ _ _) (World.ownsRow_nil _ _ _ _)
  by_cases k8 : k = 8
  · subst k8
    clear k1 ka k9
    go_wp2_with fail
    refine StSt.next (StSt.start hK hr1 h1' ho hsb) ?_
    intro w2 h2
    clear hr1 h1 ho h1'
    obtain ⟨c0, c1, c2, c3, c4, c5, c6, c7, c8, z0, z1, z2, z3, z4, z5, z6, z7, z8⟩ := h2.cells
    go_wp2_with fail
    refine StSt.next (h2.set1 hK _) ?_
    intro w3 h3
    clear c0 c1 c2 c3 c4 c5 c6 c7 c8 z0 z1 z2 z3 z4 z5 z6 z7 z8
    obtain ⟨c0, c1, c2, c3, c4, c5, c6, c7, c8, z0, z1, z2, z3, z4, z5, z6, z7, z8⟩ := h3.cells
    go_wp2_with fail
    refine StSt.some_ (h3.set2 hK _) ?_
    intro a c w4 hown h4
    clear c0 c1 c2 c3 c4 c5 c6 c7 c8 z0 z1 z2 z3 z4 z5 z6 z7 z8
    obtain ⟨c0, c1, c2, c3, c4, c5, c6, c7, c8, z0, z1, z2, z3, z4, z5, z6, z7, z8⟩ := h4.cells
    obtain ⟨g, d0, d1, d2, d3, d4, d5, d6, d7, d8, y0, y1, y2, y3, y4, y5, y6, y7, y8⟩ := h4.rcells
    have hx := h4.xb
    have hx2 := h4.row.lt
    go_wp2_with fail
    have hne := own_ne_row hown h4.row (by decide)
    refine StSt.ret (h4.set7 hK _) ⟨8, ((byt l (p + 1)).toNat : Int), ((byt l (p + 2)).toNat : Int), op0, rowB l (p + 4) ((byt l (p + 3)).toNat % 9), []⟩ _ _ _ (by simp only [stepAt, ← HK.out]; rfl) (by rfl) (by rfl) (World.ownsRow_nil _ _ _ _) ?_ (World.ownsRow_nil _ _ _ _)
    rw [rowB_length]
    exact ownsRow_set hown hne _
  by_cases k12 : k = 12
  · subst k12
    clear k1 ka k9 k8
    go_wp2_with fail
    refine StSt.next (StSt.start hK hr1 h1' ho hsb) ?_
    intro w2 h2
    clear hr1 h1 ho h1'
    obtain ⟨c0, c1, c2, c3, c4, c5, c6, c7, c8, z0, z1, z2, z3, z4, z5, z6, z7, z8⟩ := h2.cells
    go_wp2_with fail
    refine StSt.number (h2.set1 hK _) ?_
    intro w3 h3
    clear c0 c1 c2 c3 c4 c5 c6 c7 c8 z0 z1 z2 z3 z4 z5 z6 z7 z8
    obtain ⟨c0, c1, c2, c3, c4, c5, c6, c7, c8, z0, z1, z2, z3, z4, z5, z6, z7, z8⟩ := h3.cells
    obtain ⟨g, d0, d1, d2, d3, d4, d5, d6, d7, d8, y0, y1, y2, y3, y4, y5, y6, y7, y8⟩ := h3.rcells
    have hx := h3.xb
    have hx2 := h3.row.lt
    go_wp2_with fail
    exact StSt.ret (h3.set6 hK _) ⟨12, ((byt l (p + 1)).toNat % 8 : Nat), 0, ⟨0, 0, [], (beN (rowB l (p + 2) 8)).toNat⟩, [], []⟩ _ _ _ (by simp only [stepAt, ← HK.out]; rfl) (by rfl) (by rfl) (World.ownsRow_nil _ _ _ _) (World.ownsRow_nil _ _ _ _) (World.ownsRow_nil _ _ _ _)
  have e1 : ((k : Int) == 1) = false := by rw [beq_eq_false_iff_ne]; omega
  have e2 : ((k : Int) == 2) = false := by rw [beq_eq_false_iff_ne]; omega
  have e3 : ((k : Int) == 3) = false := by rw [beq_eq_false_iff_ne]; omega
  have e6 : ((k : Int) == 6) = false := by rw [beq_eq_false_iff_ne]; omega
  have e7 : ((k : Int) == 7) = false := by have := k7.out; rw [beq_eq_false_iff_ne]; omega
  have e8 : ((k : Int) == 8) = false := by rw [beq_eq_false_iff_ne]; omega
  have e9 : ((k : Int) == 9) = false := by rw [beq_eq_false_iff_ne]; omega
  have e11 : ((k : Int) == 11) = false := by rw [beq_eq_false_iff_ne]; omega
  have e12 : ((k : Int) == 12) = false := by rw [beq_eq_false_iff_ne]; omega
  have h2 : StSt (PS sb l) w (w1.alloc (.cells #[.int .i64 (k : Int), .int .i64 0, .int .i64 0, .int .i64 0, .int .i64 0, .slice none 0 0, .float .f64 0, .slice none 0 0, .slice none 0 0] 29)) sb w1.heap.size (p + 1) _ := StSt.start hK hr1 h1' ho hsb
  have hst : stepAt l p = (⟨(k : Int), 0, 0, op0, [], []⟩, p + 1) := by simp only [stepAt, ← HK.out]; rw [if_neg k1, if_neg ka, if_neg k9, if_neg k8, if_neg k7.out, if_neg k12]
  have HS := Lib.hid hst
  have H2 := Lib.hid h2
  have d0 := hr1.cell (i := 0) (by omega)
  have d1 := hr1.cell (i := 1) (by omega)
  have d2 := hr1.cell (i := 2) (by omega)
  have d3 := hr1.cell (i := 3) (by omega)
  have d4 := hr1.cell (i := 4) (by omega)
  have d5 := hr1.cell (i := 5) (by omega)
  have d6 := hr1.cell (i := 6) (by omega)
  have d7 := hr1.cell (i := 7) (by omega)
  have d8 := hr1.cell (i := 8) (by omega)
  have y0 := hr1.frozen 0
  have y1 := hr1.frozen 1
  have y2 := hr1.frozen 2
  have y3 := hr1.frozen 3
  have y4 := hr1.frozen 4
  have y5 := hr1.frozen 5
  have y6 := hr1.frozen 6
  have y7 := hr1.frozen 7
  have y8 := hr1.frozen 8
  clear hst h2 k1 ka k9 k8 k12
  go_wp2_with fail
  have e := alloc_out9 (w := w1) (n := w.heap.size) (.cells #[.int .i64 (k : Int), .int .i64 0, .int .i64 0, .int .i64 0, .int .i64 0, .slice none 0 0, .float .f64 0, .slice none 0 0, .slice none 0 0] 29) (.int .i64 (k : Int)) (.int .i64 0) (.int .i64 0) (.int .i64 0) (.int .i64 0) (.slice none 0 0) (.float .f64 0) (.slice none 0 0) (.slice none 0 0) hsz1
  refine bodyPost_world e ?_
  exact StSt.ret H2.out ⟨(k : Int), 0, 0, op0, [], []⟩ (.slice none 0 0) (.slice none 0 0) (.slice none 0 0) HS.out (by rfl) (by rfl) (World.ownsRow_nil _ _ _ _) (World.ownsRow_nil _ _ _ _) (World.ownsRow_nil _ _ _ _)
end Go.Proofs.YtgkddjefmonlaaaGreatDoor
