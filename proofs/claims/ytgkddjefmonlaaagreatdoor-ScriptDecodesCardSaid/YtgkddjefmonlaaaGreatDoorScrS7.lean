/-
  The reference's step of layer 25: the one that opens.
-/
import Derived.Test.YtgkddjefmonlaaaGreatDoorScrS0
namespace Go.Proofs.YtgkddjefmonlaaaGreatDoor
open Go.RowKit

section
variable {Src : World → Nat → Prop} {w W W' : World} {sb xb q q' : Nat} {f : Nat → Value} {l : List UInt8}
theorem StSt.drewG (hK : Kept Src sb) (h : StSt Src w W sb xb q f) : StSt Src w W.drew sb xb q f :=
  ⟨h.row, h.res, hK W _ q (fun _ => False) h.src (Only.refl _ _ _).drew (fun _ _ => id), h.only.drew, h.sb, h.xb⟩
theorem StSt.nextRC {e : TypeId} {v : Value} {n : Nat} {xs : List Value} (h : StSt (RS sb l) w W sb xb q f) (ho : W.ownsRow w.heap.size e 1 v n xs) (hq : q ≤ 1000000000000000) :
    Calls Tryz.prog 61 #[.pointer (some ⟨sb, 0, none⟩)] W fun E W' => E = .returned (.int .i64 ((byt l q).toNat : Int)) ∧ StSt (RS sb l) w W' sb xb (q + 1) f ∧ W'.ownsRow w.heap.size e 1 v n xs :=
  (rs_next sb l q W h.src hq).mono (by rintro e W' ⟨rfl, h1, h2⟩; exact ⟨rfl, h.call h1 h2, own_only ho h2 (Nat.le_refl _) (by intro k hk e; have := (ho.lt k hk).1; have := h.sb; omega)⟩)
theorem StSt.nextRO {R : Ending → World → Prop} {e : TypeId} {v : Value} {n : Nat} {xs : List Value} (h : StSt (RS sb l) w W sb xb q f) (ho : W.ownsRow w.heap.size e 1 v n xs) (hq : q ≤ 1000000000000000) (hk : ∀ W', StSt (RS sb l) w W' sb xb (q + 1) f → W'.ownsRow w.heap.size e 1 v n xs → R (.returned (.int .i64 ((byt l q).toNat : Int))) W') :
    Calls Tryz.prog 61 #[.pointer (some ⟨sb, 0, none⟩)] W R :=
  (h.nextRC ho hq).mono (by rintro e W' ⟨rfl, h1, h2⟩; exact hk W' h1 h2)
end

theorem mul_int (h b : UInt8) : IntKind.i64.wrap (IntKind.i64.wrap ((256 : Int) * (h.toNat : Int)) + (b.toNat : Int)) = 256 * (h.toNat : Int) + (b.toNat : Int) := by
  have hh := h.toNat_lt
  have hb := b.toNat_lt
  rw [IntWalk.i64_in (256 * _) (by omega), IntWalk.i64_in _ (by omega)]
set_option maxHeartbeats 2000000 in
set_option maxRecDepth 100000 in
theorem rs_step7 (sb : Nat) (l : List UInt8) (p : Nat) (w : World) (h : RS sb l w p) (hp : p ≤ 999999999998000) (hsb : sb < w.heap.size) (hk7 : (byt l p).toNat % 12 + 1 = 7) :
    Calls Tryz.prog 36 #[.pointer (some ⟨sb, 0, none⟩)] w fun e w' => ∃ d1 d2 fs, e = .returned (.agg (stVals (stepAt l p).1 d1 d2 fs).toArray) ∧ StOwn w' w.heap.size (stepAt l p).1 d1 d2 fs ∧ RS sb l w' (stepAt l p).2 ∧ Only w.heap.size (· = sb) w w' := by
  have hK := kept_rs sb l
  go_enter Tryz.func36, Tryz.ntmps36
  go_wp2_with fail
  generalize hw0 : (w.alloc _).alloc _ = w0
  have h0 := StSt.startR hK h hsb hw0
  clear hw0
  refine StSt.nextR h0 (by omega) ?_
  intro w1 h1
  clear h0
  have hkv : ((byt l p).toNat : Int) % 12 + 1 = 7 := by omega
  have HK := Lib.hid hk7
  have hx1 := h1.row.lt
  clear hk7
  obtain ⟨c0, c1, c2, c3, c4, c5, c6, c7, c8, z0, z1, z2, z3, z4, z5, z6, z7, z8⟩ := h1.cells
  go_wp2_with fail
  refine StSt.nextR (h1.set0 hK _) (by omega) ?_
  intro w2 h2
  clear h1
  clear c0 c1 c2 c3 c4 c5 c6 c7 c8 z0 z1 z2 z3 z4 z5 z6 z7 z8
  obtain ⟨c0, c1, c2, c3, c4, c5, c6, c7, c8, z0, z1, z2, z3, z4, z5, z6, z7, z8⟩ := h2.cells
  go_wp2_with fail
  refine StSt.nextR (h2.set1 hK _) (by omega) ?_
  intro w3 h3
  clear h2
  clear c0 c1 c2 c3 c4 c5 c6 c7 c8 z0 z1 z2 z3 z4 z5 z6 z7 z8
  obtain ⟨n, hn⟩ : ∃ n, n = (byt l (p + 2)).toNat % 5 := ⟨_, rfl⟩
  have hnv : ((byt l (p + 1 + 1)).toNat : Int) % 5 = (n : Int) := by rw [show p + 1 + 1 = p + 2 from rfl]; omega
  have hnb : n ≤ 4 := by omega
  have HN := Lib.hid hn
  clear hn
  obtain ⟨i3, hi, hz0, hz1, hz2⟩ := info3_of Tryz.info3
  go_wp2_with fail
  rw [hnv]
  clear hnv
  obtain ⟨xb, hxb⟩ : ∃ xb, xb = w.heap.size + 1 := ⟨_, rfl⟩
  rw [← hxb] at h3 ⊢
  have HXB := Lib.hid hxb
  clear hxb
  go_loopw [5, 6] (fun i _ wr => ∃ (k : Nat) (a : Option Addr) (c : Nat), k ≤ n ∧ i = .int .i64 k ∧ StSt (RS sb l) w wr sb xb (p + 3 + 2 * k) (stF [.int .i64 7, .int .i64 ((byt l (p + 1)).toNat : Int), .int .i64 0, .int .i64 0, .int .i64 0, .slice none 0 0, .float .f64 0, .slice none 0 0, .slice a k c]) ∧ wr.ownsRow w.heap.size 3 1 (.slice a k c) k (ints (fatesAt l (p + 3) k))) (fun i _ _ => n - (intOf i).toNat)
  case atStart => exact ⟨0, none, 0, by omega, rfl, h3, World.ownsRow_nil _ _ _ _⟩
  case round =>
    clear h3
    obtain ⟨k, a, c, hk, rfl, h3, hown⟩ := hrel
    by_cases hlt : k < n
    · go_wp2_with fail
      refine StSt.nextRO h3 hown (by omega) ?_
      intro w4 h4 hown4
      clear h3 hown
      have hbb := byte_le (byt l (p + 3 + 2 * k))
      go_wp2_with fail
      have h4d := StSt.drewG hK h4
      have hS4 := h4d.c8
      have hown4d : w4.drew.ownsRow w.heap.size 3 1 (.slice a k c) k (ints (fatesAt l (p + 3) k)) := hown4
      go_region_law (first
        | (refine step_call1 Tryz.func61 (by kernel_rfl) rfl (by rfl) _ _ (by rfl) (by rfl) (StSt.nextRC h4d hown4d (by omega)) ?_
           rintro e w5 ⟨rfl, h5, hown5⟩
           refine ⟨_, rfl, ?_⟩
           have hS5 := h5.c8
           have hbb2 := byte_le (byt l (p + 3 + 2 * k + 1))
           have hS6 := fun o => (h5.alloc hK o).c8)
        | (refine step_append_vals (by rfl) _ _ _ (by rfl) w.heap.size 3 _ 1 8 Tryz.underlying27 hi hz0 hz1 hz2 rfl (by decide) _ k _ (by rfl) (hown5.alloc _) _ 0 1 1 _ (by rfl) (by rfl) (reads_new (heap_al_new _ _)) (by intro u hu; simp at hu; subst hu; rfl) (by unfold maxLen; omega) (by omega) (by have := h5.only.size; simp; omega) ?_
           intro v7 w7 hown7 hgrow7 hblk7
           obtain ⟨a7, c7, hv7⟩ := own_form hown7
           subst hv7
           have h7 := (h5.alloc hK _).grown hK hgrow7 (fun k' hk' => ⟨by have := (hown5.lt k' hk').1; have := own_ne_row hown5 h5.res.choose_spec (by decide); have : k' ≠ w.heap.size := fun e => this (hk'.trans (congrArg some e)); omega, fun e => own_ne_row hown5 h5.row (by decide) (hk'.trans (congrArg some e))⟩)
           have hS7 := h7.c8
           have hZ7 := h7.z8))
      all_goals
        go_wp2_with fail
        have h8 := h7.set8 hK (.slice a7 (k + 1) c7)
        have hown8 := ownsRow_set (a := ⟨xb, 8, none⟩) hown7 (own_ne_row hown7 h7.row (by decide)) (.slice a7 (k + 1) c7)
        rw [mul_int] at hown8
        go_roundw
        case rel => exact ⟨k + 1, a7, c7, by omega, by go_num, by rw [show p + 3 + 2 * (k + 1) = p + 3 + 2 * k + 1 + 1 from by omega]; exact h8, by rw [fates_succ, ints_append]; exact hown8⟩
        case measure => simp [intOf]; omega
    · obtain rfl : k = n := by omega
      obtain ⟨c0, c1, c2, c3, c4, c5, c6, c7, c8, z0, z1, z2, z3, z4, z5, z6, z7, z8⟩ := h3.cells
      obtain ⟨g, d0, d1, d2, d3, d4, d5, d6, d7, d8, y0, y1, y2, y3, y4, y5, y6, y7, y8⟩ := h3.rcells
      have hx := h3.xb
      have hx2 := h3.row.lt
      go_wp2_with fail
      refine StSt.retG hK (by rfl) h3 _ ⟨7, ((byt l (p + 1)).toNat : Int), 0, op0, [], fatesAt l (p + 3) k⟩ _ _ _ (by simp only [stepAt, HK.out, ← HN.out]; rfl) (by rfl) (by rfl) (World.ownsRow_nil _ _ _ _) (World.ownsRow_nil _ _ _ _) ?_
      rw [fates_length]; exact hown
end Go.Proofs.YtgkddjefmonlaaaGreatDoor
