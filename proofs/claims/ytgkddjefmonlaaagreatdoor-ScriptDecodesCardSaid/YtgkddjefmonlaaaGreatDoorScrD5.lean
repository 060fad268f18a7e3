/-
  The program's step of layer 25: the one that opens.
-/
import Derived.Test.YtgkddjefmonlaaaGreatDoorScrD4
namespace Go.Proofs.YtgkddjefmonlaaaGreatDoor
open Go.RowKit

theorem or_int (h b : UInt8) : bits .or .i64 (IntKind.i64.wrap ((h.toNat : Int) * 256)) (b.toNat : Int) = 256 * (h.toNat : Int) + (b.toNat : Int) := by
  have hh := h.toNat_lt
  have hb := b.toNat_lt
  have e1 : IntKind.i64.wrap ((h.toNat : Int) * 256) = ((2 ^ 8 * h.toNat : Nat) : Int) := by rw [IntWalk.i64_in _ (by omega)]; omega
  rw [e1]
  have e2 : 2 ^ 8 * h.toNat ||| b.toNat = 2 ^ 8 * h.toNat + b.toNat := (Nat.two_pow_add_eq_or_of_lt (by simpa using hb) _).symm
  show IntKind.i64.wrap ((BitVec.ofInt 64 ((2 ^ 8 * h.toNat : Nat) : Int) ||| BitVec.ofInt 64 (b.toNat : Int)).toNat : Int) = _
  rw [BitVec.toNat_or, ofInt_u64 _ (by omega), ofInt_u64 _ (by omega), e2, IntWalk.i64_in _ (by omega)]
  omega

set_option maxHeartbeats 400000 in
set_option maxRecDepth 100000 in
theorem src_step7 (sb : Nat) (l : List UInt8) (p : Nat) (w : World) (h : SrcAt w sb (l.drop p)) (hk7 : (byt l p).toNat % 12 + 1 = 7) :
    Calls Tryz.prog 35 #[.pointer (some ⟨sb, 0, none⟩)] w fun e w' => ∃ d1 d2 fs, e = .returned (.agg (stVals (stepAt l p).1 d1 d2 fs).toArray) ∧ StOwn w' w.heap.size (stepAt l p).1 d1 d2 fs ∧ SrcAt w' sb (l.drop (stepAt l p).2) ∧ Only w.heap.size (· = sb) w w' := by
  have hsb := h.lt
  have hK := kept_src sb l
  go_enter Tryz.func35, Tryz.ntmps35
  go_wp2_with fail
  generalize hw0 : w.alloc _ = w0
  obtain ⟨hr0, hb0, hs0⟩ := step_alloc hw0
  clear hw0
  refine (src_at sb l p w0 (h.below hb0 (Nat.le_refl _))).mono ?_
  rintro e w1 ⟨rfl, h1, ho1⟩
  have hr1 := hr0.of_block (ho1.block _ (by omega) (by show w.heap.size ≠ sb; omega))
  have ho : Only w.heap.size (· = sb) w w1 := (Only.of_below hb0).trans (ho1.mono hb0.size)
  have hsz1 : w.heap.size < w1.heap.size := by have := ho1.size; omega
  clear hr0 hb0 hs0 ho1
  have hkv : ((byt l p).toNat : Int) % 12 + 1 = 7 := by omega
  have HK := Lib.hid hk7
  have h1' : PS sb l w1 (p + 1) := h1
  clear hk7
  go_wp2_with fail
  refine StSt.next (StSt.start hK hr1 h1' ho hsb) ?_
  intro w2 h2
  clear hr1 h1 ho h1'
  obtain ⟨c0, c1, c2, c3, c4, c5, c6, c7, c8, z0, z1, z2, z3, z4, z5, z6, z7, z8⟩ := h2.cells
  go_wp2_with fail
  refine StSt.next (h2.set1 hK _) ?_
  intro w3 h3
  clear c0 c1 c2 c3 c4 c5 c6 c7 c8 z0 z1 z2 z3 z4 z5 z6 z7 z8
  obtain ⟨n, hn⟩ : ∃ n, n = (byt l (p + 2)).toNat % 5 := ⟨_, rfl⟩
  have hnv : ((byt l (p + 2)).toNat : Int) % 5 = (n : Int) := by omega
  have hnb : n ≤ 4 := by omega
  have HN := Lib.hid hn
  clear hn
  obtain ⟨i3, hi, hz0, hz1, hz2⟩ := info3_of Tryz.info3
  go_wp2_with fail
  obtain ⟨xb, hxb⟩ : ∃ xb, xb = w1.heap.size := ⟨_, rfl⟩
  rw [← hxb] at h3 ⊢
  have HXB := Lib.hid hxb
  clear hxb
  go_loopw [4, 56] (fun _ i wr => ∃ (k : Nat) (a : Option Addr) (c : Nat), k ≤ n ∧ i = .int .i64 k ∧ StSt (PS sb l) w wr sb xb (p + 3 + 2 * k) (stF [.int .i64 7, .int .i64 ((byt l (p + 1)).toNat : Int), .int .i64 0, .int .i64 0, .int .i64 0, .slice none 0 0, .float .f64 0, .slice none 0 0, .slice a k c]) ∧ wr.ownsRow w.heap.size 3 1 (.slice a k c) k (ints (fatesAt l (p + 3) k))) (fun _ i _ => n - (intOf i).toNat)
  case atStart => exact ⟨0, none, 0, by omega, rfl, h3, World.ownsRow_nil _ _ _ _⟩
  case round =>
    clear h3
    obtain ⟨k, a, c, hk, rfl, h3, hown⟩ := hrel
    by_cases hlt : k < n
    · go_wp2_with fail
      refine StSt.nextO h3 hown ?_
      intro w4 h4 hown4
      clear h3 hown
      have hbb := byte_le (byt l (p + 3 + 2 * k))
      go_wp2_with fail
      have h4d := h4.drew
      have hS4 := h4d.c8
      have hown4d : w4.drew.ownsRow w.heap.size 3 1 (.slice a k c) k (ints (fatesAt l (p + 3) k)) := hown4
      go_region_law (first
        | (refine step_call1 Tryz.func57 (by kernel_rfl) rfl (by rfl) _ _ (by rfl) (by rfl) (StSt.nextC h4d hown4d) ?_
           rintro e w5 ⟨rfl, h5, hown5⟩
           refine ⟨_, rfl, ?_⟩
           have hS5 := h5.c8
           have hbb2 := byte_le (byt l (p + 3 + 2 * k + 1))
           have hS6 := fun o => (h5.alloc hK o).c8)
        | (refine step_append_vals (by rfl) _ _ _ (by rfl) w.heap.size 3 _ 1 8 Tryz.underlying27 hi hz0 hz1 hz2 rfl (by decide) _ k _ (by rfl) (hown5.alloc _) _ 0 1 1 _ (by rfl) (by rfl) (reads_new (heap_al_new _ _)) (by intro u hu; simp at hu; subst hu; rfl) (by unfold maxLen; omega) (by omega) (by have := h5.only.size; simp; omega) ?_
           intro v7 w7 hown7 hgrow7 hblk7
           obtain ⟨a7, c7, hv7⟩ := own_form hown7
           subst hv7
           have h7 := (h5.alloc hK _).grown hK hgrow7 (fun k' hk' => ⟨by have := (hown5.lt k' hk').1; have := own_ne_row hown5 h5.res.choose_spec (by decide); have : k' ≠ w.heap.size := fun e => this (hk'.trans (congrArg some e)); omega, fun e => own_ne_row hown5 h5.row (by decide) (hk'.trans (congrArg some e))⟩)
           have hS7 := h7.c8
           have hZ7 := h7.z8))
      all_goals
        go_wp2_with fail
        have h8 := h7.set8 hK (.slice a7 (k + 1) c7)
        have hown8 := ownsRow_set (a := ⟨xb, 8, none⟩) hown7 (own_ne_row hown7 h7.row (by decide)) (.slice a7 (k + 1) c7)
        rw [or_int] at hown8
        go_roundw
        case rel => exact ⟨k + 1, by omega, by omega, a7, c7, by rw [show p + 3 + 2 * (k + 1) = p + 3 + 2 * k + 1 + 1 from by omega]; exact h8, by rw [fates_succ, ints_append]; exact hown8⟩
        case measure => simp [intOf]; omega
    · obtain rfl : k = n := by omega
      obtain ⟨c0, c1, c2, c3, c4, c5, c6, c7, c8, z0, z1, z2, z3, z4, z5, z6, z7, z8⟩ := h3.cells
      obtain ⟨g, d0, d1, d2, d3, d4, d5, d6, d7, d8, y0, y1, y2, y3, y4, y5, y6, y7, y8⟩ := h3.rcells
      have hx := h3.xb
      have hx2 := h3.row.lt
      go_wp2_with fail
      refine StSt.ret h3 ⟨7, ((byt l (p + 1)).toNat : Int), 0, op0, [], fatesAt l (p + 3) k⟩ _ _ _ (by simp only [stepAt, HK.out, ← HN.out]; rfl) (by rfl) (by rfl) (World.ownsRow_nil _ _ _ _) (World.ownsRow_nil _ _ _ _) ?_
      rw [fates_length]; exact hown
end Go.Proofs.YtgkddjefmonlaaaGreatDoor
