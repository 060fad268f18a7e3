/-
  The reference's source of layer 25: Next, Some, Real.
-/
import Derived.Test.YtgkddjefmonlaaaGreatDoorScrD6
namespace Go.Proofs.YtgkddjefmonlaaaGreatDoor
open Go.RowKit

def rsF (a : Option Addr) (n c q : Nat) : Nat → Value
  | 0 => .slice a n c
  | _ => .int .i64 (q : Int)
/-- the reference's source at a place of its bytes -/
def RS (sb : Nat) (l : List UInt8) (W : World) (q : Nat) : Prop :=
  ∃ a n c, W.rowIs sb 76 2 (rsF a n c q) ∧ Bs W a n c l ∧ ∀ x, a = some x → x.block < sb

theorem kept_rs (sb : Nat) (l : List UInt8) : Kept (RS sb l) sb := by
  rintro W W' q S ⟨a, n, c, hr, hb, hs⟩ ho hn
  have := hr.lt
  exact ⟨a, n, c, hr.of_block (ho.block _ this (hn sb (Nat.le_refl _))), ⟨hb.len, hb.cap, hb.bnd, hb.lbnd, hb.nil', hb.at'.imp id fun ⟨b, o, e, r⟩ => ⟨b, o, e, r.only ho (Nat.le_refl _) (hn b (Nat.le_of_lt (hs ⟨b, o, none⟩ e)))⟩⟩, hs⟩

set_option maxRecDepth 100000 in
theorem rs_next (sb : Nat) (l : List UInt8) (q : Nat) (w : World) (h : RS sb l w q) (hq : q ≤ 1000000000000000) :
    Calls Tryz.prog 61 #[.pointer (some ⟨sb, 0, none⟩)] w fun e w' => e = .returned (.int .i64 ((byt l q).toNat : Int)) ∧ RS sb l w' (q + 1) ∧ Only w.heap.size (· = sb) w w' := by
  obtain ⟨a, n, c, hr, hb, hs⟩ := h
  have hbl := hb.len
  have hbc := hb.cap
  have hbb := hb.bnd
  have hbb2 := hb.lbnd
  have c0 := hr.cell (i := 0) (by omega)
  have c1 := hr.cell (i := 1) (by omega)
  have z0 := hr.frozen 0
  have z1 := hr.frozen 1
  simp only [rsF] at c0 c1
  have hfin : RS sb l (w.setCell ⟨sb, 1, none⟩ (.int .i64 ((q : Int) + 1))) (q + 1) ∧ Only w.heap.size (· = sb) w (w.setCell ⟨sb, 1, none⟩ (.int .i64 ((q : Int) + 1))) := by
    have ho : Only w.heap.size (· = sb) w (w.setCell ⟨sb, 1, none⟩ (.int .i64 ((q : Int) + 1))) := Only.setCell (S := fun k => k = sb) (p := ⟨sb, 1, none⟩) (Only.refl _ _ _) (.inr rfl) _
    refine ⟨⟨a, n, c, (hr.set 1 _).congr fun i hi => ?_, ⟨hb.len, hb.cap, hb.bnd, hb.lbnd, hb.nil', hb.at'.imp id fun ⟨b, o, e, r⟩ => ⟨b, o, e, r.only ho (Nat.le_refl _) (by have : b < sb := hs ⟨b, o, none⟩ e; show ¬ b = sb; omega)⟩⟩, hs⟩, ho⟩
    match i, hi with
    | 0, _ => rfl
    | 1, _ => rfl
  have HF := Lib.hid hfin
  clear hfin
  by_cases hlt : q < l.length
  · obtain ⟨pb, po, rfl, hrd⟩ := hb.get hlt
    have f0 := hrd.at hlt
    have hx := byte_le l[q]
    have hbv : byt l q = l[q] := by simp [byt, hlt]
    have hgt : ((n : Int) < (q : Int) + 1) = False := by rw [eq_iff_iff]; constructor; omega; exact False.elim
    have hne := hs ⟨pb, po, none⟩ rfl
    have HBV := Lib.hid hbv
    have HBL := Lib.hid hbl
    have hqn : (q : Int) < (n : Int) := by omega
    clear hbv hbl
    go_enter Tryz.func61, Tryz.ntmps61
    go_wp2
    go_quiet (fail)
    go_wp2
    go_quiet (fail)
    go_wp2
    go_ret
    exact ⟨ret_int (by rw [HBV.out]), (kept_rs sb l) _ _ _ (fun _ => False) HF.out.1 (((Only.refl _ _ _).drewN _).drewN _) (fun _ _ => id), (HF.out.2.drewN _).drewN _⟩
  · have hbv : byt l q = 0 := by simp [byt, List.getD_eq_getElem?_getD, List.getElem?_eq_none (Nat.le_of_not_lt hlt)]
    have hqn : (n : Int) ≤ (q : Int) := by omega
    have HBV := Lib.hid hbv
    have HBL := Lib.hid hbl
    clear hbv hbl
    go_enter Tryz.func61, Tryz.ntmps61
    go_wp2
    go_quiet (fail)
    go_wp2
    go_ret
    exact ⟨ret_int (by rw [HBV.out]; rfl), (kept_rs sb l) _ _ _ (fun _ => False) HF.out.1 ((Only.refl _ _ _).drewN _) (fun _ _ => id), HF.out.2.drewN _⟩

set_option maxRecDepth 100000 in
theorem rs_some (sb : Nat) (l : List UInt8) (p : Nat) (w : World) (h : RS sb l w p) (hp : p ≤ 999999999999000) (hsb : sb < w.heap.size) :
    Calls Tryz.prog 62 #[.pointer (some ⟨sb, 0, none⟩)] w fun e w' => ∃ v, e = .returned v ∧ w'.ownsRow w.heap.size 5 1 v ((byt l p).toNat % 9) (bs (rowB l (p + 1) ((byt l p).toNat % 9))) ∧ RS sb l w' (p + 1 + (byt l p).toNat % 9) ∧ Only w.heap.size (· = sb) w w' := by
  obtain ⟨i0, hi, hz0, hz1, hz2⟩ := info_parts Tryz.info5
  have hK := kept_rs sb l
  go_enter Tryz.func62, Tryz.ntmps62
  go_wp2_with (go_at_call 61; refine (rs_next sb l p w h (by omega)).mono ?_; rintro e w1 ⟨rfl, h1, ho1⟩)
  obtain ⟨n, hn⟩ : ∃ n, n = (byt l p).toNat % 9 := ⟨_, rfl⟩
  have hnb : n ≤ 8 := by omega
  have hnv : ((byt l p).toNat : Int) % 9 = (n : Int) := by omega
  have HN := Lib.hid hn
  go_wp2_with fail
  rw [hnv]
  clear hn hnv
  go_loopw [4, 5] (fun v i wr => ∃ k : Nat, k ≤ n ∧ i = .int .i64 k ∧ wr.ownsRow w.heap.size 5 1 v k (bs (rowB l (p + 1) k)) ∧ RS sb l wr (p + 1 + k) ∧ Only w.heap.size (· = sb) w wr) (fun _ i _ => n - (intOf i).toNat)
  case atStart => exact ⟨0, by omega, rfl, World.ownsRow_nil _ _ _ _, h1, ho1⟩
  case round =>
    clear h1 ho1
    obtain ⟨k, hk, rfl, hown, h1, ho1⟩ := hrel
    have hmod : ((byt l (p + 1 + k)).toNat : Int) % 256 = ((byt l (p + 1 + k)).toNat : Int) := by have := byte_le (byt l (p + 1 + k)); omega
    by_cases hlt : k < n
    · skip
      go_wp2_with (first
        | (go_at_call 61; refine (rs_next sb l (p + 1 + k) wr h1 (by omega)).mono ?_; rintro e w2 ⟨rfl, h2, ho2⟩; have hown2 := own_only hown ho2 (Nat.le_refl _) (by intro k' hk' e'; have := (hown.lt k' hk').1; omega))
        | (at_builtin; (refine wpList_append_bytes rfl _ _ _ rfl w.heap.size 5 Tryz.underlying23 hi hz0 hz1 hz2 _ k _ rfl (hown2.alloc _) _ 1 1 [byt l (p + 1 + k)] rfl (bs_one_at (heap_al_new _ _)) (by omega) (by have := ho1.size; have := ho2.size; simp; omega) ?_); intro v3 w3 hown3 hgrow3 hblk3))
      have hgr : Only w.heap.size (· = sb) w w3 := ((ho1.trans (ho2.mono ho1.size)).alloc (by have := ho1.size; have := ho2.size; omega) _).grown hgrow3 (by have := ho1.size; have := ho2.size; simp; omega) (fun k' hk' => .inl (hown.lt k' hk').1)
      have hsr : RS sb l w3 (p + 1 + (k + 1)) := hK w2 w3 _ (fun k => w.heap.size ≤ k) h2 (((Only.refl _ _ _).alloc (Nat.le_refl _) _).grown hgrow3 (by simp) (fun k' hk' => .inr (hown.lt k' hk').1)) (by intro k' hk'; omega)
      go_roundw
      case rel => exact ⟨k + 1, by omega, by go_num, by rw [rowB_succ, bs_append]; rw [bs_append] at hown3; exact hown3, hsr, hgr⟩
      case measure => simp [intOf]; omega
    · go_wp2
      go_ret
      obtain rfl : k = n := by omega
      have hn := HN.out
      subst hn
      exact ⟨_, rfl, hown, h1, ho1⟩

set_option maxRecDepth 100000 in
theorem rs_real (sb : Nat) (l : List UInt8) (p : Nat) (w : World) (h : RS sb l w p) (hp : p ≤ 999999999999000) (hsb : sb < w.heap.size) :
    Calls Tryz.prog 63 #[.pointer (some ⟨sb, 0, none⟩)] w fun e w' => e = .returned (.float .f64 (beN (rowB l p 8)).toNat) ∧ RS sb l w' (p + 8) ∧ Only w.heap.size (· = sb) w w' := by
  obtain ⟨i0, hi, hz0, hz1, hz2⟩ := info_parts Tryz.info5
  have hK := kept_rs sb l
  go_enter Tryz.func63, Tryz.ntmps63
  go_wp2_with fail
  go_loopw [3, 4] (fun v i wr => ∃ k : Nat, k ≤ 8 ∧ i = .int .i64 k ∧ wr.ownsRow w.heap.size 5 1 v k (bs (rowB l p k)) ∧ RS sb l wr (p + k) ∧ Only w.heap.size (· = sb) w wr) (fun _ i _ => 8 - (intOf i).toNat)
  case atStart => exact ⟨0, by omega, rfl, World.ownsRow_nil _ _ _ _, h, Only.refl _ _ _⟩
  case round =>
    clear h
    obtain ⟨k, hk, rfl, hown, h1, ho1⟩ := hrel
    have hmod : ((byt l (p + k)).toNat : Int) % 256 = ((byt l (p + k)).toNat : Int) := by have := byte_le (byt l (p + k)); omega
    by_cases hlt : k < 8
    · skip
      go_wp2_with (first
        | (go_at_call 61; refine (rs_next sb l (p + k) wr h1 (by omega)).mono ?_; rintro e w2 ⟨rfl, h2, ho2⟩; have hown2 := own_only hown ho2 (Nat.le_refl _) (by intro k' hk' e'; have := (hown.lt k' hk').1; omega))
        | (at_builtin; (refine wpList_append_bytes rfl _ _ _ rfl w.heap.size 5 Tryz.underlying23 hi hz0 hz1 hz2 _ k _ rfl (hown2.alloc _) _ 1 1 [byt l (p + k)] rfl (bs_one_at (heap_al_new _ _)) (by omega) (by have := ho1.size; have := ho2.size; simp; omega) ?_); intro v3 w3 hown3 hgrow3 hblk3))
      have hgr : Only w.heap.size (· = sb) w w3 := ((ho1.trans (ho2.mono ho1.size)).alloc (by have := ho1.size; have := ho2.size; omega) _).grown hgrow3 (by have := ho1.size; have := ho2.size; simp; omega) (fun k' hk' => .inl (hown.lt k' hk').1)
      have hsr : RS sb l w3 (p + (k + 1)) := hK w2 w3 _ (fun k => w.heap.size ≤ k) h2 (((Only.refl _ _ _).alloc (Nat.le_refl _) _).grown hgrow3 (by simp) (fun k' hk' => .inr (hown.lt k' hk').1)) (by intro k' hk'; omega)
      go_roundw
      case rel => exact ⟨k + 1, by omega, by go_num, by rw [rowB_succ, bs_append]; rw [bs_append] at hown3; exact hown3, hsr, hgr⟩
      case measure => simp [intOf]; omega
    · obtain rfl : k = 8 := by omega
      obtain ⟨va, vc, rfl, hvb⟩ := own_bs hown (by omega)
      have hfb := run_frombits
      clear hown
      go_wp2_with (go_at_call 31; refine (ref02_Num va 8 vc (rowB l p 8) wr hvb).mono ?_; rintro e w2 ⟨rfl, mm, rfl⟩)
      go_wp2
      go_ret
      exact ⟨rfl, hK _ _ _ (fun _ => False) h1 ((Only.refl _ _ _).drewN _) (fun _ _ => id), ho1.drewN _⟩
end Go.Proofs.YtgkddjefmonlaaaGreatDoor
