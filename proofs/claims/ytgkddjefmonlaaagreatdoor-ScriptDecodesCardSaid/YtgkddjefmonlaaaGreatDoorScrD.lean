/-
  The program's Decode of layer 25: the source of bytes, and what is taken off it.
-/
import Derived.Test.YtgkddjefmonlaaaGreatDoorBase2
import Derived.Test.YtgkddjefmonlaaaGreatDoorNum
import Derived.Test.YtgkddjefmonlaaaGreatDoorScrE
namespace Go.Proofs.YtgkddjefmonlaaaGreatDoor
open Go.RowKit

/-- a source in memory: what is left of its bytes -/
structure SrcAt (w : World) (sb : Nat) (l : List UInt8) : Prop where
  row : ∃ a n c, w.rowIs sb 72 1 (fun _ => .slice a n c) ∧ Bs w a n c l ∧ ∀ x, a = some x → x.block < sb

theorem SrcAt.only {w w' : World} {sb B : Nat} {S : Nat → Prop} {l : List UInt8} (h : SrcAt w sb l) (hw : Only B S w w') (hB : w.heap.size ≤ B) (hS : ∀ k, k ≤ sb → ¬ S k) : SrcAt w' sb l := by
  obtain ⟨a, n, c, hr, hb, hs⟩ := h.row
  have := hr.lt
  refine ⟨a, n, c, hr.of_block (hw.block _ (by omega) (hS sb (Nat.le_refl _))), ⟨hb.len, hb.cap, hb.bnd, hb.lbnd, hb.nil', hb.at'.imp id fun ⟨b, o, e, r⟩ => ⟨b, o, e, r.only hw hB (hS b (Nat.le_of_lt (hs ⟨b, o, none⟩ e)))⟩⟩, hs⟩

theorem SrcAt.below {w w' : World} {sb B : Nat} {l : List UInt8} (h : SrcAt w sb l) (hw : Below B w w') (hB : w.heap.size ≤ B) : SrcAt w' sb l :=
  h.only (Only.of_below (S := fun _ => False) hw) hB fun _ _ => id

theorem SrcAt.lt {w : World} {sb : Nat} {l : List UInt8} (h : SrcAt w sb l) : sb < w.heap.size := by
  obtain ⟨_, _, _, hr, _⟩ := h.row
  exact hr.lt

set_option maxRecDepth 100000 in
theorem src_next (sb : Nat) (l : List UInt8) (w : World) (h : SrcAt w sb l) :
    Calls Tryz.prog 57 #[.pointer (some ⟨sb, 0, none⟩)] w fun e w' => e = .returned (.int .i64 ((l.headD 0).toNat : Int)) ∧ SrcAt w' sb l.tail ∧ Only w.heap.size (· = sb) w w' := by
  obtain ⟨a, n, c, hr, hb, hs⟩ := h.row
  have hbl := hb.len
  have hbc := hb.cap
  have hbb := hb.bnd
  have hbb2 := hb.lbnd
  have c0 := hr.cell (i := 0) (by omega)
  have z0 := hr.frozen 0
  cases l with
  | nil =>
    obtain rfl : n = 0 := by simpa using hbl
    clear hbl
    go_enter Tryz.func57, Tryz.ntmps57
    go_wp2
    go_ret
    exact ⟨rfl, h, Only.refl _ _ _⟩
  | cons x t =>
    obtain ⟨pb, po, rfl, hrd⟩ := hb.get (j := 0) (by simp)
    have f0 := hrd.at (j := 0) (by simp)
    simp only [List.getElem_cons_zero, Nat.add_zero] at f0
    simp only [List.length_cons] at hbl
    have hn : ((n : Int) == 0) = false := by rw [beq_eq_false_iff_ne]; omega
    have hn0 : (0 : Int) < n := by omega
    have hx := byte_le x
    have hfin : ∀ (ad : Option Addr) (W : World), (c = 1 → ad = some ⟨pb, po, none⟩) → (c ≠ 1 → ad = some ⟨pb, po + 1, none⟩) → W = w.setCell ⟨sb, 0, none⟩ (.slice ad (n - 1) (c - 1)) → SrcAt W sb t ∧ Only w.heap.size (· = sb) w W := by
      rintro ad W h1 h2 rfl
      have hsp : ∀ x, ad = some x → x.block = pb := by
        intro x hx
        by_cases e : c = 1
        · rw [h1 e] at hx; cases hx; rfl
        · rw [h2 e] at hx; cases hx; rfl
      have hpb : pb < sb := hs ⟨pb, po, none⟩ rfl
      refine ⟨⟨ad, n - 1, c - 1, (hr.set 0 _).congr (fun i hi => by rw [if_pos (by omega)]), ⟨by omega, by omega, by omega, by omega, ?_, ?_⟩, fun x hx => by rw [hsp x hx]; exact hpb⟩, Only.setCell (S := fun k => k = sb) (p := ⟨sb, 0, none⟩) (Only.refl w.heap.size _ w) (.inr rfl) _⟩
      · intro e
        by_cases ee : c = 1
        · rw [h1 ee] at e; cases e
        · rw [h2 ee] at e; cases e
      · by_cases ee : c = 1
        · left; exact List.eq_nil_of_length_eq_zero (by omega)
        · refine .inr ⟨pb, po + 1, h2 ee, ?_⟩
          have := (Reads.cons (u := vb x) (xs := bs t) hrd).2
          exact this.only (S := fun k => k = sb) (Only.setCell (S := fun k => k = sb) (p := ⟨sb, 0, none⟩) (Only.refl w.heap.size _ w) (.inr rfl) _) (Nat.le_refl _) (by omega)
    have HBL := Lib.hid hbl
    have HF := Lib.hid hfin
    clear hbl hfin
    go_enter Tryz.func57, Tryz.ntmps57
    go_wp2
    · go_ret
      have hc1 : c = 1 := by omega
      exact ⟨rfl, HF.out _ _ (fun _ => rfl) (fun e => absurd hc1 e) (by rw [show c - 1 = 0 from by omega])⟩
    · go_ret
      exact ⟨rfl, HF.out _ _ (fun e => absurd e (by omega)) (fun _ => rfl) rfl⟩

/-- the bytes at a place on, noughts behind the end -/
def byt (l : List UInt8) (p : Nat) : UInt8 := l.getD p 0
def rowB (l : List UInt8) (p n : Nat) : List UInt8 := (List.range n).map fun i => byt l (p + i)
theorem byt_drop (l : List UInt8) (p : Nat) : (l.drop p).headD 0 = byt l p := by simp [byt, List.headD_eq_head?_getD, List.head?_drop, List.getD_eq_getElem?_getD]
theorem rowB_succ (l : List UInt8) (p n : Nat) : rowB l p (n + 1) = rowB l p n ++ [byt l (p + n)] := by simp [rowB, List.range_succ]
theorem rowB_length (l : List UInt8) (p n : Nat) : (rowB l p n).length = n := by simp [rowB]

theorem src_at (sb : Nat) (l : List UInt8) (p : Nat) (w : World) (h : SrcAt w sb (l.drop p)) :
    Calls Tryz.prog 57 #[.pointer (some ⟨sb, 0, none⟩)] w fun e w' => e = .returned (.int .i64 ((byt l p).toNat : Int)) ∧ SrcAt w' sb (l.drop (p + 1)) ∧ Only w.heap.size (· = sb) w w' := by
  have := src_next sb (l.drop p) w h
  rw [byt_drop, List.tail_drop] at this
  exact this

set_option maxRecDepth 100000 in
theorem src_some (sb : Nat) (l : List UInt8) (p : Nat) (w : World) (h : SrcAt w sb (l.drop p)) :
    Calls Tryz.prog 59 #[.pointer (some ⟨sb, 0, none⟩), .int .i64 9] w fun e w' => ∃ v, e = .returned v ∧ w'.ownsRow w.heap.size 5 1 v ((byt l p).toNat % 9) (bs (rowB l (p + 1) ((byt l p).toNat % 9))) ∧ SrcAt w' sb (l.drop (p + 1 + (byt l p).toNat % 9)) ∧ Only w.heap.size (· = sb) w w' := by
  obtain ⟨i0, hi, hz0, hz1, hz2⟩ := info_parts Tryz.info5
  have hsb := h.lt
  go_enter Tryz.func59, Tryz.ntmps59
  go_wp2_with (go_at_call 57; refine (src_at sb l p w h).mono ?_; rintro e w1 ⟨rfl, h1, ho1⟩)
  obtain ⟨n, hn⟩ : ∃ n, n = (byt l p).toNat % 9 := ⟨_, rfl⟩
  have hnb : n ≤ 8 := by omega
  have hnv : ((byt l p).toNat : Int) % 9 = (n : Int) := by omega
  have HN := Lib.hid hn
  rw [hnv]
  clear hn hnv
  go_loopw [5, 10] (fun v i wr => ∃ k : Nat, k ≤ n ∧ i = .int .i64 k ∧ wr.ownsRow w.heap.size 5 1 v k (bs (rowB l (p + 1) k)) ∧ SrcAt wr sb (l.drop (p + 1 + k)) ∧ Only w.heap.size (· = sb) w wr) (fun _ i _ => n - (intOf i).toNat)
  case atStart => exact ⟨0, by omega, rfl, World.ownsRow_nil _ _ _ _, h1, ho1⟩
  case round =>
    clear h1 ho1
    obtain ⟨k, hk, rfl, hown, h1, ho1⟩ := hrel
    by_cases hlt : k < n
    · have hmod : ((byt l (p + 1 + k)).toNat : Int) % 256 = ((byt l (p + 1 + k)).toNat : Int) := by have := byte_le (byt l (p + 1 + k)); omega
      go_wp2_with (first
        | (go_at_call 57; refine (src_at sb l (p + 1 + k) wr h1).mono ?_; rintro e w2 ⟨rfl, h2, ho2⟩; have hown2 := own_only hown ho2 (Nat.le_refl _) (by intro k' hk' e'; have := (hown.lt k' hk').1; omega))
        | (at_builtin; (refine wpList_append_bytes rfl _ _ _ rfl w.heap.size 5 Tryz.underlying23 hi hz0 hz1 hz2 _ k _ rfl (hown2.alloc _) _ 1 1 [byt l (p + 1 + k)] rfl (bs_one_at (heap_al_new _ _)) (by omega) (by have := ho1.size; have := ho2.size; simp; omega) ?_); intro v3 w3 hown3 hgrow3 hblk3))
      have hgr : Only w.heap.size (· = sb) w w3 := ((ho1.trans (ho2.mono ho1.size)).alloc (by have := ho1.size; have := ho2.size; omega) _).grown hgrow3 (by have := ho1.size; have := ho2.size; simp; omega) (fun k' hk' => .inl (hown.lt k' hk').1)
      have hsr : SrcAt w3 sb (l.drop (p + 1 + (k + 1))) := h2.only (B := w2.heap.size) (S := fun k => w.heap.size ≤ k) (((Only.refl _ _ _).alloc (Nat.le_refl _) _).grown hgrow3 (by simp) (fun k' hk' => .inr (hown.lt k' hk').1)) (Nat.le_refl _) (by intro k' hk'; omega)
      go_roundw
      case rel => exact ⟨k + 1, by omega, by go_num, by rw [rowB_succ, bs_append]; rw [bs_append] at hown3; exact hown3, hsr, hgr⟩
      case measure => simp [intOf]; omega
    · go_wp2
      go_ret
      obtain rfl : k = n := by omega
      have hn := HN.out
      subst hn
      exact ⟨_, rfl, hown, h1, ho1⟩

theorem or_byte (N : UInt64) (b : UInt8) : bits .or .u64 (IntKind.u64.wrap ((N.toNat : Int) * 256)) (b.toNat : Int) = ((256 * N + b.toUInt64).toNat : Int) := by
  have hb := b.toNat_lt
  have hN := N.toNat_lt
  have e1 : IntKind.u64.wrap ((N.toNat : Int) * 256) = ((256 * N).toNat : Int) := by
    rw [IntKind.wrap_u64, UInt64.toNat_mul]; simp; omega
  have e2 : (b.toNat : Int) = (b.toUInt64.toNat : Int) := by simp
  rw [e1, e2, w64_or]
  have e3 : (256 * N).toNat = 2 ^ 8 * (N.toNat % 2 ^ 56) := by rw [UInt64.toNat_mul]; simp; omega
  have e4 : (256 * N ||| b.toUInt64).toNat = (256 * N + b.toUInt64).toNat := by
    rw [UInt64.toNat_or, UInt64.toNat_add, e3, ← Nat.two_pow_add_eq_or_of_lt (by simpa using hb)]
    simp; omega
  rw [e4]

set_option maxRecDepth 100000 in
theorem src_number (sb : Nat) (l : List UInt8) (p : Nat) (w : World) (h : SrcAt w sb (l.drop p)) :
    Calls Tryz.prog 60 #[.pointer (some ⟨sb, 0, none⟩)] w fun e w' => e = .returned (.float .f64 (beN (rowB l p 8)).toNat) ∧ SrcAt w' sb (l.drop (p + 8)) ∧ Only w.heap.size (· = sb) w w' := by
  have hsb := h.lt
  go_enter Tryz.func60, Tryz.ntmps60
  go_wp2_with fail
  go_loopw [3, 4] (fun v i wr => ∃ k : Nat, k ≤ 8 ∧ i = .int .i64 k ∧ v = .int .u64 ((beN (rowB l p k)).toNat : Int) ∧ SrcAt wr sb (l.drop (p + k)) ∧ Only w.heap.size (· = sb) w wr) (fun _ i _ => 8 - (intOf i).toNat)
  case atStart => exact ⟨0, by omega, rfl, rfl, h, Only.refl _ _ _⟩
  case round =>
    clear h
    obtain ⟨k, hk, rfl, rfl, h1, ho1⟩ := hrel
    obtain ⟨N, hN⟩ : ∃ N, N = beN (rowB l p k) := ⟨_, rfl⟩
    have hNl := w64_le N
    rw [← hN]
    have HN := Lib.hid hN
    clear hN
    by_cases hlt : k < 8
    · have hb := byte_le (byt l (p + k))
      go_wp2_with (first
        | (go_at_call 57; refine (src_at sb l (p + k) wr h1).mono ?_; rintro e w2 ⟨rfl, h2, ho2⟩))
      go_roundw
      case rel => exact ⟨k + 1, by omega, by go_num, by rw [or_byte, rowB_succ, beN_snoc, HN.out], h2, ho1.trans (ho2.mono ho1.size)⟩
      case measure => simp [intOf]; omega
    · obtain rfl : k = 8 := by omega
      have hfb := run_frombits
      go_wp2
      go_ret
      refine ⟨?_, h1, ho1⟩
      rw [HN.out]; rfl
end Go.Proofs.YtgkddjefmonlaaaGreatDoor
