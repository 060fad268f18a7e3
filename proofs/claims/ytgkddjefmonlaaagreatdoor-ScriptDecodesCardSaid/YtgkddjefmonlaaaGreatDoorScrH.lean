/-
  Words of digits in layer 25: the program's bytes of a word.
-/
import Derived.Test.YtgkddjefmonlaaaGreatDoorScrN
import Derived.IntWalk
namespace Go.Proofs.YtgkddjefmonlaaaGreatDoor
open Go.RowKit

def hexD : List UInt8 := [48, 49, 50, 51, 52, 53, 54, 55, 56, 57, 97, 98, 99, 100, 101, 102]
/-- the place of a digit -/
def hexI (c : UInt8) : Int := Lib.indexByte hexD c
def hexB (a b : UInt8) : UInt8 := UInt8.ofNat (16 * (hexI a).toNat + (hexI b).toNat)
/-- the bytes that a word of digits is -/
def unhexW : List UInt8 → Option (List UInt8)
  | [] => some []
  | [_] => none
  | a :: b :: r => if 0 ≤ hexI a ∧ 0 ≤ hexI b then (unhexW r).map (hexB a b :: ·) else none
theorem hexI_all : ∀ n : Fin 256, -1 ≤ hexI (UInt8.ofNat n.val) ∧ hexI (UInt8.ofNat n.val) ≤ 15 := by decide +kernel
theorem hexI_range (c : UInt8) : -1 ≤ hexI c ∧ hexI c ≤ 15 := by
  have := hexI_all ⟨c.toNat, c.toNat_lt⟩
  simpa using this
theorem unhexW_odd : ∀ (n : Nat) (l : List UInt8), l.length = 2 * n + 1 → unhexW l = none
  | 0, l, h => by
    match l, h with
    | [_], _ => rfl
  | n + 1, l, h => by
    match l, h with
    | a :: b :: r, h => simp only [unhexW, unhexW_odd n r (by simp at h; omega)]; simp
theorem unhexW_length : ∀ (l b : List UInt8), unhexW l = some b → l.length = 2 * b.length
  | [], b, h => by simp [unhexW] at h; subst h; rfl
  | [_], b, h => by simp [unhexW] at h
  | x :: y :: r, b, h => by
    simp only [unhexW] at h
    split at h
    · obtain ⟨t, ht, rfl⟩ := Option.map_eq_some_iff.1 h
      have := unhexW_length r t ht
      simp; omega
    · cases h
theorem or_all : ∀ h l : Fin 16, bits .or .i64 ((h.val : Int) * 16) (l.val : Int) % 256 = ((UInt8.ofNat (16 * h.val + l.val)).toNat : Int) := by decide +kernel
theorem or_hex {H L : Int} (h0 : 0 ≤ H) (h1 : H ≤ 15) (l0 : 0 ≤ L) (l1 : L ≤ 15) : bits .or .i64 (H * 16) L % 256 = ((UInt8.ofNat (16 * H.toNat + L.toNat)).toNat : Int) := by
  have := or_all ⟨H.toNat, by omega⟩ ⟨L.toNat, by omega⟩
  simp only [Int.toNat_of_nonneg h0, Int.toNat_of_nonneg l0] at this
  exact this

theorem index_digit (c : UInt8) (w : World) : Calls Tryz.prog 93 #[.string ⟨#[48, 49, 50, 51, 52, 53, 54, 55, 56, 57, 97, 98, 99, 100, 101, 102]⟩, .int .u8 (c.toNat : Int)] w fun e w' => e = .returned (.int .i64 (hexI c)) ∧ w' = w := by
  have := Tryz.strings_IndexByte ⟨#[48, 49, 50, 51, 52, 53, 54, 55, 56, 57, 97, 98, 99, 100, 101, 102]⟩ (c.toNat : Int) w
  simpa [hexI, hexD] using this

set_option maxRecDepth 100000 in
theorem script_unhex (x : ByteArray) (hx : x.size ≤ 100000) (w : World) {R : Ending → World → Prop} (hp : unhexW (bl x) = none → ∀ W, Below w.heap.size w W → R (.panicked badChain) W)
    (hr : ∀ b a c W, unhexW (bl x) = some b → W.ownsRow w.heap.size 5 1 (.slice a b.length c) b.length (bs b) → Below w.heap.size w W → R (.returned (.slice a b.length c)) W) :
    Calls Tryz.prog 78 #[.string x] w R := by
  obtain ⟨i5, hi, hz0, hz1, hz2⟩ := info_parts Tryz.info5
  have hsz : (bl x).length = x.size := by simp [bl]
  by_cases hm : x.size % 2 = 0
  · have hm' : (x.size : Int) % 2 = 0 := by omega
    have HP := Lib.hid hp
    have HR := Lib.hid hr
    have HS := Lib.hid hsz
    have HM := Lib.hid hm
    clear hp hr hsz hm
    go_enter Tryz.func78, Tryz.ntmps78
    go_wp2_with (go_at_call 25; refine (want_t (by simp) _).mono ?_; rintro e w' ⟨rfl, rfl⟩)
    clear hm'
    go_loopw [3, 4] (fun v i wr => ∃ (j k : Nat) (acc : List UInt8) (a : Option Addr) (c : Nat), j = 2 * k ∧ j ≤ x.size ∧ i = .int .i64 (j : Int) ∧ v = .slice a k c ∧ acc.length = k ∧ wr.ownsRow w.heap.size 5 1 (.slice a k c) k (bs acc) ∧ unhexW (bl x) = (unhexW ((bl x).drop j)).map (acc ++ ·) ∧ Below w.heap.size w wr) (fun _ i _ => x.size - (intOf i).toNat)
    case atStart => exact ⟨0, 0, [], none, 0, rfl, by omega, rfl, rfl, rfl, World.ownsRow_nil _ _ _ _, by simp, Below.refl _ _⟩
    case round =>
      obtain ⟨j, k, acc, a, c, hj, hk, rfl, rfl, hacc, hown, hun, hb⟩ := hrel
      have HACC := Lib.hid hacc
      have HUN := Lib.hid hun
      have HB := Lib.hid hb
      by_cases hlt : j < x.size
      · have hlt2 : j + 1 < x.size := by have := HM.out; omega
        have hkk : k + 1 ≤ 100000 := by omega
        have hdr : (bl x).drop j = x[j] :: x[j + 1] :: (bl x).drop (j + 2) := by
          rw [List.drop_eq_getElem_cons (by rw [HS.out]; omega), List.drop_eq_getElem_cons (by rw [HS.out]; omega)]
          rfl
        have HD := Lib.hid hdr
        have hb1 := byte_le x[j]
        have hb2 := byte_le x[j + 1]
        have e1 : IntKind.i64.wrap ((j : Int) + 1) = (j : Int) + 1 := IntWalk.i64_in _ (by omega)
        have e2 : (0 : Int) ≤ (j : Int) + 1 := by omega
        have e3 : ((j : Int) + 1).toNat = j + 1 := by omega
        have e4 : (j : Int) + 1 < (x.size : Int) := by omega
        have HJ := Lib.hid hj
        have hsz := hb.size
        have hd0 : decide ((j : Int) < (x.size : Int)) = true := by simp; omega
        clear hj hacc hun hb hdr
        go_wp2_with fail
        go_quiet ((go_at_call 93; exact Calls.quiet_of_same (index_digit _ _)))
        obtain ⟨hr1, hr2⟩ := hexI_range x[j]
        obtain ⟨hr3, hr4⟩ := hexI_range x[j + 1]
        have hcase : (unhexW ((bl x).drop j) = if 0 ≤ hexI x[j] ∧ 0 ≤ hexI x[j + 1] then (unhexW ((bl x).drop (j + 2))).map (hexB x[j] x[j + 1] :: ·) else none) := by rw [HD.out]; rfl
        have hB : hexB x[j] x[j + 1] = UInt8.ofNat (16 * (hexI x[j]).toNat + (hexI x[j + 1]).toNat) := rfl
        obtain ⟨B, hBB⟩ : ∃ B, B = hexB x[j] x[j + 1] := ⟨_, rfl⟩
        rw [← hBB] at hcase hB
        obtain ⟨H, hH⟩ : ∃ H, H = hexI x[j] := ⟨_, rfl⟩
        obtain ⟨L, hL⟩ : ∃ L, L = hexI x[j + 1] := ⟨_, rfl⟩
        rw [← hH, ← hL] at hcase hB
        rw [← hH] at hr1 hr2 ⊢
        rw [← hL] at hr3 hr4 ⊢
        obtain ⟨c1, hc1⟩ : ∃ c1, c1 = x[j] := ⟨_, rfl⟩
        obtain ⟨c2, hc2⟩ : ∃ c2, c2 = x[j + 1] := ⟨_, rfl⟩
        rw [← hc1, ← hc2]
        clear hc1 hc2
        have HC := Lib.hid hcase
        have HBB := Lib.hid hB
        clear hcase hBB hB hH hL hb1 hb2 e1 e2 e3 e4
        have hown2 : (wr.drewN nq).ownsRow w.heap.size 5 1 (.slice a k c) k (bs acc) := hown
        obtain ⟨W, hW⟩ : ∃ W, W = wr.drewN nq := ⟨_, rfl⟩
        have hbW : Below w.heap.size w W := hW ▸ bel_drN HB.out nq
        rw [← hW] at hown2 ⊢
        clear hW hown
        by_cases hH0 : 0 ≤ H
        · by_cases hL0 : 0 ≤ L
          · have hbv := or_hex hH0 hr2 hL0 hr4
            rw [← HBB.out] at hbv
            have HV := Lib.hid hbv
            have hWs := hbW.size
            clear hbv
            go_wp2_with (first
              | (go_at_call 25; refine (want_t (by simp) _).mono ?_; rintro e w' ⟨rfl, rfl⟩)
              | (at_builtin; refine wpList_append_vals rfl _ _ _ rfl w.heap.size 5 _ 1 1 Tryz.underlying23 hi hz0 hz1 hz2 rfl (by decide) _ k _ rfl (hown2.alloc _) _ 0 1 1 [_] rfl rfl (reads_new (heap_al_new _ _)) (by intro u hu; simp at hu; subst hu; rfl) (by unfold maxLen; omega) (by omega) (by simp; omega) ?_; intro v3 w3 hown3 hgrow3 hblk3; obtain ⟨a4, c4, hv4⟩ := own_form hown3; subst hv4))
            rw [HV.out, show (bs acc ++ [Value.int .u8 (B.toNat : Int)]) = bs (acc ++ [B]) from by simp [bs, vb]] at hown3
            have hb3 : Below w.heap.size w w3 := (hbW.alloc hbW.size _).grown hgrow3 (by simp; omega) (fun k' hk' => (hown2.lt k' hk').1)
            go_roundw
            case rel => exact ⟨j + 2, k + 1, acc ++ [B], a4, c4, by have := HJ.out; omega, by omega, by go_num, rfl, by simp [HACC.out], hown3, by rw [HUN.out, HC.out, if_pos ⟨hH0, hL0⟩]; simp [Function.comp_def], hb3⟩
            case measure => simp [intOf]; omega
          · go_wp2_with (go_at_call 25; refine (want_f rfl _).mono ?_; rintro e w' ⟨rfl, rfl⟩)
            refine ⟨rfl, HP.out ?_ _ hbW⟩
            rw [HUN.out, HC.out, if_neg (by omega)]; rfl
        · go_wp2_with (go_at_call 25; refine (want_f rfl _).mono ?_; rintro e w' ⟨rfl, rfl⟩)
          refine ⟨rfl, HP.out ?_ _ hbW⟩
          rw [HUN.out, HC.out, if_neg (by omega)]; rfl
      · have hje : j = x.size := by omega
        have hfin : unhexW (bl x) = some acc := by rw [HUN.out, List.drop_eq_nil_of_le (by rw [HS.out]; omega)]; simp [unhexW]
        have hd0 : decide ((j : Int) < (x.size : Int)) = false := by simp; omega
        have hown2 := hown
        rw [← hacc] at hown2
        have HF := Lib.hid hfin
        have HO := Lib.hid hown2
        clear hj hacc hun hb hje hfin hown2
        go_wp2_with fail
        subst_vars
        exact HR.out acc a c wr HF.out HO.out HB.out
  · have hm' : (x.size : Int) % 2 = 1 := by omega
    have HP := Lib.hid (hp (unhexW_odd (x.size / 2) _ (by omega)))
    clear hp hr hm hsz
    go_enter Tryz.func78, Tryz.ntmps78
    go_wp2_with (go_at_call 25; refine (want_f (by simp) _).mono ?_; rintro e w' ⟨rfl, rfl⟩)
    exact ⟨rfl, HP.out _ (Below.refl _ _)⟩
end Go.Proofs.YtgkddjefmonlaaaGreatDoor
