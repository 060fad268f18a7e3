/-
  The walks of the reference's layer 2: Copy, Same.
-/
import Derived.Test.YtgkddjefmonlaaaGreatDoorBase
namespace Go.Proofs.YtgkddjefmonlaaaGreatDoor
open Go.RowKit

theorem take_step {l1 l2 : List UInt8} {k : Nat} (h1 : k < l1.length) (h2 : k < l2.length) (h : l1.take k = l2.take k) (e : ((l1[k].toNat : Int) != (l2[k].toNat : Int)) = false) : l1.take (k + 1) = l2.take (k + 1) := by
  rw [List.take_succ_eq_append_getElem h1, List.take_succ_eq_append_getElem h2, h]
  have : l1[k] = l2[k] := by
    have := (bne_eq_false_iff_eq).1 e
    exact UInt8.toNat_inj.1 (by omega)
  rw [this]
theorem ne_of_at {l1 l2 : List UInt8} {k : Nat} (h1 : k < l1.length) (h2 : k < l2.length) (e : ((l1[k].toNat : Int) != (l2[k].toNat : Int)) = true) : decide (l1 = l2) = false := by
  rw [decide_eq_false_iff_not]
  rintro rfl
  simp at e

theorem ref02_Same (a1 a2 : Option Addr) (n1 c1 n2 c2 : Nat) (l1 l2 : List UInt8) (w : World) (h1 : Bs w a1 n1 c1 l1) (h2 : Bs w a2 n2 c2 l2) :
    Calls Tryz.prog 33 #[.slice a1 n1 c1, .slice a2 n2 c2] w fun e w' => e = .returned (.bool (decide (l1 = l2))) ∧ ∃ m, w' = w.drewN m := by
  have b1 := h1.lenle
  have b2 := h2.lenle
  obtain ⟨rfl, _, _, _, _, h1⟩ := h1
  obtain ⟨rfl, _, _, _, _, h2⟩ := h2
  by_cases hn : l1.length = l2.length
  · have hq : ((l1.length : Int) != (l2.length : Int)) = false := by simp [hn]
    have HN := Lib.hid hn
    clear hn
    go_enter Tryz.func33, Tryz.ntmps33
    go_wp2
    go_loopw [5] (fun i wr => ∃ k m : Nat, wr = w.drewN m ∧ i = .int .i64 k ∧ k ≤ l1.length ∧ Hid (l1.take k = l2.take k)) (fun i _ => l1.length - (intOf i).toNat)
    case atStart => exact ⟨0, 0, rfl, rfl, Nat.zero_le _, rfl⟩
    case round =>
      obtain ⟨k, m, rfl, rfl, hk, he⟩ := hrel
      by_cases hlt : k < l1.length
      · have hlt2 : k < l2.length := by have := HN.out; omega
        obtain ⟨p1, o1, rfl, g1⟩ := h1.resolve_left (by intro e; simp [e] at hlt)
        obtain ⟨p2, o2, rfl, g2⟩ := h2.resolve_left (by intro e; simp [e] at hlt2)
        have f1 := g1.at hlt
        have f2 := g2.at hlt2
        clear g1 g2 h1 h2
        go_wp2
        go_quiet (fail)
        go_wp2
        · go_ret
          exact ⟨by rw [ne_of_at hlt hlt2 (by assumption)]; rfl, m + nq, by simp⟩
        · go_roundw
          case rel => exact ⟨k + 1, m + nq, rfl, by go_num, by omega, take_step hlt hlt2 he.out (by assumption)⟩
          case measure => simp [intOf]; omega
      · go_wp2
        go_ret
        refine ⟨?_, m, rfl⟩
        have e := he.out
        have := HN.out
        rw [List.take_of_length_le (by omega), List.take_of_length_le (by omega)] at e
        rw [e]; simp
  · have hq : ((l1.length : Int) != (l2.length : Int)) = true := by rw [bne_iff_ne]; omega
    have hd : decide (l1 = l2) = false := by rw [decide_eq_false_iff_not]; rintro rfl; exact hn rfl
    have HD := Lib.hid hd
    clear hd hn
    go_enter Tryz.func33, Tryz.ntmps33
    go_wp2
    go_ret
    exact ⟨by rw [HD.out]; rfl, 0, rfl⟩

theorem ref02_Copy (a : Option Addr) (n c : Nat) (l : List UInt8) (w : World) (h : Bs w a n c l) :
    Calls Tryz.prog 86 #[.slice a n c] w fun e w' => ∃ v, e = .returned v ∧ w'.ownsRow w.heap.size 5 1 v n (bs l) ∧ Below w.heap.size w w' := by
  obtain ⟨i0, hi, hz0, hz1, hz2⟩ := info_parts Tryz.info5
  have hb := h.lenle
  obtain ⟨rfl, _, _, _, _, h⟩ := h
  go_enter Tryz.func86, Tryz.ntmps86
  go_wp2_with (at_make; refine wpList_make_own _ rfl _ _ 23 rfl w.heap.size 5 i0 (.int .u8 0) 1 Tryz.underlying23 hi hz0 hz1 _ _ _ l.length rfl rfl (by omega) ?b2 ?b3 (Nat.le_refl _) ?_)
  case b2 => rw [hz2]; omega
  case b3 => unfold maxLen; omega
  intro w0 hown0 hgrow0
  go_wp2
  go_loopw [3, 4] (fun out i wr => ∃ k : Nat, k ≤ l.length ∧ i = .int .i64 k ∧ out = .slice (some ⟨w.heap.size, 0, none⟩) k l.length ∧ wr.ownsRow w.heap.size 5 1 (.slice (some ⟨w.heap.size, 0, none⟩) k l.length) k (bs (l.take k)) ∧ Below w.heap.size w wr)
     (fun _ i _ => l.length - (intOf i).toNat)
  case atStart => exact ⟨0, Nat.zero_le _, rfl, rfl, by simpa [bs] using hown0, (Below.refl _ _).grown hgrow0 (Nat.le_refl _) (fun k h => by cases h)⟩
  case round =>
    obtain ⟨k, hk, rfl, rfl, hown, hnx⟩ := hrel
    by_cases hlt : k < l.length
    · obtain ⟨p, o, rfl, g⟩ := h.resolve_left (by intro e; simp [e] at hlt)
      have f := (g.below hnx (Nat.le_refl _)).at hlt
      clear g h
      go_wp2_with (at_builtin; refine wpList_append_fits _ rfl _ _ 23 rfl w.heap.size 5 i0 1 Tryz.underlying23 hi hz1 w.heap.size k l.length _ rfl (hown.alloc _) ⟨wr.heap.size, 0, none⟩ 1 1 [.int .u8 (l[k].toNat : Int)] rfl rfl ?c1 ?c2 (by omega) ?_)
      case c1 => intro t u ht; match t, ht with | 0, ht => simp at ht; subst ht; simp [Addr.add]
      case c2 => intro u hu; simp at hu; subst hu; rfl
      intro w1 hown1 hgrow1
      go_wp2
      go_roundw
      case rel => exact ⟨k + 1, by omega, by go_num, rfl, by rw [List.take_succ_eq_append_getElem hlt, bs_append]; exact hown1, (hnx.alloc hnx.size _).grown hgrow1 (by simp; have := hnx.size; omega) (fun k hk => by cases hk; exact Nat.le_refl _)⟩
      case measure => simp [intOf]; omega
    · go_wp2
      go_ret
      obtain rfl : k = l.length := by omega
      rw [List.take_length] at hown
      exact ⟨_, rfl, hown, hnx⟩
end Go.Proofs.YtgkddjefmonlaaaGreatDoor
