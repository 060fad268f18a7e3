/-
  The law ScriptDecodes: its walk.
-/
import Derived.Test.YtgkddjefmonlaaaGreatDoorScrV
namespace Go.Proofs.YtgkddjefmonlaaaGreatDoor
open Go.RowKit

theorem askAt_len (l : List UInt8) (p : Nat) : (askAt l p).1.data.length ≤ 8 := by
  unfold askAt
  simp only
  split
  · simp
  · split
    · simp [rowB]; omega
    · split <;> simp
theorem stepAt_len (l : List UInt8) (p : Nat) : (stepAt l p).1.op.data.length ≤ 8 ∧ (stepAt l p).1.data.length ≤ 8 ∧ (stepAt l p).1.fates.length ≤ 4 := by
  have := askAt_len l (p + 2)
  unfold stepAt
  simp only
  split
  · exact ⟨this, by simp, by simp⟩
  · split
    · simp [op0]
    · split
      · simp [op0]
      · split
        · simp [op0, rowB]; omega
        · split
          · simp [op0, fates_length]; omega
          · split <;> simp [op0]
theorem decN_len (l : List UInt8) : ∀ k, ∀ s ∈ (decN l k).1, s.op.data.length ≤ 8 ∧ s.data.length ≤ 8 ∧ s.fates.length ≤ 4
  | 0, s, h => by simp [decN] at h
  | k + 1, s, h => by
    simp only [decN, List.mem_append, List.mem_singleton] at h
    rcases h with h | rfl
    · exact decN_len l k s h
    · exact stepAt_len l _
theorem stops_le {l : List UInt8} {k : Nat} (h : Stops l k) : k ≤ 1024 := by
  by_cases hk : k = 0
  · omega
  · have := (h.1 (k - 1) (by omega)).2; omega
theorem own_empty {w : World} {b t : Nat} (h : w.heap[b]? = some (.cells #[] t (0, 0))) : w.ownsRow b t 1 (.slice (some ⟨b, 0, none⟩) 0 0) 0 [] :=
  ⟨by simp, .inr ⟨b, 0, #[], rfl, Nat.le_refl _, h, Nat.le_refl _, by unfold maxLen; omega, by simp, by simp⟩⟩

/-- the copy, from a place on as it was -/
def InAt (B0 B1 : Nat) (w : World) (a : Option Addr) (n : Nat) (l : List UInt8) (j : Nat) : Prop :=
  ∃ g sz f, a = some ⟨g, 0, none⟩ ∧ B0 ≤ g ∧ g < B1 ∧ w.rowIs g 5 sz f ∧ n ≤ sz ∧ ∀ i, i < n → j ≤ i → ∀ (hi : i < l.length), f i = .int .u8 (l[i].toNat : Int)
theorem InAt.below {B0 B1 : Nat} {w w' : World} {a : Option Addr} {n : Nat} {l : List UInt8} {j : Nat} (h : InAt B0 B1 w a n l j) (hb : Below w.heap.size w w') : InAt B0 B1 w' a n l j := by
  obtain ⟨g, sz, f, e, h1, h2, hr, h3, h4⟩ := h
  exact ⟨g, sz, f, e, h1, h2, hr.of_block (hb.block _ hr.lt), h3, h4⟩
theorem inAt_start {w : World} {B n c : Nat} {a : Option Addr} {l : List UInt8} (h : w.ownsRow B 5 1 (.slice a n c) n (bs l)) (hn : n ≠ 0) : InAt B w.heap.size w a n l 0 := by
  rcases h.2 with ⟨_, e⟩ | ⟨g, cap, cur, e, hb', hgg, hnc, hcm, hcs, htake⟩
  · exact absurd e hn
  · cases e
    refine ⟨g, c, fun i => cur.getD i undef, rfl, hb', (Array.getElem?_eq_some_iff.1 hgg).1, ⟨cur, hgg, by simpa using hcs, fun i hi => ?_⟩, hnc, fun i hi _ hil => ?_⟩
    · have : i < cur.size := by rw [hcs]; omega
      simp [this]
    · have hc := h.cells (g := g) rfl i _ (bs_get l i hil)
      have hadd : (⟨g, 0, none⟩ : Addr).add i = ⟨g, 0 + i, none⟩ := by unfold Addr.add; split <;> simp_all
      rw [hadd, Nat.zero_add] at hc
      simp only [World.cell?, hgg] at hc
      simp only [Array.getD_eq_getD_getElem?]
      simp at hc
      rw [hc]; rfl

set_option maxHeartbeats 1000000 in
set_option maxRecDepth 100000 in
theorem law_ScriptDecodes (a : Option Addr) (n c : Nat) (l : List UInt8) (w : World) (h : Bs w a n c l) (hs : ∀ x, a = some x → x.block < w.heap.size) (hE : Env w) :
    Calls Tryz.prog 4 #[.slice a n c] w fun e w' => e = .returned (.bool true) ∧ Below w.heap.size w w' := by
  have hbl := h.len
  have hlb := h.lenle
  obtain ⟨i5, hi, hz0, hz1, hz2⟩ := info_parts Tryz.info5
  by_cases h9 : n ≤ 9000
  · have h9' : (n : Int) ≤ 9000 := by omega
    have HL := Lib.hid hbl
    clear hbl
    go_enter Tryz.func4, Tryz.ntmps4
    have h1 : Bs (w.alloc (.cells #[] 5)) a n c l := h.below ((Below.refl _ _).alloc (Nat.le_refl _) _) (Nat.le_refl _)
    go_wp2_with (at_builtin; refine wpList_append_bytes rfl _ _ _ rfl w.heap.size 5 Tryz.underlying23 hi hz0 hz1 hz2 _ 0 [] rfl (own_empty (heap_al_new _ _)) a n c l rfl h1 (by omega) (by simp) ?_; intro v3 w3 hown3 hgrow3 hblk3; simp only [Nat.zero_add, List.nil_append] at hown3; obtain ⟨a4, c4, hv4⟩ := own_form hown3; subst hv4)
    have hb3 : Below w.heap.size w w3 := ((Below.refl _ _).alloc (Nat.le_refl _) _).grown hgrow3 (by simp) (fun k' hk' => by simp [Value.ownBlock, Act.eval] at hk'; omega)
    have hsz3 := hb3.size
    have hl9 : l.length ≤ 9000 := by rw [← HL.out]; exact h9
    obtain ⟨a4', c4', e4, hBin⟩ := own_bs hown3 (by omega)
    cases e4
    have hA : n ≠ 0 → InAt w.heap.size w3.heap.size w3 a4 n l 0 := inAt_start hown3
    have hin : ∀ x, a4 = some x → x.block < w3.heap.size := fun x hx => by
      obtain ⟨a', c', e', _, _, _, h4, _⟩ := ownsRow_bs hown3
      cases e'
      exact (h4 x hx).2.2.2.1
    have HA := Lib.hid hA
    have HIN := Lib.hid hin
    have HB3 := Lib.hid hb3
    clear hblk3 hgrow3 hown3 h1 hb3 hA hin
    refine (script_Decode a4 n c4 l w3 hBin HIN.out).mono ?_
    rintro e w4 ⟨v, T, k, rfl, hstop, hT, hS, hb4⟩
    obtain ⟨va, vc, rfl⟩ := own_form hS.row
    have HST := Lib.hid hstop
    have HT := Lib.hid hT
    have hS0 := hS
    have hA4 : n ≠ 0 → InAt w.heap.size w3.heap.size w4 a4 n l 0 := fun hn => (HA.out hn).below hb4
    have hb04 : Below w.heap.size w w4 := HB3.out.trans (hb4.mono hsz3)
    clear hstop hT hb4 hS
    obtain ⟨tl, htl⟩ : ∃ tl, tl = T.length := ⟨_, rfl⟩
    rw [← htl]
    have HTL := Lib.hid htl
    clear htl
    go_wp2_with fail
    go_loopw [5] (fun i wr => ∃ j : Nat, j ≤ n ∧ i = .int .i64 (j : Int) ∧ (n ≠ 0 → InAt w.heap.size w3.heap.size wr a4 n l j) ∧ Steps wr w3.heap.size (.slice va T.length vc) T ∧ Below w.heap.size w wr) (fun i _ => n - (intOf i).toNat)
    case atStart => exact ⟨0, by omega, rfl, hA4, hS0, hb04⟩
    case round =>
      clear hA4 hS0 hb04
      obtain ⟨j, hj, rfl, hAj, hS, hbj⟩ := hrel
      by_cases hlt : j < n
      · obtain ⟨g, sz, f, rfl, hg0, hg1, hrow, hns, hf⟩ := hAj (by omega)
        have hjl : j < l.length := by rw [← HL.out]; exact hlt
        have hfj := hf j hlt (Nat.le_refl _) hjl
        have hc := hrow.cell (i := j) (by omega)
        rw [hfj] at hc
        have hz := hrow.frozen j
        obtain ⟨p, o, rfl, hrd⟩ := h.get hjl
        have hrj := (hrd.below hbj (Nat.le_refl _)).at hjl
        have hbb := byte_le l[j]
        obtain ⟨B, hB⟩ : ∃ B, B = l[j] := ⟨_, rfl⟩
        rw [← hB] at hc hrj hbb
        have HR := Lib.hid hrow
        have HF := Lib.hid hf
        have HSS := Lib.hid hS
        have HBJ := Lib.hid hbj
        have HAJ := Lib.hid hAj
        have HRD := Lib.hid hrd
        clear hB hfj hrow hf hS hbj hAj hrd
        have hd0 : decide ((j : Int) < (n : Int)) = true := by simp; omega
        go_wp2_with fail
        go_quiet (fail)
        go_wp2_with fail
        go_roundw
        case rel =>
          have hb1 : Below wr.heap.size wr (wr.drewN nq) := below_drewN wr nq
          have hR2 := HR.out.of_block (hb1.block _ HR.out.lt)
          have hbj2 : Below w.heap.size w (wr.drewN nq) := bel_drN HBJ.out nq
          have hSn := HSS.out.only (Only.of_below (S := fun k => k = g) hb1) (Nat.le_refl _) (by intro k hk e; omega)
          have hSc := hSn.only (only_set (wr.drewN nq) ⟨g, j, none⟩ (.int .u8 (((B.toNat : Int) + 1) % 256))) (Nat.le_refl _) (by intro k hk e; have : k = g := e; omega)
          refine ⟨j + 1, by omega, by go_num, fun _ => ⟨g, sz, _, rfl, hg0, hg1, hR2.set j _, hns, fun i hi hji hil => ?_⟩, hSc, bel_set hbj2 hg0 _⟩
          rw [if_neg (by omega)]
          exact HF.out i hi (by omega) hil
        case measure => simp [intOf]; omega
      · obtain rfl : j = n := by omega
        have hd0 : decide ((j : Int) < (j : Int)) = false := by simp
        have hbr := h.below hbj (Nat.le_refl _)
        have hsz := hbj.size
        have hsr : ∀ x, a = some x → x.block < wr.heap.size := fun x hx => by have := hs x hx; omega
        have HS := Lib.hid hS
        have HBJ := Lib.hid hbj
        have HBR := Lib.hid hbr
        have HSR := Lib.hid hsr
        have hD := ref25_Decode a j c l wr hbr hsr
        have HD := Lib.hid hD
        clear hAj hS hbj hbr hsr hD
        go_wp2_with fail
        refine HD.out.mono ?_
        rintro e w5 ⟨v2, T2, k2, rfl, hst2, hT2, hS2, hb5⟩
        obtain ⟨va2, vc2, rfl⟩ := own_form hS2.row
        have hkk : k2 = k := stops_unique hst2 HST.out
        have he : T.map (·.1) = T2.map (·.1) := by rw [HT.out, hT2, hkk]
        have hlen : T.length = k := by have := congrArg List.length HT.out; rw [List.length_map, decN_length] at this; exact this
        have hlt' : T.length ≤ 100000 := by have := stops_le HST.out; omega
        have hd : ∀ t ∈ T, t.1.op.data.length ≤ 100000 ∧ t.1.data.length ≤ 100000 ∧ t.1.fates.length ≤ 100000 := fun t ht => by
          have hm : t.1 ∈ (decN l k).1 := by rw [← HT.out]; exact List.mem_map_of_mem ht
          have := decN_len l k t.1 hm
          omega
        have hb05 : Below w.heap.size w w5 := HBJ.out.trans (hb5.mono hsz)
        have hsame := ref25_SameAll w3.heap.size wr.heap.size (.slice va T.length vc) (.slice va2 T2.length vc2) T T2 w5 (HS.out.only (Only.of_below (S := fun _ => False) hb5) (Nat.le_refl _) (fun _ _ => id)) hS2 he hlt' hd
        rw [← HTL.out] at hsame
        have HSM := Lib.hid hsame
        have HB5 := Lib.hid hb05
        have HE := Lib.hid hE
        obtain ⟨tl2, htl2⟩ : ∃ tl2, tl2 = T2.length := ⟨_, rfl⟩
        rw [← htl2] at HSM ⊢
        clear hst2 hT2 hS2 hb5 hkk he hlen hlt' hd hb05 hsame htl2 hE
        go_wp2_with (first
          | (go_at_call 14; refine HSM.out.mono ?_; rintro e w6 ⟨rfl, hb6⟩; have hb06 := HB5.out.trans (hb6.mono HB5.out.size))
          | (go_at_call 9; refine (awake_true _ (HE.out.below hb06)).mono ?_; rintro e w7 ⟨rfl, hb7⟩))
        go_ret
        exact ⟨rfl, hb06.trans (hb7.mono hb06.size)⟩
  · have h9' : (9000 : Int) < (n : Int) := by omega
    go_enter Tryz.func4, Tryz.ntmps4
    go_wp2_with (go_at_call 9; refine (awake_true _ hE).mono ?_; rintro e w' ⟨rfl, hb⟩)
    go_ret
    exact ⟨rfl, hb⟩
end Go.Proofs.YtgkddjefmonlaaaGreatDoor
