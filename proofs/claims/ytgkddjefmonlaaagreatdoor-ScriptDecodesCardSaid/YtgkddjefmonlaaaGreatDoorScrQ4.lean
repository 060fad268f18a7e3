/-
  The reference's comparisons: rows of equal steps are the same.
-/
import Derived.Test.YtgkddjefmonlaaaGreatDoorScrQ3
namespace Go.Proofs.YtgkddjefmonlaaaGreatDoor
open Go.RowKit

theorem flat_at (T : List StT) (k j : Nat) (hk : k < T.length) (hj : j < 9) : (T.flatMap StT.vals)[9 * k + j]? = (StT.vals (T[k]'hk))[j]? := by
  induction T generalizing k with
  | nil => simp at hk
  | cons t r ih =>
    have hl : (StT.vals t).length = 9 := rfl
    cases k with
    | zero => simp only [List.flatMap_cons, Nat.mul_zero, Nat.zero_add, List.getElem_cons_zero]; rw [List.getElem?_append_left (by omega)]
    | succ k =>
      simp only [List.flatMap_cons, List.getElem_cons_succ]
      rw [List.getElem?_append_right (by omega), show 9 * (k + 1) + j - (StT.vals t).length = 9 * k + j from by omega]
      exact ih k (by simpa using hk)
theorem Steps.at_ {w : World} {base n c : Nat} {a : Option Addr} {T : List StT} (h : Steps w base (.slice a n c) T) (k : Nat) (hk : k < T.length) :
    ∃ g s a1 a2 a3 c1 c2 c3, a = some ⟨g, 0, none⟩ ∧ (T[k]'hk).1 = s ∧ w.rangeAt g (9 * k) (stVals s (.slice a1 s.op.data.length c1) (.slice a2 s.data.length c2) (.slice a3 s.fates.length c3)) ∧ StOwn w base s (.slice a1 s.op.data.length c1) (.slice a2 s.data.length c2) (.slice a3 s.fates.length c3) := by
  have ho := h.own _ (List.getElem_mem hk)
  obtain ⟨g, rfl, -⟩ : ∃ g, a = some ⟨g, 0, none⟩ ∧ True := by
    rcases h.row.2 with ⟨_, e⟩ | ⟨g, cap, cur, e, _⟩
    · omega
    · cases e; exact ⟨g, rfl, trivial⟩
  have hf := fun j hj => flat_at T k j hk hj
  obtain ⟨t, ht⟩ : ∃ t, t = T[k]'hk := ⟨_, rfl⟩
  rw [← ht] at ho hf ⊢
  obtain ⟨s, d1, d2, fs⟩ := t
  obtain ⟨a1, c1, e1⟩ := own_form ho.d1
  obtain ⟨a2, c2, e2⟩ := own_form ho.d2
  obtain ⟨a3, c3, e3⟩ := own_form ho.fs
  simp only at e1 e2 e3 ho
  subst e1 e2 e3
  refine ⟨g, s, a1, a2, a3, c1, c2, c3, rfl, rfl, ?_, ho⟩
  intro j v hv
  have hj : j < 9 := by have := (List.getElem?_eq_some_iff.1 hv).1; simpa [stVals] using this
  have := h.row.cells (g := g) rfl (9 * k + j) v ((hf j hj).trans hv)
  have hadd : (⟨g, 0, none⟩ : Addr).add (9 * k + j) = ⟨g, 0 + (9 * k + j), none⟩ := by unfold Addr.add; split <;> simp_all
  rw [hadd, Nat.zero_add] at this
  exact this

theorem own_bs' {w : World} {base n c : Nat} {e : TypeId} {a : Option Addr} {l : List UInt8} (h : w.ownsRow base e 1 (.slice a n c) n (bs l)) (hn : n ≤ 100000) : Bs w a n c l := by
  obtain ⟨a', c', e', h⟩ := own_bs h (by omega)
  cases e'; exact h
theorem own_ints {w : World} {base n c : Nat} {e : TypeId} {a : Option Addr} {l : List Int} (h : w.ownsRow base e 1 (.slice a n c) n (ints l)) : n = 0 ∨ ∃ b o, a = some ⟨b, o, none⟩ ∧ Reads w b o (ints l) := by
  rcases h.2 with ⟨e, hn⟩ | ⟨g, cap, cur, e, _⟩
  · exact .inl hn
  · cases e
    refine .inr ⟨g, 0, rfl, fun j u hj => ?_⟩
    have := h.cells (g := g) rfl j u hj
    have hadd : (⟨g, 0, none⟩ : Addr).add j = ⟨g, 0 + j, none⟩ := by unfold Addr.add; split <;> simp_all
    rw [hadd] at this; exact this

set_option maxHeartbeats 4000000 in
set_option maxRecDepth 100000 in
theorem ref25_SameAll (base1 base2 : Nat) (v1 v2 : Value) (T1 T2 : List StT) (w : World) (h1 : Steps w base1 v1 T1) (h2 : Steps w base2 v2 T2) (he : T1.map (·.1) = T2.map (·.1)) (hl : T1.length ≤ 100000) (hd : ∀ t ∈ T1, t.1.op.data.length ≤ 100000 ∧ t.1.data.length ≤ 100000 ∧ t.1.fates.length ≤ 100000) :
    Calls Tryz.prog 14 #[v1, v2] w fun e w' => e = .returned (.bool true) ∧ Below w.heap.size w w' := by
  obtain ⟨a1, c1, rfl⟩ := own_form h1.row
  obtain ⟨a2, c2, rfl⟩ := own_form h2.row
  have hlen : T2.length = T1.length := by have := congrArg List.length he; simpa using this.symm
  rw [hlen] at h2 ⊢
  go_enter Tryz.func14, Tryz.ntmps14
  go_wp2_with fail
  go_loopw [5] (fun i wr => ∃ k : Nat, k ≤ T1.length ∧ i = .int .i64 k ∧ Below w.heap.size w wr) (fun i _ => T1.length - (intOf i).toNat)
  case atStart => exact ⟨0, Nat.zero_le _, rfl, Below.refl _ _⟩
  case round =>
    obtain ⟨k, hk, rfl, hbel⟩ := hrel
    by_cases hlt : k < T1.length
    · obtain ⟨g1, s, p1, p2, p3, q1, q2, q3, rfl, hs1, hr1, ho1⟩ := h1.at_ k hlt
      obtain ⟨g2, s2, r1, r2, r3, t1, t2, t3, rfl, hs2, hr2, ho2⟩ := Steps.at_ (n := T1.length) h2 k (by omega)
      obtain rfl : s2 = s := by
        rw [← hs1, ← hs2]
        have := congrArg (·[k]?) he
        simp [hlt, hlen ▸ hlt] at this
        exact this.symm
      have hd' := hd _ (List.getElem_mem hlt)
      rw [hs1] at hd'
      have m1 := Reads.below hr1 hbel (Nat.le_refl _)
      have m2 := Reads.below hr2 hbel (Nat.le_refl _)
      have HS1 := Lib.hid hs1
      have HS2 := Lib.hid hs2
      have HE := Lib.hid he
      clear hs1 hs2 he hr1 hr2
      go_wp2_with fail
      have f0 := m1 0 _ rfl
      have e0 := m2 0 _ rfl
      have f1 := m1 1 _ rfl
      have e1 := m2 1 _ rfl
      have f2 := m1 2 _ rfl
      have e2 := m2 2 _ rfl
      have f3 := m1 3 _ rfl
      have e3 := m2 3 _ rfl
      have f4 := m1 4 _ rfl
      have e4 := m2 4 _ rfl
      have f5 := m1 5 _ rfl
      have e5 := m2 5 _ rfl
      have f6 := m1 6 _ rfl
      have e6 := m2 6 _ rfl
      have f7 := m1 7 _ rfl
      have e7 := m2 7 _ rfl
      have f8 := m1 8 _ rfl
      have e8 := m2 8 _ rfl
      rw [Nat.add_zero] at f0 e0
      simp only [Nat.mul_comm 9 k] at f0 f1 f2 f3 f4 f5 f6 f7 f8 e0 e1 e2 e3 e4 e5 e6 e7 e8
      have hbd : Below w.heap.size w wr.drew := hbel.drew
      have ri : ∀ {a : Option Addr} {n : Nat} {l : List Int}, (n = 0 ∨ ∃ b o, a = some ⟨b, o, none⟩ ∧ Reads w b o (ints l)) → (n = 0 ∨ ∃ b o, a = some ⟨b, o, none⟩ ∧ Reads wr.drew b o (ints l)) := fun h => h.imp id fun ⟨b, o, e, r⟩ => ⟨b, o, e, r.below hbd (Nat.le_refl _)⟩
      have hc := ref25_Same s2 p1 p2 p3 r1 r2 r3 q1 q2 q3 t1 t2 t3 wr.drew ((own_bs' ho1.d1 hd'.1).below hbd (Nat.le_refl _)) ((own_bs' ho2.d1 hd'.1).below hbd (Nat.le_refl _)) ((own_bs' ho1.d2 hd'.2.1).below hbd (Nat.le_refl _)) ((own_bs' ho2.d2 hd'.2.1).below hbd (Nat.le_refl _)) (by omega) (ri (own_ints ho1.fs)) (ri (own_ints ho2.fs))
      have HC := Lib.hid hc
      clear hc ri hd' m1 m2
      go_region_with (go_at_call 12; refine HC.out.mono ?_; rintro e w2 ⟨rfl, hb2⟩)
      all_goals
        go_wp2_with fail
        go_roundw
        case rel => exact ⟨k + 1, by omega, by go_num, hbd.trans (hb2.mono hbd.size)⟩
        case measure => simp [intOf]; omega
    · go_wp2_with fail
      go_ret
      exact ⟨rfl, hbel⟩
end Go.Proofs.YtgkddjefmonlaaaGreatDoor
