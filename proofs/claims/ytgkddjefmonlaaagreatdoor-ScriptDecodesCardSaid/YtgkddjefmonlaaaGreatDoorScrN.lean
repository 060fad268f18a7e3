/-
  Number words of layer 25: the program's number of a word, and a field that is a number.
-/
import Derived.Test.YtgkddjefmonlaaaGreatDoorScrP
import Derived.Test.YtgkddjefmonlaaaGreatDoorShelf
import Derived.Lib.AppendIntMem
import Derived.Lib.AtoiErrMem
namespace Go.Proofs.YtgkddjefmonlaaaGreatDoor
open Go.RowKit

/-- the bytes of a word -/
abbrev bl (x : ByteArray) : List UInt8 := x.data.toList
/-- the number that a word is -/
def numW (l : List UInt8) : Option Int :=
  match Lib.atoiAll l with
  | .ok v => if 0 ≤ v ∧ v < 1000000000 ∧ Lib.itoa v = l then some v else none
  | _ => none

theorem str_ne {a b : ByteArray} (h : a ≠ b) : (a.toList == b.toList) = false := by
  rw [beq_eq_false_iff_ne]
  intro e
  rw [ByteArray.toList_eq, ByteArray.toList_eq] at e
  exact h (by cases a; cases b; simp at e; rw [e])
theorem atoi_any (x : ByteArray) (hx : x.size ≤ 100000) (w : World) (hE : Env w) :
    Calls Tryz.prog 91 #[.string x] w fun e w' => ∃ v er, e = .returned (.tuple #[.int .i64 v, er]) ∧ (er = .nilIface ∨ ∃ t p, er = .iface t p) ∧ (∀ u, Lib.atoiAll (bl x) = .ok u → er = .nilIface ∧ v = u) ∧ ((∀ u, Lib.atoiAll (bl x) ≠ .ok u) → ∃ t p, er = .iface t p) ∧ Below w.heap.size w w' := by
  by_cases hr : Lib.atoiAll (bl x) = .range
  · obtain ⟨tp, p, hv⟩ := hE.rng
    refine (Tryz.strconv_Atoi_range_var x (by omega) hr tp p w hv).mono ?_
    rintro e w' ⟨N, rfl, _, _, hb⟩
    exact ⟨_, _, rfl, .inr ⟨_, _, rfl⟩, fun u hu => (by rw [hr] at hu; cases hu), fun _ => ⟨_, _, rfl⟩, hb⟩
  by_cases ho : ∃ v, Lib.atoiAll (bl x) = .ok v
  · obtain ⟨v, h⟩ := ho
    refine (Tryz.strconv_Atoi_ok x (by omega) v h w).mono ?_
    rintro e w' ⟨rfl, hw⟩
    refine ⟨v, .nilIface, rfl, .inl rfl, fun u hu => ⟨rfl, by rw [h] at hu; cases hu; rfl⟩, fun hn => absurd h (hn v), ?_⟩
    rcases hw with rfl | ⟨t, rfl⟩
    · exact Below.refl _ _
    · exact Lib.bytesWorld_below _ _ _
  · have hs : Lib.atoiAll (bl x) = Lib.atoiAll [] := by
      revert hr ho
      cases Lib.atoiAll (bl x)
      · intro _ ho; exact absurd ⟨_, rfl⟩ ho
      · intro _ _; rfl
      · intro hr _; exact absurd rfl hr
    obtain ⟨tp, p, hv⟩ := hE.syn
    refine (Tryz.strconv_Atoi_syntax_var x (by omega) hs tp p w hv).mono ?_
    rintro e w' ⟨N, rfl, _, _, hb⟩
    exact ⟨0, _, rfl, .inr ⟨_, _, rfl⟩, fun u hu => (by rw [hs] at hu; cases hu), fun _ => ⟨_, _, rfl⟩, hb⟩

theorem itoa_any (n : Int) (h0 : -9223372036854775808 ≤ n) (h1 : n ≤ 9223372036854775807) (w : World) (hE : Env w) :
    Calls Tryz.prog 41 #[.int .i64 n] w fun e w' => e = .returned (.string ⟨(Lib.itoa n).toArray⟩) ∧ Below w.heap.size w w' :=
  (Tryz.strconv_Itoa n h0 h1 w hE.tab).mono fun _ _ ⟨he, k, os, hw⟩ => ⟨he, hw ▸ Lib.below_grow _ _ (Nat.le_refl _) k os⟩

set_option maxRecDepth 100000 in
theorem script_number (x : ByteArray) (hx : x.size ≤ 100000) (w : World) (hE : Env w) {R : Ending → World → Prop} (hp : numW (bl x) = none → ∀ W, Below w.heap.size w W → R (.panicked badChain) W)
    (hr : ∀ n, numW (bl x) = some n → 0 ≤ n → n < 1000000000 → ∀ W, Below w.heap.size w W → R (.returned (.int .i64 n)) W) :
    Calls Tryz.prog 76 #[.string x] w R := by
  by_cases hok : ∃ u, Lib.atoiAll (bl x) = .ok u
  · obtain ⟨u, hu⟩ := hok
    have hA : Calls Tryz.prog 91 #[.string x] w fun e w' => e = .returned (.tuple #[.int .i64 u, .nilIface]) ∧ Below w.heap.size w w' :=
      (atoi_any x hx w hE).mono (by rintro e w' ⟨v, er, rfl, _, h1, _, hb⟩; obtain ⟨rfl, rfl⟩ := h1 u hu; exact ⟨rfl, hb⟩)
    by_cases h0 : 0 ≤ u
    · by_cases h9 : u < 1000000000
      · have hI : ∀ W, Env W → Calls Tryz.prog 41 #[.int .i64 u] W fun e w' => e = .returned (.string ⟨(Lib.itoa u).toArray⟩) ∧ Below W.heap.size W w' := fun W hW => itoa_any u (by omega) (by omega) W hW
        by_cases hI2 : Lib.itoa u = bl x
        · have hn : numW (bl x) = some u := by simp [numW, hu, h0, h9, hI2]
          have hxx : (⟨(Lib.itoa u).toArray⟩ : ByteArray) = x := by rw [hI2]
          simp only [hxx] at hI
          have HP := Lib.hid (hr u hn h0 h9)
          have HA := Lib.hid hA
          clear hr hp hn hu hI2 hxx hA
          go_enter Tryz.func76, Tryz.ntmps76
          go_wp2_with (first
            | (go_at_call 91; refine HA.out.mono ?_; rintro e w1 ⟨rfl, hb1⟩)
            | (go_at_call 41; refine (hI _ (hE.below hb1)).mono ?_; rintro e w2 ⟨rfl, hb2⟩)
            | (go_at_call 25; refine (want_t (by simp) _).mono ?_; rintro e w' ⟨rfl, rfl⟩))
          exact HP.out _ (hb1.trans (hb2.mono hb1.size))
        · have hn : numW (bl x) = none := by simp [numW, hu, hI2]
          have hxx : (⟨(Lib.itoa u).toArray⟩ : ByteArray) ≠ x := by rintro rfl; exact hI2 (by simp)
          have HP := Lib.hid (hp hn)
          have HA := Lib.hid hA
          obtain ⟨z, hz⟩ : ∃ z, z = (⟨(Lib.itoa u).toArray⟩ : ByteArray) := ⟨_, rfl⟩
          rw [← hz] at hI hxx
          have HX := Lib.hid (str_ne hxx)
          clear hr hp hn hu hI2 hxx hA hz
          go_enter Tryz.func76, Tryz.ntmps76
          go_wp2_with (first
            | (go_at_call 91; refine HA.out.mono ?_; rintro e w1 ⟨rfl, hb1⟩)
            | (go_at_call 41; refine (hI _ (hE.below hb1)).mono ?_; rintro e w2 ⟨rfl, hb2⟩)
            | (go_at_call 25; refine (want_f HX.out _).mono ?_; rintro e w' ⟨rfl, rfl⟩))
          exact ⟨rfl, HP.out _ (hb1.trans (hb2.mono hb1.size))⟩
      · have hn : numW (bl x) = none := by simp [numW, hu, h9]
        have h9' : 1000000000 ≤ u := by omega
        have HP := Lib.hid (hp hn)
        have HA := Lib.hid hA
        clear hr hp hn hu hA
        go_enter Tryz.func76, Tryz.ntmps76
        go_wp2_with (first
          | (go_at_call 91; refine HA.out.mono ?_; rintro e w1 ⟨rfl, hb1⟩)
          | (go_at_call 25; refine (want_f (by simp) _).mono ?_; rintro e w' ⟨rfl, rfl⟩))
        exact ⟨rfl, HP.out _ hb1⟩
    · have hn : numW (bl x) = none := by simp [numW, hu, h0]
      have h0' : u < 0 := by omega
      have HP := Lib.hid (hp hn)
      have HA := Lib.hid hA
      clear hr hp hn hu hA
      go_enter Tryz.func76, Tryz.ntmps76
      go_wp2_with (first
        | (go_at_call 91; refine HA.out.mono ?_; rintro e w1 ⟨rfl, hb1⟩)
        | (go_at_call 25; refine (want_f (by simp) _).mono ?_; rintro e w' ⟨rfl, rfl⟩))
      exact ⟨rfl, HP.out _ hb1⟩
  · have hno : ∀ u, Lib.atoiAll (bl x) ≠ .ok u := fun u hu => hok ⟨u, hu⟩
    have hn : numW (bl x) = none := by
      unfold numW
      split
      · rename_i v hv; exact absurd hv (hno v)
      · rfl
    have hA : Calls Tryz.prog 91 #[.string x] w fun e w' => ∃ v t p, e = .returned (.tuple #[.int .i64 v, .iface t p]) ∧ Below w.heap.size w w' :=
      (atoi_any x hx w hE).mono (by rintro e w' ⟨v, er, rfl, _, _, h2, hb⟩; obtain ⟨t, p, rfl⟩ := h2 hno; exact ⟨v, t, p, rfl, hb⟩)
    have HP := Lib.hid (hp hn)
    have HA := Lib.hid hA
    clear hr hp hn hA hno hok
    go_enter Tryz.func76, Tryz.ntmps76
    go_wp2_with (first
      | (go_at_call 91; refine HA.out.mono ?_; rintro e w1 ⟨v, t, p, rfl, hb1⟩)
      | (go_at_call 25; refine (want_f (by simp) _).mono ?_; rintro e w' ⟨rfl, rfl⟩))
    exact ⟨rfl, HP.out _ hb1⟩
theorem number_none {x : ByteArray} (hx : x.size ≤ 100000) {w : World} (hE : Env w) (hn : numW (bl x) = none) : Calls Tryz.prog 76 #[.string x] w fun e w' => e = .panicked badChain ∧ Below w.heap.size w w' :=
  script_number x hx w hE (fun _ W hb => ⟨rfl, hb⟩) (fun n h => by rw [hn] at h; cases h)
theorem number_some {x : ByteArray} {n : Int} (hx : x.size ≤ 100000) {w : World} (hE : Env w) (hn : numW (bl x) = some n) : Calls Tryz.prog 76 #[.string x] w fun e w' => e = .returned (.int .i64 n) ∧ Below w.heap.size w w' :=
  script_number x hx w hE (fun h => by rw [hn] at h; cases h) (fun m h _ _ W hb => by rw [hn] at h; cases h; exact ⟨rfl, hb⟩)
theorem numW_range {l : List UInt8} {n : Int} (h : numW l = some n) : 0 ≤ n ∧ n < 1000000000 := by
  unfold numW at h
  split at h
  · split at h
    · rename_i hh; cases h; exact ⟨hh.1, hh.2.1⟩
    · cases h
  · cases h

/-- the next word, as a number -/
def numN : List ByteArray → Option (Int × List ByteArray)
  | [] => none
  | x :: r => match numW (bl x) with
    | none => none
    | some n => some (n, r)

set_option maxRecDepth 100000 in
theorem FormP.number {w : World} {fb wb pb po : Nat} {ws : List ByteArray} {v : Value} (h : FormP w fb wb ws) (hc : w.cell? ⟨pb, po, none⟩ = some v) (hz : w.frozen? ⟨pb, po, none⟩ = false) (hpb : nGlob ≤ pb ∧ pb ≠ fb ∧ pb ≠ wb) {R : Ending → World → Prop}
    (hp : numN ws = none → ∀ W, Only w.heap.size (· = fb) w W → R (.panicked badChain) W)
    (hr : ∀ n r W, numN ws = some (n, r) → FormP W fb wb r → Only w.heap.size (· = fb) w W → R (.returned (.tuple #[])) (W.setCell ⟨pb, po, none⟩ (.int .i64 n))) :
    Calls Tryz.prog 50 #[.pointer (some ⟨fb, 0, none⟩), .pointer (some ⟨pb, po, none⟩)] w R := by
  have hpr := h.print
  have hlt := lt_of_cell hc
  cases ws with
  | nil =>
    have HP := Lib.hid (hp rfl)
    clear hp hr
    go_enter Tryz.func50, Tryz.ntmps50
    go_wp2_with (go_at_call 75; refine h.next_nil.mono ?_; rintro e w' ⟨rfl, rfl⟩)
    exact ⟨rfl, HP.out _ (Only.refl _ _ _)⟩
  | cons x r =>
    have hx := h.bnd x (by simp)
    cases hn : numW (bl x) with
    | none =>
      have HN := Lib.hid hn
      have HP := Lib.hid (hp (by simp only [numN, hn]))
      clear hp hr hn
      go_enter Tryz.func50, Tryz.ntmps50
      go_wp2_with (first
        | (go_at_call 75; refine h.next_cons.mono ?_; rintro e w1 ⟨rfl, h1, ho⟩)
        | (go_at_call 76; refine (number_none hx h1.env HN.out).mono ?_; rintro e w2 ⟨rfl, hb⟩))
      exact ⟨rfl, HP.out _ (ho.trans ((Only.of_below hb).mono ho.size))⟩
    | some n =>
      have HN := Lib.hid hn
      have HR := Lib.hid (fun W => hr n r W (by simp only [numN, hn]))
      clear hp hr hn
      go_enter Tryz.func50, Tryz.ntmps50
      go_wp2_with (first
        | (go_at_call 75; refine h.next_cons.mono ?_; rintro e w1 ⟨rfl, h1, ho⟩)
        | (go_at_call 76; refine (number_some hx h1.env HN.out).mono ?_; rintro e w2 ⟨rfl, hb⟩; have hon := ho.trans ((Only.of_below (S := fun k => k = fb) hb).mono ho.size); have hc2 := (hon.cell (p := ⟨pb, po, none⟩) hlt hpb.2.1).trans hc; have hz2 := (hon.frozen (p := ⟨pb, po, none⟩) hlt hpb.2.1).trans hz))
      go_end0
      exact HR.out _ (h1.below hb) hon
end Go.Proofs.YtgkddjefmonlaaaGreatDoor
