/-
  The choice of a word in layer 25, parse mode; the words of steps and of what is asked for.
-/
import Derived.Test.YtgkddjefmonlaaaGreatDoorScrH
namespace Go.Proofs.YtgkddjefmonlaaaGreatDoor
open Go.RowKit

/-- the place of a word in a table from a place on -/
def pickW : List ByteArray → Nat → ByteArray → Option Nat
  | [], _, _ => none
  | t :: r, k, x => if t = x then some k else pickW r (k + 1) x
/-- the next word, as its place in a table -/
def choiceN (tbl : List ByteArray) : List ByteArray → Option (Nat × List ByteArray)
  | [] => none
  | x :: r => match pickW (tbl.drop 1) 1 x with
    | none => none
    | some k => some (k, r)
theorem str_eq (a : ByteArray) : (a.toList == a.toList) = true := by simp
theorem pickW_range {x : ByteArray} {k : Nat} : ∀ (l : List ByteArray) (j : Nat), pickW l j x = some k → j ≤ k ∧ k < j + l.length
  | [], j, h => by simp [pickW] at h
  | t :: r, j, h => by
    simp only [pickW] at h
    split at h
    · cases h; simp
    · have := pickW_range r (j + 1) h
      simp; omega

set_option maxRecDepth 100000 in
theorem FormP.choice {w : World} {fb wb pb po tb n : Nat} {ws tbl : List ByteArray} {v : Value} (h : FormP w fb wb ws) (hc : w.cell? ⟨pb, po, none⟩ = some v) (hz : w.frozen? ⟨pb, po, none⟩ = false) (hpb : nGlob ≤ pb ∧ pb ≠ fb ∧ pb ≠ wb)
    (ht : Reads w tb 0 (tbl.map Value.string)) (htb : tb ≠ fb) (hn : n = tbl.length) (hn1 : 1 ≤ n) (hn2 : n ≤ 100) {R : Ending → World → Prop}
    (hp : choiceN tbl ws = none → ∀ W, Only w.heap.size (· = fb) w W → R (.panicked badChain) W)
    (hr : ∀ k r W, choiceN tbl ws = some (k, r) → FormP W fb wb r → Only w.heap.size (· = fb) w W → R (.returned (.tuple #[])) (W.setCell ⟨pb, po, none⟩ (.int .i64 (k : Int)))) :
    Calls Tryz.prog 48 #[.pointer (some ⟨fb, 0, none⟩), .pointer (some ⟨pb, po, none⟩), .slice (some ⟨tb, 0, none⟩) n n] w R := by
  have hpr := h.print
  have hlt := lt_of_cell hc
  have HN := Lib.hid hn
  clear hn
  cases ws with
  | nil =>
    have HP := Lib.hid (hp rfl)
    clear hp hr
    go_enter Tryz.func48, Tryz.ntmps48
    go_wp2_with (go_at_call 75; refine h.next_nil.mono ?_; rintro e w' ⟨rfl, rfl⟩)
    exact ⟨rfl, HP.out _ (Only.refl _ _ _)⟩
  | cons x r =>
    have HP := Lib.hid hp
    have HR := Lib.hid (fun k W => hr k r W)
    have HT := Lib.hid ht
    clear hp hr ht
    go_enter Tryz.func48, Tryz.ntmps48
    go_wp2_with (go_at_call 75; refine h.next_cons.mono ?_; rintro e w1 ⟨rfl, h1, ho⟩)
    have hc1 := (ho.cell (p := ⟨pb, po, none⟩) hlt hpb.2.1).trans hc
    have hz1 := (ho.frozen (p := ⟨pb, po, none⟩) hlt hpb.2.1).trans hz
    have HT1 := Lib.hid (HT.out.only (S := fun k => k = fb) ho (Nat.le_refl _) htb)
    clear hc hz hpr
    go_loop [7] (fun i => ∃ k : Nat, 1 ≤ k ∧ k ≤ n ∧ i = .int .i64 (k : Int) ∧ pickW (tbl.drop 1) 1 x = pickW (tbl.drop k) k x) (fun i => n - (intOf i).toNat)
    case atStart => exact ⟨1, Nat.le_refl _, hn1, rfl, rfl⟩
    case round =>
      obtain ⟨k, hk1, hk, rfl, hpk⟩ := hrel
      have HK := Lib.hid hpk
      clear hpk
      by_cases hlt : k < n
      · have hkt : k < tbl.length := by have := HN.out; omega
        have hf := HT1.out k (.string tbl[k]) (by simp [hkt])
        rw [Nat.zero_add] at hf
        have hd : pickW (tbl.drop k) k x = if tbl[k] = x then some k else pickW (tbl.drop (k + 1)) (k + 1) x := by rw [List.drop_eq_getElem_cons hkt]; rfl
        have HD := Lib.hid hd
        clear hd
        obtain ⟨t, hT⟩ : ∃ t, t = tbl[k] := ⟨_, rfl⟩
        rw [← hT] at hf HD
        clear hT
        by_cases hx : t = x
        · subst hx
          have hs := str_eq t
          go_wp2_with fail
          go_end0
          refine HR.out k _ ?_ h1 ho
          have : pickW (tbl.drop 1) 1 t = some k := by rw [HK.out, HD.out]; simp
          simp only [choiceN, this]
        · have hs := str_ne hx
          have HX := Lib.hid hx
          clear hx
          go_wp2_with fail
          go_round
          case rel => exact ⟨k + 1, by omega, by omega, by go_num, by rw [HK.out, HD.out, if_neg HX.out]⟩
          case measure => simp [intOf]; omega
      · have hke : k = n := by omega
        have hnone : choiceN tbl (x :: r) = none := by
          have : pickW (tbl.drop 1) 1 x = none := by rw [HK.out, List.drop_eq_nil_of_le (by have := HN.out; omega)]; rfl
          simp only [choiceN, this]
        have HX := Lib.hid hnone
        clear hnone hke
        go_wp2_with fail
        exact ⟨rfl, HP.out HX.out _ ho⟩
/-- the words of steps, and of what is asked for -/
def stepTbl : List ByteArray := [⟨#[]⟩, ⟨#[97, 115, 107]⟩, ⟨#[103, 111]⟩, ⟨#[112, 105, 99, 107]⟩, ⟨#[114, 117, 110]⟩, ⟨#[99, 114, 97, 115, 104]⟩, ⟨#[97, 114, 109]⟩, ⟨#[111, 112, 101, 110]⟩, ⟨#[112, 111, 107, 101]⟩, ⟨#[99, 111, 112, 121]⟩, ⟨#[115, 110, 97, 112]⟩, ⟨#[98, 97, 99, 107]⟩, ⟨#[119, 101, 105, 103, 104, 116]⟩]
def askTbl : List ByteArray := [⟨#[]⟩, ⟨#[114, 101, 97, 100]⟩, ⟨#[119, 114, 105, 116, 101]⟩, ⟨#[99, 111, 109, 109, 105, 116]⟩, ⟨#[114, 111, 116, 97, 116, 101]⟩, ⟨#[119, 97, 114, 109]⟩, ⟨#[99, 108, 111, 115, 101]⟩]
theorem script_steps (w : World) : Calls Tryz.prog 49 #[] w fun e w' => e = .returned (.slice (some ⟨w.heap.size, 0, none⟩) 13 13) ∧ w' = w.alloc (.cells (stepTbl.map Value.string).toArray 9) := by
  go_enter Tryz.func49, Tryz.ntmps49
  go_wp2
  go_ret
  exact ⟨rfl, rfl⟩
theorem script_asks (w : World) : Calls Tryz.prog 81 #[] w fun e w' => e = .returned (.slice (some ⟨w.heap.size, 0, none⟩) 7 7) ∧ w' = w.alloc (.cells (askTbl.map Value.string).toArray 9) := by
  go_enter Tryz.func81, Tryz.ntmps81
  go_wp2
  go_ret
  exact ⟨rfl, rfl⟩
theorem script_steps' (w : World) : Calls Tryz.prog 49 #[] w fun e w' => ∃ tb, e = .returned (.slice (some ⟨tb, 0, none⟩) 13 13) ∧ w.heap.size ≤ tb ∧ Reads w' tb 0 (stepTbl.map Value.string) ∧ Below w.heap.size w w' :=
  (script_steps w).mono fun _ _ ⟨he, hw⟩ => ⟨_, he, Nat.le_refl _, hw ▸ reads_new (heap_al_new _ _), hw ▸ (Below.refl _ _).alloc (Nat.le_refl _) _⟩
theorem script_asks' (w : World) : Calls Tryz.prog 81 #[] w fun e w' => ∃ tb, e = .returned (.slice (some ⟨tb, 0, none⟩) 7 7) ∧ w.heap.size ≤ tb ∧ Reads w' tb 0 (askTbl.map Value.string) ∧ Below w.heap.size w w' :=
  (script_asks w).mono fun _ _ ⟨he, hw⟩ => ⟨_, he, Nat.le_refl _, hw ▸ reads_new (heap_al_new _ _), hw ▸ (Below.refl _ _).alloc (Nat.le_refl _) _⟩
end Go.Proofs.YtgkddjefmonlaaaGreatDoor
