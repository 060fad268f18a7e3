/-
  A field of bytes in layer 25, parse mode.
-/
import Derived.Test.YtgkddjefmonlaaaGreatDoorScrK
namespace Go.Proofs.YtgkddjefmonlaaaGreatDoor
open Go.RowKit

theorem unhex_none {x : ByteArray} (hx : x.size ≤ 100000) (w : World) (hn : unhexW (bl x) = none) : Calls Tryz.prog 78 #[.string x] w fun e w' => e = .panicked badChain ∧ Below w.heap.size w w' :=
  script_unhex x hx w (fun _ W hb => ⟨rfl, hb⟩) (fun b _ _ _ h => by rw [hn] at h; cases h)
theorem unhex_some {x : ByteArray} {b : List UInt8} (hx : x.size ≤ 100000) (w : World) (hn : unhexW (bl x) = some b) : Calls Tryz.prog 78 #[.string x] w fun e w' => ∃ a c, e = .returned (.slice a b.length c) ∧ w'.ownsRow w.heap.size 5 1 (.slice a b.length c) b.length (bs b) ∧ Below w.heap.size w w' :=
  script_unhex x hx w (fun h => by rw [hn] at h; cases h) (fun b' a c W h ho hb => by rw [hn] at h; cases h; exact ⟨a, c, rfl, ho, hb⟩)

def dash : ByteArray := ⟨#[45]⟩
/-- the next word, as bytes -/
def dataN (m : Nat) : List ByteArray → Option (List UInt8 × List ByteArray)
  | [] => none
  | x :: r => if x = dash then some ([], r) else match unhexW (bl x) with
    | none => none
    | some b => if 0 < b.length ∧ b.length ≤ m then some (b, r) else none
theorem ne_dash {x : ByteArray} (h : x ≠ dash) : (x.toList == [45]) = false := by
  have := str_ne h
  have e : dash.toList = [45] := by rw [ByteArray.toList_eq]; rfl
  rwa [e] at this
theorem dash_list : dash.toList = [45] := by rw [ByteArray.toList_eq]; rfl

theorem field_kept {w w1 : World} {fb pb po : Nat} {v : Value} (ho : Only w.heap.size (· = fb) w w1) (hne : pb ≠ fb) (hc : w.cell? ⟨pb, po, none⟩ = some v) (hz : w.frozen? ⟨pb, po, none⟩ = false) : w1.cell? ⟨pb, po, none⟩ = some v ∧ w1.frozen? ⟨pb, po, none⟩ = false := by
  have hlt := lt_of_cell hc
  exact ⟨(ho.cell (p := ⟨pb, po, none⟩) hlt hne).trans hc, (ho.frozen (p := ⟨pb, po, none⟩) hlt hne).trans hz⟩
theorem only_or {w w1 : World} {fb pb : Nat} (ho : Only w.heap.size (· = fb) w w1) : Only w.heap.size (fun k => k = fb ∨ k = pb) w w1 := ho.weaken fun _ _ h => .inl h
theorem only_below {w w1 w2 : World} {S : Nat → Prop} (ho : Only w.heap.size S w w1) (hb : Below w1.heap.size w1 w2) : Only w.heap.size S w w2 := ho.trans ((Only.of_below hb).mono ho.size)

set_option maxRecDepth 100000 in
theorem FormP.data {w : World} {fb wb pb po m : Nat} {ws : List ByteArray} (h : FormP w fb wb ws) (hc : w.cell? ⟨pb, po, none⟩ = some (.slice none 0 0)) (hz : w.frozen? ⟨pb, po, none⟩ = false) (hpb : nGlob ≤ pb ∧ pb ≠ fb ∧ pb ≠ wb) (hm : m ≤ 1000) {R : Ending → World → Prop}
    (hp : dataN m ws = none → ∀ W, Only w.heap.size (fun k => k = fb ∨ k = pb) w W → R (.panicked badChain) W)
    (hr : ∀ b r a c W W', dataN m ws = some (b, r) → FormP W fb wb r → Only w.heap.size (· = fb) w W → W.ownsRow w.heap.size 5 1 (.slice a b.length c) b.length (bs b) → (W' = W.setCell ⟨pb, po, none⟩ (.slice a b.length c) ∨ W' = W ∧ (.slice a b.length c : Value) = .slice none 0 0) → R (.returned (.tuple #[])) W') :
    Calls Tryz.prog 51 #[.pointer (some ⟨fb, 0, none⟩), .pointer (some ⟨pb, po, none⟩), .int .i64 (m : Int)] w R := by
  have hpr := h.print
  cases ws with
  | nil =>
    have HP := Lib.hid (hp rfl)
    clear hp hr
    go_enter Tryz.func51, Tryz.ntmps51
    go_wp2_with (go_at_call 75; refine h.next_nil.mono ?_; rintro e w' ⟨rfl, rfl⟩)
    exact ⟨rfl, HP.out _ (Only.refl _ _ _)⟩
  | cons x r =>
    have hx := h.bnd x (by simp)
    by_cases hd : x = dash
    · subst hd
      have HR := Lib.hid (fun W W' => hr [] r none 0 W W' (by simp [dataN]))
      have hs := dash_list
      clear hp hr
      go_enter Tryz.func51, Tryz.ntmps51
      go_wp2_with (go_at_call 75; refine h.next_cons.mono ?_; rintro e w1 ⟨rfl, h1, ho⟩)
      go_end0
      exact HR.out w1 w1 h1 ho (World.ownsRow_nil _ _ _ _) (.inr ⟨rfl, rfl⟩)
    · have hs := ne_dash hd
      have HD := Lib.hid hd
      clear hd
      cases hn : unhexW (bl x) with
      | none =>
        have HN := Lib.hid hn
        have HP := Lib.hid (hp (by simp only [dataN, if_neg HD.out, hn]))
        clear hp hr hn
        go_enter Tryz.func51, Tryz.ntmps51
        go_wp2_with (first
          | (go_at_call 75; refine h.next_cons.mono ?_; rintro e w1 ⟨rfl, h1, ho⟩)
          | (go_at_call 78; refine (unhex_none hx _ HN.out).mono ?_; rintro e w2 ⟨rfl, hb⟩))
        exact ⟨rfl, HP.out _ (only_or (only_below ho hb))⟩
      | some b =>
        have HN := Lib.hid hn
        have hbl := unhexW_length _ _ hn
        have hsz : (bl x).length = x.size := by simp [bl]
        have hb1 : b.length ≤ 100000 := by omega
        clear hbl hsz
        by_cases hok : 0 < b.length ∧ b.length ≤ m
        · obtain ⟨hk1, hk2⟩ := hok
          have HR := Lib.hid (fun a c W W' => hr b r a c W W' (by simp only [dataN, if_neg HD.out, hn, if_pos (And.intro hk1 hk2)]))
          clear hp hr hn
          go_enter Tryz.func51, Tryz.ntmps51
          go_wp2_with (first
            | (go_at_call 75; refine h.next_cons.mono ?_; rintro e w1 ⟨rfl, h1, ho⟩)
            | (go_at_call 78; refine (unhex_some hx _ HN.out).mono ?_; rintro e w2 ⟨a, c, rfl, hown, hb⟩; obtain ⟨hc2, hz2⟩ := field_kept (only_below ho hb) hpb.2.1 hc hz)
            | (go_at_call 25; refine (want_t (by first | rfl | (simp; omega) | simp) _).mono ?_; rintro e w' ⟨rfl, rfl⟩))
          go_end0
          have ho2 := only_below ho hb
          exact HR.out a c w2 _ (h1.below hb) ho2 (own_mono hown ho.size) (.inl rfl)
        · have HP := Lib.hid (hp (by simp only [dataN, if_neg HD.out, hn, if_neg hok]))
          have hbad : ∀ (a : Option Addr) (c : Nat) (w2 : World), Only w.heap.size (· = fb) w w2 → Only w.heap.size (fun k => k = fb ∨ k = pb) w (w2.setCell ⟨pb, po, none⟩ (.slice a b.length c)) := fun a c w2 ho =>
            (only_or ho).setCell (p := ⟨pb, po, none⟩) (.inr (.inr rfl)) _
          by_cases hk1 : 0 < b.length
          · have hk2 : m < b.length := by omega
            clear hp hr hn hok
            go_enter Tryz.func51, Tryz.ntmps51
            go_wp2_with (first
              | (go_at_call 75; refine h.next_cons.mono ?_; rintro e w1 ⟨rfl, h1, ho⟩)
              | (go_at_call 78; refine (unhex_some hx _ HN.out).mono ?_; rintro e w2 ⟨a, c, rfl, hown, hb⟩; obtain ⟨hc2, hz2⟩ := field_kept (only_below ho hb) hpb.2.1 hc hz)
              | (go_at_call 25; refine (want_f (by first | rfl | (simp; omega) | simp) _).mono ?_; rintro e w' ⟨rfl, rfl⟩))
            exact ⟨rfl, HP.out _ (hbad _ _ _ (only_below ho hb))⟩
          · have hb0 : b = [] := List.eq_nil_of_length_eq_zero (by omega)
            subst hb0
            simp only [List.length_nil] at hbad
            clear hp hr hn hok hk1 hb1
            go_enter Tryz.func51, Tryz.ntmps51
            go_wp2_with (first
              | (go_at_call 75; refine h.next_cons.mono ?_; rintro e w1 ⟨rfl, h1, ho⟩)
              | (go_at_call 78; refine (unhex_some hx _ HN.out).mono ?_; rintro e w2 ⟨a, c, rfl, hown, hb⟩; obtain ⟨hc2, hz2⟩ := field_kept (only_below ho hb) hpb.2.1 hc hz)
              | (go_at_call 25; refine (want_f (by first | rfl | (simp; omega) | simp) _).mono ?_; rintro e w' ⟨rfl, rfl⟩))
            exact ⟨rfl, HP.out _ (hbad _ _ _ (only_below ho hb))⟩
end Go.Proofs.YtgkddjefmonlaaaGreatDoor
