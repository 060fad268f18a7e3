/-
  A form that is run safely: layer 25.
-/
import Derived.Test.YtgkddjefmonlaaaGreatDoorScrB
import Derived.Recover
namespace Go.Proofs.YtgkddjefmonlaaaGreatDoor
open Go.RowKit

theorem catch_idle (p : Addr) (w : World) :
    CallsD Tryz.prog 47 #[.pointer (some p)] .returning w fun e u' w' => e = .returned (.tuple #[]) ∧ u' = .returning ∧ w' = w := by
  refine callsD_of_wpS Tryz.func47 rfl fun c₀ cs hu => ?_
  apply wpS_seq
  apply wpS_region
  simp [wpOpsS, go_sem, recoverD, hu, Tryz.ntmps47, Exit.thenS]
  refine wpS_of_wp ?_
  go_wp2
  cases c₀
  simp_all [bodyPostS, results, Tryz.results47]
set_option maxRecDepth 100000 in
theorem catch_bad (b : Nat) (v : Value) (w : World) (hc : w.cell? ⟨b, 0, none⟩ = some v) (hz : w.frozen? ⟨b, 0, none⟩ = false) :
    CallsD Tryz.prog 47 #[.pointer (some ⟨b, 0, none⟩)] (.panicking badChain) w fun e u' w' => e = .returned (.tuple #[]) ∧ u' = .panicking [{ v := .iface 85 (.agg #[]), recovered := true }] ∧ ∃ o, w' = (w.setCell ⟨b, 0, none⟩ (.int .i64 3)).alloc o := by
  have hlt := lt_of_cell hc
  have hne : b ≠ w.heap.size := by omega
  have hc2 : ∀ o, (w.alloc o).cell? ⟨b, 0, none⟩ = some v := fun o => (World.cell?_alloc_old _ _ _ hne).trans hc
  have hz2 : ∀ o, (w.alloc o).frozen? ⟨b, 0, none⟩ = false := fun o => (Below.frozen (B := w.heap.size) ((Below.refl _ _).alloc (Nat.le_refl _) o) (p := ⟨b, 0, none⟩) hlt).trans hz
  refine callsD_of_wpS Tryz.func47 rfl fun c₀ cs hu => ?_
  unfold badChain at hu
  have hta : ∀ w, (Instr.typeAssert (.iface 85 (.agg #[])) 20 85 true).run Tryz.prog w = .ok (.tuple #[.agg #[], .bool true]) w := fun _ => by kernel_rfl
  apply wpS_seq
  apply wpS_region
  simp [wpOpsS, go_sem, recoverD, hu, Tryz.ntmps47, Exit.thenS]
  refine wpS_of_wp ?_
  go_wp2
  cases c₀
  simp_all [bodyPostS, results, Tryz.results47]
  exact ⟨_, rfl⟩

set_option maxRecDepth 100000 in
theorem safely_Parse (c1 c2 : Value) (w : World) (Rg Rb : World → Prop)
    (hc : Calls Tryz.prog 23 #[c1, c2] (w.alloc (.cells #[.int .i64 0] 30)) fun e w' => (e = .returned (.tuple #[]) ∧ Rg w' ∨ e = .panicked badChain ∧ Rb w') ∧ w'.cell? ⟨w.heap.size, 0, none⟩ = some (.int .i64 0) ∧ w'.frozen? ⟨w.heap.size, 0, none⟩ = false) :
    Calls Tryz.prog 22 #[.func (.func 23) #[] #[c1, c2]] w fun e w' => (e = .returned (.int .i64 0) ∧ ∃ W, Rg W ∧ w' = W.setCell ⟨w.heap.size, 0, none⟩ (.int .i64 0)) ∨ (e = .returned (.int .i64 3) ∧ ∃ W o, Rb W ∧ w' = (W.setCell ⟨w.heap.size, 0, none⟩ (.int .i64 3)).alloc o) := by
  have hmf : ∀ (fn : Fn) (first cap : Array Value) (w : World), (Instr.makeFunc fn first cap).run Tryz.prog w = .ok (.func fn first cap) w := fun _ _ _ _ => rfl
  have HC := Lib.hid hc
  clear hc
  go_enter_defers Tryz.func22, Tryz.ntmps22
  go_wp2_with fail
  refine HC.out.mono ?_
  rintro e w1 ⟨⟨rfl, hg⟩ | ⟨rfl, hb⟩, hcell, hfree⟩
  · have HG := Lib.hid hg
    clear hg
    go_wp2_with fail
    refine leaves_cons (f := 47) (args := #[.pointer (some ⟨w.heap.size, 0, none⟩)]) (by simp) (by simp [go_sem]) ?_
    refine (catch_idle ⟨w.heap.size, 0, none⟩ _).mono ?_
    rintro e u' w'' ⟨rfl, rfl, rfl⟩
    have hc2 := World.cell?_setCell_same w1 ⟨w.heap.size, 0, none⟩ (.int .i64 0) hcell
    simp [Leaves, settle, results, Tryz.results22, go_sem]
    rw [hc2]
    exact ⟨_, rfl, .inl ⟨rfl, w1, HG.out, rfl⟩⟩
  · have HB := Lib.hid hb
    clear hb
    refine leaves_cons (f := 47) (args := #[.pointer (some ⟨w.heap.size, 0, none⟩)]) (by simp) (by simp [go_sem]) ?_
    refine (catch_bad w.heap.size _ w1 hcell hfree).mono ?_
    rintro e u' w'' ⟨rfl, rfl, o, rfl⟩
    have hlt := lt_of_cell hcell
    have hc2 : ((w1.setCell ⟨w.heap.size, 0, none⟩ (.int .i64 3)).alloc o).cell? ⟨w.heap.size, 0, none⟩ = some (.int .i64 3) :=
      (World.cell?_alloc_old _ _ _ (by simp; omega)).trans (World.cell?_setCell_same w1 ⟨w.heap.size, 0, none⟩ (.int .i64 3) hcell)
    simp [Leaves, settle, results, Tryz.results22, go_sem]
    rw [hc2]
    exact ⟨_, rfl, .inr ⟨rfl, w1, HB.out, o, rfl⟩⟩

/-- the step that a line's words are -/
def parseN (ws : List ByteArray) : Option AStep :=
  match stepN ws with
  | some (s, []) => some s
  | _ => none

set_option maxRecDepth 100000 in
theorem Pz.parse1 {w W : World} {fb wb sb vb : Nat} {ws : List ByteArray} {R : Ending → World → Prop} (h : Pz w W fb wb sb ws step0 (.slice none 0 0) (.slice none 0 0) (.slice none 0 0)) (hv : w.cell? ⟨vb, 0, none⟩ = some (.pointer (some ⟨fb, 0, none⟩))) (hn1 : vb ≠ fb) (hn2 : vb ≠ sb)
    (hp : parseN ws = none → ∀ W', Only w.heap.size (fun k => k = fb ∨ k = sb) w W' → R (.panicked badChain) W')
    (hr : ∀ s d1 d2 fs W', parseN ws = some s → Pz w W' fb wb sb [] s d1 d2 fs → R (.returned (.tuple #[])) W') :
    Calls Tryz.prog 23 #[.pointer (some ⟨vb, 0, none⟩), .pointer (some ⟨sb, 0, none⟩)] W R := by
  have hlt := lt_of_cell hv
  have hk : ∀ W', Only w.heap.size (fun k => k = fb ∨ k = sb) w W' → W'.cell? ⟨vb, 0, none⟩ = some (.pointer (some ⟨fb, 0, none⟩)) := fun W' ho =>
    (ho.cell (p := ⟨vb, 0, none⟩) hlt (fun e => e.elim hn1 hn2)).trans hv
  have HP := Lib.hid hp
  have HR := Lib.hid hr
  have HK := Lib.hid hk
  have hcv := hk W h.only
  clear hp hr hk
  go_enter Tryz.func23, Tryz.ntmps23
  go_wp2_with fail
  refine h.step (fun hn W' ho => ⟨rfl, HP.out (by simp only [parseN, hn]) _ ho⟩) ?_
  intro s r d1 d2 fs W2 hs h2
  have hcv2 := HK.out W2 h2.only
  obtain ⟨o, c, hw⟩ := h2.form.words
  cases r with
  | nil =>
    simp only [List.length_nil] at hw
    have HS := Lib.hid (show parseN ws = some s from by simp only [parseN, hs])
    clear hs
    go_wp2_with (go_at_call 25; refine (want_t (by first | rfl | (simp; omega) | simp) _).mono ?_; rintro e w' ⟨rfl, rfl⟩)
    go_end0
    exact HR.out s d1 d2 fs _ HS.out h2
  | cons x t =>
    have HS := Lib.hid (show parseN ws = none from by simp only [parseN, hs])
    have hl := h2.form.len
    simp only [List.length_cons] at hw hl
    obtain ⟨n, hn⟩ : ∃ n, n = t.length + 1 := ⟨_, rfl⟩
    rw [← hn] at hw hl
    have hn1 : ((n : Int) == 0) = false := by rw [beq_eq_false_iff_ne]; omega
    have HO := Lib.hid h2.only
    clear hs hn
    go_wp2_with (go_at_call 25; refine (want_f (by first | rfl | (simp; omega) | simp) _).mono ?_; rintro e w' ⟨rfl, rfl⟩)
    exact ⟨rfl, HP.out HS.out _ HO.out⟩
end Go.Proofs.YtgkddjefmonlaaaGreatDoor
