/-
  The forms of layer 25, parse mode: what holds of a form in memory; want, next.
-/
import Derived.Test.YtgkddjefmonlaaaGreatDoorScrQ4
import Derived.Lib.AtoiAll
import Derived.Lib.ItoaMem
import Derived.Lib.LaidTab
namespace Go.Proofs.YtgkddjefmonlaaaGreatDoor
open Go.RowKit

/-- how a line that is none is given up -/
def badChain : List PanicEntry := [{ v := .iface 85 (.agg #[]), recovered := false }]

theorem script_want (b : Bool) (w : World) : Calls Tryz.prog 25 #[.bool b] w fun e w' => (if b then e = .returned (.tuple #[]) else e = .panicked badChain) ∧ w' = w := by
  cases b with
  | true =>
    go_enter Tryz.func25, Tryz.ntmps25
    go_wp2
    go_end0
    exact ⟨rfl, rfl⟩
  | false =>
    go_enter Tryz.func25, Tryz.ntmps25
    go_wp2
    exact ⟨rfl, rfl, rfl⟩
theorem want_t {b : Bool} (hb : b = true) (w : World) : Calls Tryz.prog 25 #[.bool b] w fun e w' => e = .returned (.tuple #[]) ∧ w = w' := by
  subst hb; exact (script_want true w).mono fun _ _ h => ⟨h.1, h.2.symm⟩
theorem want_f {b : Bool} (hb : b = false) (w : World) : Calls Tryz.prog 25 #[.bool b] w fun e w' => e = .panicked badChain ∧ w = w' := by
  subst hb; exact (script_want false w).mono fun _ _ h => ⟨h.1, h.2.symm⟩

/-- so many package-level variables lie ahead of all other memory -/
def nGlob : Nat := 9
theorem nGlob_def : nGlob = 9 := rfl
/-- what the library's functions ask of the package-level variables -/
structure Env (w : World) : Prop where
  tab : Lib.TabIs Tryz.prog w "internal/strconv.uint64pow10" .u64 Lib.pow10Tab
  syn : ∃ tp p, w.var? Tryz.prog "strconv.ErrSyntax" = some #[.iface tp p]
  rng : ∃ tp p, w.var? Tryz.prog "strconv.ErrRange" = some #[.iface tp p]
  max : ∃ m, w.cell? ⟨1, 0, none⟩ = some (.int .i64 m)
  size : nGlob ≤ w.heap.size
theorem var_keep {w w' : World} {n : String} {g : Nat} {cs : Array Value} (hg : Tryz.prog.globalNamed n = some g) (h : w'.heap[g]? = w.heap[g]?) (hv : w.var? Tryz.prog n = some cs) : w'.var? Tryz.prog n = some cs := by
  unfold World.var? at hv ⊢
  rw [hg] at hv ⊢
  simp only [Option.bind_some] at hv ⊢
  rw [h]; exact hv
theorem Env.keep {w w' : World} (h : Env w) (hk : ∀ k, k < nGlob → w'.heap[k]? = w.heap[k]?) (hs : w.heap.size ≤ w'.heap.size) : Env w' := by
  unfold nGlob at hk
  obtain ⟨h1, ⟨tp, p, h2⟩, ⟨tq, q, h3⟩, ⟨m, h4⟩, h5⟩ := h
  exact ⟨var_keep (g := 2) (by kernel_rfl) (hk _ (by decide)) h1, ⟨tp, p, var_keep (g := 5) (by kernel_rfl) (hk _ (by decide)) h2⟩, ⟨tq, q, var_keep (g := 6) (by kernel_rfl) (hk _ (by decide)) h3⟩,
    ⟨m, (World.cell?_of_block (w := w) (a := ⟨1, 0, none⟩) (hk 1 (by decide))).trans h4⟩, Nat.le_trans h5 hs⟩
theorem Env.only {w w' : World} {S : Nat → Prop} (h : Env w) (hw : Only w.heap.size S w w') (hS : ∀ k, S k → nGlob ≤ k) : Env w' :=
  h.keep (fun k hk => hw.block k (by have := h.size; omega) fun x => by have := hS k x; omega) hw.size
theorem Env.below {w w' : World} (h : Env w) (hw : Below w.heap.size w w') : Env w' := h.only (S := fun _ => False) (Only.of_below hw) fun _ => False.elim
theorem only_set (w : World) (a : Addr) (v : Value) : Only w.heap.size (· = a.block) w (w.setCell a v) := Only.setCell (S := fun k => k = a.block) (Only.refl _ _ _) (.inr rfl) v
theorem Env.set {w : World} (h : Env w) {a : Addr} (ha : nGlob ≤ a.block) (v : Value) : Env (w.setCell a v) :=
  h.only (only_set w a v) (by rintro k rfl; exact ha)

/-- the cells of a form in parse mode -/
def fmF (v : Value) : Nat → Value
  | 0 => .bool false
  | _ => v
/-- a form in parse mode, and the words that are left -/
structure FormP (w : World) (fb wb : Nat) (ws : List ByteArray) : Prop where
  row : ∃ o c, w.rowIs fb 55 2 (fmF (.slice (some ⟨wb, o, none⟩) ws.length c)) ∧ ws.length ≤ c ∧ c ≤ 9223372036854775807 ∧ Reads w wb o (ws.map Value.string)
  wlt : wb < w.heap.size
  ne : wb ≠ fb
  gf : nGlob ≤ fb
  gw : nGlob ≤ wb
  len : ws.length ≤ 100000
  bnd : ∀ x ∈ ws, x.size ≤ 100000
  env : Env w

section
variable {w w' : World} {fb wb : Nat} {ws : List ByteArray} {S : Nat → Prop}
theorem FormP.lt (h : FormP w fb wb ws) : fb < w.heap.size := by
  obtain ⟨_, _, hr, _⟩ := h.row
  exact hr.lt
theorem FormP.only (h : FormP w fb wb ws) (hw : Only w.heap.size S w w') (hS : ∀ k, S k → nGlob ≤ k ∧ k ≠ fb ∧ k ≠ wb) : FormP w' fb wb ws := by
  obtain ⟨o, c, hr, h1, h2, h3⟩ := h.row
  exact ⟨⟨o, c, hr.of_block (hw.block _ hr.lt fun x => (hS _ x).2.1 rfl), h1, h2, h3.only hw (Nat.le_refl _) fun x => (hS _ x).2.2 rfl⟩, Nat.lt_of_lt_of_le h.wlt hw.size, h.ne, h.gf, h.gw, h.len, h.bnd, h.env.only hw fun k x => (hS k x).1⟩
theorem FormP.below (h : FormP w fb wb ws) (hw : Below w.heap.size w w') : FormP w' fb wb ws := h.only (S := fun _ => False) (Only.of_below hw) fun _ => False.elim
theorem FormP.drew (h : FormP w fb wb ws) : FormP w.drew fb wb ws := h.below (below_drewN w 1)
theorem FormP.set (h : FormP w fb wb ws) {a : Addr} (ha : nGlob ≤ a.block ∧ a.block ≠ fb ∧ a.block ≠ wb) (v : Value) : FormP (w.setCell a v) fb wb ws :=
  h.only (only_set w a v) (by rintro k rfl; exact ha)
theorem FormP.print (h : FormP w fb wb ws) : w.cell? ⟨fb, 0, none⟩ = some (.bool false) := by
  obtain ⟨o, c, hr, _⟩ := h.row
  exact hr.cell (i := 0) (by omega)
theorem FormP.words (h : FormP w fb wb ws) : ∃ o c, w.cell? ⟨fb, 1, none⟩ = some (.slice (some ⟨wb, o, none⟩) ws.length c) := by
  obtain ⟨o, c, hr, _⟩ := h.row
  exact ⟨o, c, hr.cell (i := 1) (by omega)⟩
end

set_option maxRecDepth 100000 in
theorem FormP.next {w : World} {fb wb : Nat} {ws : List ByteArray} (h : FormP w fb wb ws) {R : Ending → World → Prop} (hp : ws = [] → R (.panicked badChain) w)
    (hr : ∀ x r W, ws = x :: r → x.size ≤ 100000 → FormP W fb wb r → Only w.heap.size (· = fb) w W → R (.returned (.string x)) W) :
    Calls Tryz.prog 75 #[.pointer (some ⟨fb, 0, none⟩)] w R := by
  obtain ⟨o, c, hrow, h1, h2, h3⟩ := h.row
  have h2' := h2
  have c1 := hrow.cell (i := 1) (by omega)
  have z1 := hrow.frozen 1
  simp only [fmF] at c1
  cases ws with
  | nil =>
    have HP := Lib.hid (hp rfl)
    clear hp hr hrow
    simp only [List.length_nil] at c1
    go_enter Tryz.func75, Tryz.ntmps75
    go_wp2_with (go_at_call 25; refine (want_f rfl _).mono ?_; rintro e w' ⟨rfl, rfl⟩)
    exact ⟨rfl, HP.out⟩
  | cons x t =>
    have HR := Lib.hid (hr x t · rfl (h.bnd x (by simp)))
    have hl := h.len
    simp only [List.length_cons] at c1 h1 hl
    obtain ⟨f0, -⟩ := Reads.cons (w := w) (u := .string x) (xs := t.map Value.string) h3
    have hfin : ∀ (ad : Option Addr) (W : World), (c = 1 → ad = some ⟨wb, o, none⟩) → (c ≠ 1 → ad = some ⟨wb, o + 1, none⟩) → W = w.setCell ⟨fb, 1, none⟩ (.slice ad t.length (c - 1)) → FormP W fb wb t ∧ Only w.heap.size (· = fb) w W := by
      rintro ad W e1 e2 rfl
      obtain ⟨o', rfl, ho'⟩ : ∃ o', ad = some ⟨wb, o', none⟩ ∧ (c ≠ 1 → o' = o + 1) := by
        by_cases e : c = 1
        · exact ⟨o, e1 e, fun x => absurd e x⟩
        · exact ⟨o + 1, e2 e, fun _ => rfl⟩
      have hon : Only w.heap.size (· = fb) w (w.setCell ⟨fb, 1, none⟩ (.slice (some ⟨wb, o', none⟩) t.length (c - 1))) := Only.setCell (S := fun k => k = fb) (p := ⟨fb, 1, none⟩) (Only.refl w.heap.size _ w) (.inr rfl) _
      refine ⟨⟨⟨o', c - 1, (hrow.set 1 _).congr (fun i hi => by match i, hi with | 0, _ => rfl | 1, _ => rfl), by omega, by omega, ?_⟩, Nat.lt_of_lt_of_le h.wlt hon.size, h.ne, h.gf, h.gw, by omega, fun y hy => h.bnd y (by simp [hy]), h.env.only hon (by rintro k rfl; exact h.gf)⟩, hon⟩
      by_cases e : c = 1
      · have : t = [] := List.eq_nil_of_length_eq_zero (by omega)
        subst this
        intro j u hj; simp at hj
      · obtain rfl := ho' e
        exact (Reads.cons (w := w) (u := .string x) (xs := t.map Value.string) h3).2.only (S := fun k => k = fb) hon (Nat.le_refl _) h.ne
    have HF := Lib.hid hfin
    clear hfin hp hr hrow h3 h2
    obtain ⟨n, hnn⟩ : ∃ n, n = t.length + 1 := ⟨_, rfl⟩
    rw [← hnn] at c1 h1
    have hn1 : (1 : Int) ≤ (n : Int) := by omega
    have hn0 : (n - 1 : Nat) = t.length := by omega
    have HN := Lib.hid hnn
    have HN0 := Lib.hid hn0
    have hcb : c ≤ 9223372036854775807 := by omega
    clear hnn hn0
    go_enter Tryz.func75, Tryz.ntmps75
    go_wp2_with (go_at_call 25; refine (want_t (by simp; omega) _).mono ?_; rintro e w' ⟨rfl, rfl⟩)
    · have hc : c = 1 := by assumption
      obtain ⟨k1, k2⟩ := HF.out _ _ (fun _ => rfl) (fun e => absurd hc e) rfl
      rw [HN0.out, show (0 : Nat) = c - 1 from by omega]
      exact HR.out _ k1 k2
    · have hc : ¬ c = 1 := by assumption
      obtain ⟨k1, k2⟩ := HF.out _ _ (fun e => absurd e hc) (fun _ => rfl) rfl
      rw [HN0.out]
      exact HR.out _ k1 k2
theorem FormP.next_nil {w : World} {fb wb : Nat} (h : FormP w fb wb []) : Calls Tryz.prog 75 #[.pointer (some ⟨fb, 0, none⟩)] w fun e w' => e = .panicked badChain ∧ w = w' :=
  h.next (fun _ => ⟨rfl, rfl⟩) (fun _ _ _ hx => by cases hx)
theorem FormP.next_cons {w : World} {fb wb : Nat} {x : ByteArray} {r : List ByteArray} (h : FormP w fb wb (x :: r)) : Calls Tryz.prog 75 #[.pointer (some ⟨fb, 0, none⟩)] w fun e w' => e = .returned (.string x) ∧ FormP w' fb wb r ∧ Only w.heap.size (· = fb) w w' :=
  h.next (fun hx => by cases hx) (fun _ _ _ hx _ h1 h2 => by cases hx; exact ⟨rfl, h1, h2⟩)
end Go.Proofs.YtgkddjefmonlaaaGreatDoor
