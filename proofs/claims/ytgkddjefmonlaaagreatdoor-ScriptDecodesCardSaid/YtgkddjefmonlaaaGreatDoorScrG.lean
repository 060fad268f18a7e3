/-
  A step that is being read off words, in layer 25: the frame, and each field.
-/
import Derived.Test.YtgkddjefmonlaaaGreatDoorScrF
namespace Go.Proofs.YtgkddjefmonlaaaGreatDoor
open Go.RowKit

/-- a form in parse mode and the step that it fills, in memory -/
structure Pz (w W : World) (fb wb sb : Nat) (ws : List ByteArray) (s : AStep) (d1 d2 fs : Value) : Prop where
  form : FormP W fb wb ws
  row : W.rowIs sb 29 9 (stF (stVals s d1 d2 fs))
  own : StOwn W w.heap.size s d1 d2 fs
  only : Only w.heap.size (fun k => k = fb ∨ k = sb) w W
  lf : fb < w.heap.size
  ls : sb < w.heap.size
  ne1 : sb ≠ fb
  ne2 : sb ≠ wb
  gs : nGlob ≤ sb

section
variable {w W W' : World} {fb wb sb : Nat} {ws r : List ByteArray} {s s' : AStep} {d1 d2 fs e1 e2 e3 : Value} {R : Ending → World → Prop}
theorem Pz.hpb (h : Pz w W fb wb sb ws s d1 d2 fs) : nGlob ≤ sb ∧ sb ≠ fb ∧ sb ≠ wb := ⟨h.gs, h.ne1, h.ne2⟩
theorem Pz.mid (h : Pz w W fb wb sb ws s d1 d2 fs) (hf : FormP W' fb wb r) (ho : Only W.heap.size (· = fb) W W') : Pz w W' fb wb sb r s d1 d2 fs :=
  ⟨hf, h.row.of_block (ho.block _ h.row.lt h.ne1), h.own.only ho (Nat.le_refl _) (by have := h.lf; intro k hk e; omega), h.only.trans ((only_or ho).mono h.only.size), h.lf, h.ls, h.ne1, h.ne2, h.gs⟩
theorem Pz.below (h : Pz w W fb wb sb ws s d1 d2 fs) (hb : Below W.heap.size W W') : Pz w W' fb wb sb ws s d1 d2 fs := h.mid (h.form.below hb) (Only.of_below hb)
theorem own_over {n : Nat} {e : TypeId} {v : Value} {xs : List Value} (h : W.ownsRow w.heap.size e 1 v n xs) (hs : sb < w.heap.size) (i : Nat) (u : Value) : (W.setCell ⟨sb, i, none⟩ u).ownsRow w.heap.size e 1 v n xs :=
  ownsRow_set (a := ⟨sb, i, none⟩) h (fun e => by have h1 := (h.lt sb e).1; omega) u
theorem StOwn.over (h : StOwn W w.heap.size s d1 d2 fs) (hs : sb < w.heap.size) (i : Nat) (u : Value) : StOwn (W.setCell ⟨sb, i, none⟩ u) w.heap.size s d1 d2 fs :=
  ⟨own_over h.d1 hs i u, own_over h.d2 hs i u, own_over h.fs hs i u⟩
/-- a field is stored -/
theorem Pz.set (h : Pz w W fb wb sb ws s d1 d2 fs) (i : Nat) (v : Value) (hv : (stVals s d1 d2 fs).set i v = stVals s' e1 e2 e3) (hi : i < 9) (ho : StOwn W w.heap.size s' e1 e2 e3) : Pz w (W.setCell ⟨sb, i, none⟩ v) fb wb sb ws s' e1 e2 e3 := by
  refine ⟨h.form.set h.hpb v, (h.row.set i v).congr ?_, ho.over h.ls i v, h.only.setCell (.inr (.inr rfl)) v, h.lf, h.ls, h.ne1, h.ne2, h.gs⟩
  intro j hj
  rw [← hv]
  unfold stF
  have hl : (stVals s d1 d2 fs).length = 9 := rfl
  by_cases e : j = i
  · subst e
    rw [if_pos rfl, List.getD_eq_getElem?_getD, List.getElem?_set_self (by omega)]; rfl
  · rw [if_neg e, List.getD_eq_getElem?_getD, List.getD_eq_getElem?_getD, List.getElem?_set_ne (fun x => e x.symm)]
theorem Pz.cell (h : Pz w W fb wb sb ws s d1 d2 fs) (i : Nat) (hi : i < 9) : W.cell? ⟨sb, i, none⟩ = some (stF (stVals s d1 d2 fs) i) := h.row.cell hi
theorem Pz.free (h : Pz w W fb wb sb ws s d1 d2 fs) (i : Nat) : W.frozen? ⟨sb, i, none⟩ = false := h.row.frozen i
theorem Pz.only' (h : Pz w W fb wb sb ws s d1 d2 fs) (ho : Only W.heap.size (fun k => k = fb ∨ k = sb) W W') : Only w.heap.size (fun k => k = fb ∨ k = sb) w W' := h.only.trans (ho.mono h.only.size)

theorem Pz.numA (h : Pz w W fb wb sb ws s d1 d2 fs) (hp : numN ws = none → ∀ W', Only w.heap.size (fun k => k = fb ∨ k = sb) w W' → R (.panicked badChain) W')
    (hr : ∀ n r W', numN ws = some (n, r) → Pz w W' fb wb sb r { s with a := n } d1 d2 fs → R (.returned (.tuple #[])) W') :
    Calls Tryz.prog 50 #[.pointer (some ⟨fb, 0, none⟩), .pointer (some ⟨sb, 1, none⟩)] W R :=
  h.form.number (h.cell 1 (by omega)) (h.free 1) h.hpb (fun hn W' ho => hp hn W' (h.only' (only_or ho))) fun n r W' hn hf ho =>
    hr n r _ hn ((h.mid hf ho).set 1 _ rfl (by omega) ⟨(h.mid hf ho).own.d1, (h.mid hf ho).own.d2, (h.mid hf ho).own.fs⟩)
theorem Pz.numB (h : Pz w W fb wb sb ws s d1 d2 fs) (hp : numN ws = none → ∀ W', Only w.heap.size (fun k => k = fb ∨ k = sb) w W' → R (.panicked badChain) W')
    (hr : ∀ n r W', numN ws = some (n, r) → Pz w W' fb wb sb r { s with b := n } d1 d2 fs → R (.returned (.tuple #[])) W') :
    Calls Tryz.prog 50 #[.pointer (some ⟨fb, 0, none⟩), .pointer (some ⟨sb, 2, none⟩)] W R :=
  h.form.number (h.cell 2 (by omega)) (h.free 2) h.hpb (fun hn W' ho => hp hn W' (h.only' (only_or ho))) fun n r W' hn hf ho =>
    hr n r _ hn ((h.mid hf ho).set 2 _ rfl (by omega) ⟨(h.mid hf ho).own.d1, (h.mid hf ho).own.d2, (h.mid hf ho).own.fs⟩)
theorem Pz.numP (h : Pz w W fb wb sb ws s d1 d2 fs) (hp : numN ws = none → ∀ W', Only w.heap.size (fun k => k = fb ∨ k = sb) w W' → R (.panicked badChain) W')
    (hr : ∀ n r W', numN ws = some (n, r) → Pz w W' fb wb sb r { s with op := { s.op with page := n } } d1 d2 fs → R (.returned (.tuple #[])) W') :
    Calls Tryz.prog 50 #[.pointer (some ⟨fb, 0, none⟩), .pointer (some ⟨sb, 4, none⟩)] W R :=
  h.form.number (h.cell 4 (by omega)) (h.free 4) h.hpb (fun hn W' ho => hp hn W' (h.only' (only_or ho))) fun n r W' hn hf ho =>
    hr n r _ hn ((h.mid hf ho).set 4 _ rfl (by omega) ⟨(h.mid hf ho).own.d1, (h.mid hf ho).own.d2, (h.mid hf ho).own.fs⟩)
theorem Pz.bits (h : Pz w W fb wb sb ws s d1 d2 fs) (hp : bitsN ws = none → ∀ W', Only w.heap.size (fun k => k = fb ∨ k = sb) w W' → R (.panicked badChain) W')
    (hr : ∀ n r W', bitsN ws = some (n, r) → Pz w W' fb wb sb r { s with op := { s.op with by_ := n } } d1 d2 fs → R (.returned (.tuple #[])) W') :
    Calls Tryz.prog 53 #[.pointer (some ⟨fb, 0, none⟩), .pointer (some ⟨sb, 6, none⟩)] W R :=
  h.form.bits (h.cell 6 (by omega)) (h.free 6) h.hpb (fun hn W' ho => hp hn W' (h.only' ho)) fun n r W' hn hf ho =>
    hr n r _ hn ((h.mid hf ho).set 6 _ rfl (by omega) ⟨(h.mid hf ho).own.d1, (h.mid hf ho).own.d2, (h.mid hf ho).own.fs⟩)
theorem Pz.kind {tb n : Nat} {tbl : List ByteArray} (h : Pz w W fb wb sb ws s d1 d2 fs) (ht : Reads W tb 0 (tbl.map Value.string)) (htb : tb ≠ fb) (hn : n = tbl.length) (hn1 : 1 ≤ n) (hn2 : n ≤ 100)
    (hp : choiceN tbl ws = none → ∀ W', Only w.heap.size (fun k => k = fb ∨ k = sb) w W' → R (.panicked badChain) W')
    (hr : ∀ k r W', choiceN tbl ws = some (k, r) → Pz w W' fb wb sb r { s with kind := (k : Int) } d1 d2 fs → R (.returned (.tuple #[])) W') :
    Calls Tryz.prog 48 #[.pointer (some ⟨fb, 0, none⟩), .pointer (some ⟨sb, 0, none⟩), .slice (some ⟨tb, 0, none⟩) n n] W R :=
  h.form.choice (h.cell 0 (by omega)) (h.free 0) h.hpb ht htb hn hn1 hn2 (fun hn W' ho => hp hn W' (h.only' (only_or ho))) fun n r W' hn hf ho =>
    hr n r _ hn ((h.mid hf ho).set 0 _ rfl (by omega) ⟨(h.mid hf ho).own.d1, (h.mid hf ho).own.d2, (h.mid hf ho).own.fs⟩)
theorem Pz.opKind {tb n : Nat} {tbl : List ByteArray} (h : Pz w W fb wb sb ws s d1 d2 fs) (ht : Reads W tb 0 (tbl.map Value.string)) (htb : tb ≠ fb) (hn : n = tbl.length) (hn1 : 1 ≤ n) (hn2 : n ≤ 100)
    (hp : choiceN tbl ws = none → ∀ W', Only w.heap.size (fun k => k = fb ∨ k = sb) w W' → R (.panicked badChain) W')
    (hr : ∀ k r W', choiceN tbl ws = some (k, r) → Pz w W' fb wb sb r { s with op := { s.op with kind := (k : Int) } } d1 d2 fs → R (.returned (.tuple #[])) W') :
    Calls Tryz.prog 48 #[.pointer (some ⟨fb, 0, none⟩), .pointer (some ⟨sb, 3, none⟩), .slice (some ⟨tb, 0, none⟩) n n] W R :=
  h.form.choice (h.cell 3 (by omega)) (h.free 3) h.hpb ht htb hn hn1 hn2 (fun hn W' ho => hp hn W' (h.only' (only_or ho))) fun n r W' hn hf ho =>
    hr n r _ hn ((h.mid hf ho).set 3 _ rfl (by omega) ⟨(h.mid hf ho).own.d1, (h.mid hf ho).own.d2, (h.mid hf ho).own.fs⟩)
theorem Pz.dataOp {m : Nat} (h : Pz w W fb wb sb ws s (.slice none 0 0) d2 fs) (hm : m ≤ 1000) (hp : dataN m ws = none → ∀ W', Only w.heap.size (fun k => k = fb ∨ k = sb) w W' → R (.panicked badChain) W')
    (hr : ∀ b r d W', dataN m ws = some (b, r) → Pz w W' fb wb sb r { s with op := { s.op with data := b } } d d2 fs → R (.returned (.tuple #[])) W') :
    Calls Tryz.prog 51 #[.pointer (some ⟨fb, 0, none⟩), .pointer (some ⟨sb, 5, none⟩), .int .i64 (m : Int)] W R :=
  h.form.data (h.cell 5 (by omega)) (h.free 5) h.hpb hm (fun hn W' ho => hp hn W' (h.only' ho)) fun b r a c W1 W' hn hf ho hown hW => by
    have hM := h.mid hf ho
    have hown' := own_mono hown h.only.size
    rcases hW with rfl | ⟨rfl, e⟩
    · exact hr b r _ _ hn (hM.set 5 _ rfl (by omega) ⟨hown', hM.own.d2, hM.own.fs⟩)
    · rw [e] at hown'
      exact hr b r _ _ hn ⟨hM.form, hM.row, ⟨hown', hM.own.d2, hM.own.fs⟩, hM.only, hM.lf, hM.ls, hM.ne1, hM.ne2, hM.gs⟩
theorem Pz.dataS {m : Nat} (h : Pz w W fb wb sb ws s d1 (.slice none 0 0) fs) (hm : m ≤ 1000) (hp : dataN m ws = none → ∀ W', Only w.heap.size (fun k => k = fb ∨ k = sb) w W' → R (.panicked badChain) W')
    (hr : ∀ b r d W', dataN m ws = some (b, r) → Pz w W' fb wb sb r { s with data := b } d1 d fs → R (.returned (.tuple #[])) W') :
    Calls Tryz.prog 51 #[.pointer (some ⟨fb, 0, none⟩), .pointer (some ⟨sb, 7, none⟩), .int .i64 (m : Int)] W R :=
  h.form.data (h.cell 7 (by omega)) (h.free 7) h.hpb hm (fun hn W' ho => hp hn W' (h.only' ho)) fun b r a c W1 W' hn hf ho hown hW => by
    have hM := h.mid hf ho
    have hown' := own_mono hown h.only.size
    rcases hW with rfl | ⟨rfl, e⟩
    · exact hr b r _ _ hn (hM.set 7 _ rfl (by omega) ⟨hM.own.d1, hown', hM.own.fs⟩)
    · rw [e] at hown'
      exact hr b r _ _ hn ⟨hM.form, hM.row, ⟨hM.own.d1, hown', hM.own.fs⟩, hM.only, hM.lf, hM.ls, hM.ne1, hM.ne2, hM.gs⟩
theorem Pz.fates (h : Pz w W fb wb sb ws s d1 d2 (.slice none 0 0)) (hp : fatesN ws = none → ∀ W', Only w.heap.size (fun k => k = fb ∨ k = sb) w W' → R (.panicked badChain) W')
    (hr : ∀ l r d W', fatesN ws = some (l, r) → Pz w W' fb wb sb r { s with fates := l } d1 d2 d → R (.returned (.tuple #[])) W') :
    Calls Tryz.prog 52 #[.pointer (some ⟨fb, 0, none⟩), .pointer (some ⟨sb, 8, none⟩)] W R :=
  h.form.fates (h.cell 8 (by omega)) (h.free 8) h.hpb (fun hn W' ho => hp hn W' (h.only' ho)) fun l r a c W' hn hf ho hown hrow => by
    have hown' := own_mono hown h.only.size
    have hS : ∀ k, w.heap.size ≤ k → ¬ (k = fb ∨ k = sb) := by have := h.lf; have := h.ls; intro k hk e; omega
    refine hr l r _ _ hn ⟨hf, (hrow _ _ _ h.row).congr ?_, ⟨own_only h.own.d1 ho (Nat.le_refl _) fun k hk => hS k (h.own.d1.lt k hk).1, own_only h.own.d2 ho (Nat.le_refl _) fun k hk => hS k (h.own.d2.lt k hk).1, hown'⟩, h.only' ho, h.lf, h.ls, h.ne1, h.ne2, h.gs⟩
    intro i hi
    match i, hi with
    | 0, _ => rfl
    | 1, _ => rfl
    | 2, _ => rfl
    | 3, _ => rfl
    | 4, _ => rfl
    | 5, _ => rfl
    | 6, _ => rfl
    | 7, _ => rfl
    | 8, _ => rfl
end
end Go.Proofs.YtgkddjefmonlaaaGreatDoor
