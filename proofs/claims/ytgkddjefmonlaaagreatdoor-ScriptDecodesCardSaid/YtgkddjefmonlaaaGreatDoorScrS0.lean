/-
  The frame of the reference's step.
-/
import Derived.Test.YtgkddjefmonlaaaGreatDoorScrR
namespace Go.Proofs.YtgkddjefmonlaaaGreatDoor
open Go.RowKit

section
variable {Src : World → Nat → Prop} {w W W' : World} {sb xb q q' : Nat} {f : Nat → Value} {l : List UInt8}
theorem StSt.nextR {R : Ending → World → Prop} (h : StSt (RS sb l) w W sb xb q f) (hq : q ≤ 1000000000000000) (hk : ∀ W', StSt (RS sb l) w W' sb xb (q + 1) f → R (.returned (.int .i64 ((byt l q).toNat : Int))) W') :
    Calls Tryz.prog 61 #[.pointer (some ⟨sb, 0, none⟩)] W R :=
  (rs_next sb l q W h.src hq).mono (by rintro e W' ⟨rfl, h1, h2⟩; exact hk W' (h.call h1 h2))
theorem StSt.realR {R : Ending → World → Prop} (h : StSt (RS sb l) w W sb xb q f) (hq : q ≤ 999999999999000) (hk : ∀ W', StSt (RS sb l) w W' sb xb (q + 8) f → R (.returned (.float .f64 (beN (rowB l q 8)).toNat)) W') :
    Calls Tryz.prog 63 #[.pointer (some ⟨sb, 0, none⟩)] W R :=
  (rs_real sb l q W h.src hq (by have := h.sb; have := h.only.size; omega)).mono (by rintro e W' ⟨rfl, h1, h2⟩; exact hk W' (h.call h1 h2))
theorem StSt.someR {R : Ending → World → Prop} (h : StSt (RS sb l) w W sb xb q f) (hq : q ≤ 999999999999000)
    (hk : ∀ a c W', W'.ownsRow w.heap.size 5 1 (.slice a ((byt l q).toNat % 9) c) ((byt l q).toNat % 9) (bs (rowB l (q + 1) ((byt l q).toNat % 9))) → StSt (RS sb l) w W' sb xb (q + 1 + (byt l q).toNat % 9) f → R (.returned (.slice a ((byt l q).toNat % 9) c)) W') :
    Calls Tryz.prog 62 #[.pointer (some ⟨sb, 0, none⟩)] W R :=
  (rs_some sb l q W h.src hq (by have := h.sb; have := h.only.size; omega)).mono (by
    rintro e W' ⟨v, rfl, ho, h1, h2⟩
    obtain ⟨a, c, rfl, -⟩ := ownsRow_bs ho
    exact hk a c W' (own_mono ho h.only.size) (h.call h1 h2))
theorem StSt.retG (hK : Kept Src sb) {fn : Func} {t : Tmp} (hfn : fn.results = #[.cell t 29]) {a : Act} (H : StSt Src w W sb xb q f) (st : AStep × Nat) (s : AStep) (d1 d2 fs : Value) (hs : st = (s, q)) (ht : a.tmps.getD t undef = .pointer (some ⟨w.heap.size, 0, none⟩)) (hd : a.defers = [])
    (o1 : W.ownsRow w.heap.size 5 1 d1 s.op.data.length (bs s.op.data)) (o2 : W.ownsRow w.heap.size 5 1 d2 s.data.length (bs s.data)) (o3 : W.ownsRow w.heap.size 3 1 fs s.fates.length (ints s.fates)) :
    bodyPost Tryz.prog fn (fun e w' => ∃ d1 d2 fs, e = .returned (.agg (stVals st.1 d1 d2 fs).toArray) ∧ StOwn w' w.heap.size st.1 d1 d2 fs ∧ Src w' st.2 ∧ Only w.heap.size (· = sb) w w') .ret a
      (fin9 W w.heap.size (.int .i64 s.kind) (.int .i64 s.a) (.int .i64 s.b) (.int .i64 s.op.kind) (.int .i64 s.op.page) d1 (.float .f64 s.op.by_) d2 fs) := by
  subst hs
  refine bodyPost_ret (results_cell_mid hfn _ _ w.heap.size (stVals s d1 d2 fs) _ ht (H.res9 _ _ _ _ _ _ _ _ _) Tryz.underlying29 rfl Tryz.sizeStep) hd ?_
  have hF := H.fin hK (.int .i64 s.kind) (.int .i64 s.a) (.int .i64 s.b) (.int .i64 s.op.kind) (.int .i64 s.op.page) d1 (.float .f64 s.op.by_) d2 fs
  exact ⟨d1, d2, fs, rfl, ⟨H.own (by decide) o1 _ _ _ _ _ _ _ _ _, H.own (by decide) o2 _ _ _ _ _ _ _ _ _, H.own (by decide) o3 _ _ _ _ _ _ _ _ _⟩, hF.src, hF.only⟩
theorem StSt.startR (hK : Kept Src sb) (hs : Src w q) (hsb : sb < w.heap.size)
    (hW : (w.alloc (.cells #[.int .i64 0, .int .i64 0, .int .i64 0, .int .i64 0, .int .i64 0, .slice none 0 0, .float .f64 0, .slice none 0 0, .slice none 0 0] 29)).alloc (.cells #[.int .i64 0, .int .i64 0, .int .i64 0, .int .i64 0, .int .i64 0, .slice none 0 0, .float .f64 0, .slice none 0 0, .slice none 0 0] 29) = W) :
    StSt Src w W sb (w.heap.size + 1) q (stF [.int .i64 0, .int .i64 0, .int .i64 0, .int .i64 0, .int .i64 0, .slice none 0 0, .float .f64 0, .slice none 0 0, .slice none 0 0]) := by
  subst hW
  obtain ⟨hr, hb, hsz⟩ := step_alloc (w := w) rfl
  have h1 : Src (w.alloc (.cells #[.int .i64 0, .int .i64 0, .int .i64 0, .int .i64 0, .int .i64 0, .slice none 0 0, .float .f64 0, .slice none 0 0, .slice none 0 0] 29)) q := hK w _ q (fun _ => False) hs (Only.of_below hb) (fun _ _ => id)
  have := StSt.start (w := w) hK hr h1 (Only.of_below hb) hsb (v0 := .int .i64 0) (v1 := .int .i64 0) (v2 := .int .i64 0) (v3 := .int .i64 0) (v4 := .int .i64 0) (v5 := .slice none 0 0) (v6 := .float .f64 0) (v7 := .slice none 0 0) (v8 := .slice none 0 0)
  rw [hsz] at this
  exact this
end

end Go.Proofs.YtgkddjefmonlaaaGreatDoor
