/-
  The program's step of layer 25.
-/
import Derived.Test.YtgkddjefmonlaaaGreatDoorScrD3
import Derived.Test.YtgkddjefmonlaaaGreatDoorStep
namespace Go.Proofs.YtgkddjefmonlaaaGreatDoor
open Go.RowKit

/-- the program's source -/
abbrev PS (sb : Nat) (l : List UInt8) : World → Nat → Prop := fun W q => SrcAt W sb (l.drop q)

section
variable {w W W' : World} {sb xb q q' : Nat} {f : Nat → Value} {l : List UInt8}
theorem StSt.next {R : Ending → World → Prop} (h : StSt (PS sb l) w W sb xb q f) (hk : ∀ W', StSt (PS sb l) w W' sb xb (q + 1) f → R (.returned (.int .i64 ((byt l q).toNat : Int))) W') :
    Calls Tryz.prog 57 #[.pointer (some ⟨sb, 0, none⟩)] W R :=
  (src_at sb l q W h.src).mono (by rintro e W' ⟨rfl, h1, h2⟩; exact hk W' (h.call h1 h2))
theorem StSt.c8 {v0 v1 v2 v3 v4 v5 v6 v7 v8 : Value} {Src : World → Nat → Prop} (h : StSt Src w W sb xb q (stF [v0, v1, v2, v3, v4, v5, v6, v7, v8])) : W.cell? ⟨xb, 8, none⟩ = some v8 := h.row.cell (i := 8) (by omega)
theorem StSt.z8 {Src : World → Nat → Prop} (h : StSt Src w W sb xb q f) : W.frozen? ⟨xb, 8, none⟩ = false := h.row.frozen 8
theorem StSt.drew (h : StSt (PS sb l) w W sb xb q f) : StSt (PS sb l) w W.drew sb xb q f :=
  ⟨h.row, h.res, h.src.below (B := W.heap.size) ⟨rfl, rfl, rfl, Nat.le_refl _, fun _ _ => rfl⟩ (Nat.le_refl _), h.only.drew, h.sb, h.xb⟩
theorem StSt.nextC {e : TypeId} {v : Value} {n : Nat} {xs : List Value} (h : StSt (PS sb l) w W sb xb q f) (ho : W.ownsRow w.heap.size e 1 v n xs) :
    Calls Tryz.prog 57 #[.pointer (some ⟨sb, 0, none⟩)] W fun E W' => E = .returned (.int .i64 ((byt l q).toNat : Int)) ∧ StSt (PS sb l) w W' sb xb (q + 1) f ∧ W'.ownsRow w.heap.size e 1 v n xs :=
  (src_at sb l q W h.src).mono (by rintro e W' ⟨rfl, h1, h2⟩; exact ⟨rfl, h.call h1 h2, own_only ho h2 (Nat.le_refl _) (by intro k hk e; have := (ho.lt k hk).1; have := h.sb; omega)⟩)
theorem StSt.nextO {R : Ending → World → Prop} {e : TypeId} {v : Value} {n : Nat} {xs : List Value} (h : StSt (PS sb l) w W sb xb q f) (ho : W.ownsRow w.heap.size e 1 v n xs) (hk : ∀ W', StSt (PS sb l) w W' sb xb (q + 1) f → W'.ownsRow w.heap.size e 1 v n xs → R (.returned (.int .i64 ((byt l q).toNat : Int))) W') :
    Calls Tryz.prog 57 #[.pointer (some ⟨sb, 0, none⟩)] W R :=
  (src_at sb l q W h.src).mono (by rintro e W' ⟨rfl, h1, h2⟩; exact hk W' (h.call h1 h2) (own_only ho h2 (Nat.le_refl _) (by intro k hk e; have := (ho.lt k hk).1; have := h.sb; omega)))
theorem StSt.number {R : Ending → World → Prop} (h : StSt (PS sb l) w W sb xb q f) (hk : ∀ W', StSt (PS sb l) w W' sb xb (q + 8) f → R (.returned (.float .f64 (beN (rowB l q 8)).toNat)) W') :
    Calls Tryz.prog 60 #[.pointer (some ⟨sb, 0, none⟩)] W R :=
  (src_number sb l q W h.src).mono (by rintro e W' ⟨rfl, h1, h2⟩; exact hk W' (h.call h1 h2))
theorem StSt.some_ {R : Ending → World → Prop} (h : StSt (PS sb l) w W sb xb q f)
    (hk : ∀ a c W', W'.ownsRow w.heap.size 5 1 (.slice a ((byt l q).toNat % 9) c) ((byt l q).toNat % 9) (bs (rowB l (q + 1) ((byt l q).toNat % 9))) → StSt (PS sb l) w W' sb xb (q + 1 + (byt l q).toNat % 9) f → R (.returned (.slice a ((byt l q).toNat % 9) c)) W') :
    Calls Tryz.prog 59 #[.pointer (some ⟨sb, 0, none⟩), .int .i64 9] W R :=
  (src_some sb l q W h.src).mono (by
    rintro e W' ⟨v, rfl, ho, h1, h2⟩
    obtain ⟨a, c, rfl, -⟩ := ownsRow_bs ho
    exact hk a c W' (own_mono ho h.only.size) (h.call h1 h2))
theorem StSt.ask {R : Ending → World → Prop} (h : StSt (PS sb l) w W sb xb q f)
    (hk : ∀ a c W', W'.ownsRow w.heap.size 5 1 (.slice a (askAt l q).1.data.length c) (askAt l q).1.data.length (bs (askAt l q).1.data) → StSt (PS sb l) w W' sb xb (askAt l q).2 f →
      R (.returned (.agg #[.int .i64 (askAt l q).1.kind, .int .i64 (askAt l q).1.page, .slice a (askAt l q).1.data.length c, .float .f64 (askAt l q).1.by_])) W') :
    Calls Tryz.prog 58 #[.pointer (some ⟨sb, 0, none⟩)] W R :=
  (src_ask sb l q W h.src).mono (by
    rintro e W' ⟨v, rfl, ho, h1, h2⟩
    obtain ⟨a, c, rfl, -⟩ := ownsRow_bs ho
    exact hk a c W' (own_mono ho h.only.size) (h.call h1 h2))
theorem StSt.ret {a : Act} {p : Nat} (H : StSt (PS sb l) w W sb xb q f) (s : AStep) (d1 d2 fs : Value) (hs : stepAt l p = (s, q)) (ht : a.tmps.getD 2 undef = .pointer (some ⟨w.heap.size, 0, none⟩)) (hd : a.defers = [])
    (o1 : W.ownsRow w.heap.size 5 1 d1 s.op.data.length (bs s.op.data)) (o2 : W.ownsRow w.heap.size 5 1 d2 s.data.length (bs s.data)) (o3 : W.ownsRow w.heap.size 3 1 fs s.fates.length (ints s.fates)) :
    bodyPost Tryz.prog Tryz.f35 (fun e w' => ∃ d1 d2 fs, e = .returned (.agg (stVals (stepAt l p).1 d1 d2 fs).toArray) ∧ StOwn w' w.heap.size (stepAt l p).1 d1 d2 fs ∧ SrcAt w' sb (l.drop (stepAt l p).2) ∧ Only w.heap.size (· = sb) w w') .ret a
      (fin9 W w.heap.size (.int .i64 s.kind) (.int .i64 s.a) (.int .i64 s.b) (.int .i64 s.op.kind) (.int .i64 s.op.page) d1 (.float .f64 s.op.by_) d2 fs) := by
  refine bodyPost_ret (results_cell_mid (by rfl) _ _ w.heap.size (stVals s d1 d2 fs) _ ht (H.res9 _ _ _ _ _ _ _ _ _) Tryz.underlying29 rfl Tryz.sizeStep) hd ?_
  rw [hs]
  have hF := H.fin (kept_src sb l) (.int .i64 s.kind) (.int .i64 s.a) (.int .i64 s.b) (.int .i64 s.op.kind) (.int .i64 s.op.page) d1 (.float .f64 s.op.by_) d2 fs
  exact ⟨d1, d2, fs, rfl, ⟨H.own (by decide) o1 _ _ _ _ _ _ _ _ _, H.own (by decide) o2 _ _ _ _ _ _ _ _ _, H.own (by decide) o3 _ _ _ _ _ _ _ _ _⟩, hF.src, hF.only⟩
end

theorem Tryz.info3 : (Tryz.prog.info? 3).map (fun i => (i.zero, i.size, i.bytes)) = some (some (.int .i64 0), 1, 8) := by kernel_rfl

end Go.Proofs.YtgkddjefmonlaaaGreatDoor
