/-
  The frame of a step that is being made (program and reference): the step's variable, the cell of the answer, the source.
-/
import Derived.Test.YtgkddjefmonlaaaGreatDoorScrD2
namespace Go.Proofs.YtgkddjefmonlaaaGreatDoor
open Go.RowKit

def op0 : AOp := ⟨0, 0, [], 0⟩
def fatesAt (l : List UInt8) (p n : Nat) : List Int := (List.range n).map fun i => 256 * ((byt l (p + 2 * i)).toNat : Int) + ((byt l (p + 2 * i + 1)).toNat : Int)
theorem fates_succ (l : List UInt8) (p n : Nat) : fatesAt l p (n + 1) = fatesAt l p n ++ [256 * ((byt l (p + 2 * n)).toNat : Int) + ((byt l (p + 2 * n + 1)).toNat : Int)] := by simp [fatesAt, List.range_succ]
theorem fates_length (l : List UInt8) (p n : Nat) : (fatesAt l p n).length = n := by simp [fatesAt]
def ints (l : List Int) : List Value := l.map (Value.int .i64)
theorem ints_append (l r : List Int) : ints (l ++ r) = ints l ++ ints r := by simp [ints]
theorem ints_one (l : List Int) : ∀ u ∈ ints l, u.oneCell' = true := by
  intro u hu; obtain ⟨_, _, rfl⟩ := List.mem_map.1 hu; rfl

/-- the step that the bytes from a place on make, and the place behind it -/
def stepAt (l : List UInt8) (p : Nat) : AStep × Nat :=
  let k := (byt l p).toNat % 12 + 1
  if k = 1 then (⟨1, ((byt l (p + 1)).toNat % 8 : Nat), 0, (askAt l (p + 2)).1, [], []⟩, (askAt l (p + 2)).2)
  else if k = 2 ∨ k = 3 ∨ k = 6 ∨ k = 11 then (⟨k, (byt l (p + 1)).toNat, 0, op0, [], []⟩, p + 2)
  else if k = 9 then (⟨9, (byt l (p + 1)).toNat, (byt l (p + 2)).toNat, op0, [], []⟩, p + 3)
  else if k = 8 then (⟨8, (byt l (p + 1)).toNat, (byt l (p + 2)).toNat, op0, rowB l (p + 4) ((byt l (p + 3)).toNat % 9), []⟩, p + 4 + (byt l (p + 3)).toNat % 9)
  else if k = 7 then (⟨7, (byt l (p + 1)).toNat, 0, op0, [], fatesAt l (p + 3) ((byt l (p + 2)).toNat % 5)⟩, p + 3 + 2 * ((byt l (p + 2)).toNat % 5))
  else if k = 12 then (⟨12, ((byt l (p + 1)).toNat % 8 : Nat), 0, ⟨0, 0, [], (beN (rowB l (p + 2) 8)).toNat⟩, [], []⟩, p + 10)
  else (⟨k, 0, 0, op0, [], []⟩, p + 1)

/-- the cells of a step -/
def stF (vs : List Value) (i : Nat) : Value := vs.getD i undef
def stVals (s : AStep) (d1 d2 fs : Value) : List Value := [.int .i64 s.kind, .int .i64 s.a, .int .i64 s.b, .int .i64 s.op.kind, .int .i64 s.op.page, d1, .float .f64 s.op.by_, d2, fs]
/-- the rows that a step's cells lead to -/
structure StOwn (w : World) (base : Nat) (s : AStep) (d1 d2 fs : Value) : Prop where
  d1 : w.ownsRow base 5 1 d1 s.op.data.length (bs s.op.data)
  d2 : w.ownsRow base 5 1 d2 s.data.length (bs s.data)
  fs : w.ownsRow base 3 1 fs s.fates.length (ints s.fates)

/-- what a source's predicate must bear: nothing up to its own block is written -/
def Kept (Src : World → Nat → Prop) (sb : Nat) : Prop := ∀ (W W' : World) (q : Nat) (S : Nat → Prop), Src W q → Only W.heap.size S W W' → (∀ k, k ≤ sb → ¬ S k) → Src W' q

structure StSt (Src : World → Nat → Prop) (w W : World) (sb xb q : Nat) (f : Nat → Value) : Prop where
  row : W.rowIs xb 29 9 f
  res : ∃ g, W.rowIs w.heap.size 29 9 g
  src : Src W q
  only : Only w.heap.size (· = sb) w W
  sb : sb < w.heap.size
  xb : w.heap.size < xb

section
variable {Src : World → Nat → Prop} {w W W' : World} {sb xb q q' : Nat} {f : Nat → Value} {v0 v1 v2 v3 v4 v5 v6 v7 v8 : Value}
theorem StSt.call (h : StSt Src w W sb xb q f) (hs : Src W' q') (ho : Only W.heap.size (· = sb) W W') : StSt Src w W' sb xb q' f :=
  ⟨h.row.of_block (ho.block _ h.row.lt (by have := h.sb; have := h.xb; show xb ≠ sb; omega)), h.res.elim fun g hg => ⟨g, hg.of_block (ho.block _ hg.lt (by have := h.sb; show w.heap.size ≠ sb; omega))⟩, hs, h.only.trans (ho.mono h.only.size), h.sb, h.xb⟩
theorem StSt.alloc (hK : Kept Src sb) (h : StSt Src w W sb xb q f) (o : Obj) : StSt Src w (W.alloc o) sb xb q f :=
  ⟨h.row.alloc o, h.res.elim fun g hg => ⟨g, hg.alloc o⟩, hK W _ q (fun _ => False) h.src ((Only.refl _ _ _).alloc (Nat.le_refl _) o) (fun _ _ => id), h.only.alloc h.only.size o, h.sb, h.xb⟩
theorem StSt.grown (hK : Kept Src sb) {row : Option Nat} (h : StSt Src w W sb xb q f) (hg : W.grownBy W' row) (hr : ∀ k, row = some k → w.heap.size < k ∧ k ≠ xb) : StSt Src w W' sb xb q f :=
  ⟨h.row.of_block (hg.block _ h.row.lt (fun e => (hr xb e.symm).2 rfl)), h.res.elim fun g hg' => ⟨g, hg'.of_block (hg.block _ hg'.lt (fun e => by have := (hr _ e.symm).1; omega))⟩,
   hK W _ q (fun k => w.heap.size < k) h.src ((Only.refl _ _ _).grown hg (Nat.le_refl _) (fun k hk => .inr (hr k hk).1)) (by have := h.sb; intro k hk; omega), h.only.grown hg h.only.size (fun k hk => .inl (Nat.le_of_lt (hr k hk).1)), h.sb, h.xb⟩
theorem StSt.set (hK : Kept Src sb) (h : StSt Src w W sb xb q f) (i : Nat) (v : Value) (g : Nat → Value) (hg : ∀ j, j < 9 → (if j = i then v else f j) = g j) : StSt Src w (W.setCell ⟨xb, i, none⟩ v) sb xb q g :=
  ⟨(h.row.set i v).congr hg, h.res.elim fun g hg => ⟨g, row_oth hg (by have := h.xb; omega) v⟩, hK W _ q (fun k => k = xb) h.src (Only.setCell (S := fun k => k = xb) (p := ⟨xb, i, none⟩) (Only.refl W.heap.size _ W) (.inr rfl) _) (by have := h.sb; have := h.xb; intro k hk; omega), h.only.setCell (.inl (Nat.le_of_lt h.xb)) v, h.sb, h.xb⟩
theorem StSt.rset (hK : Kept Src sb) (h : StSt Src w W sb xb q f) (i : Nat) (v : Value) : StSt Src w (W.setCell ⟨w.heap.size, i, none⟩ v) sb xb q f :=
  ⟨row_oth h.row (by have := h.xb; omega) v, h.res.elim fun g hg => ⟨_, hg.set i v⟩, hK W _ q (fun k => k = w.heap.size) h.src (Only.setCell (S := fun k => k = w.heap.size) (p := ⟨w.heap.size, i, none⟩) (Only.refl W.heap.size _ W) (.inr rfl) _) (by have := h.sb; intro k hk; omega), h.only.setCell (.inl (Nat.le_refl _)) v, h.sb, h.xb⟩

theorem StSt.set0 (hK : Kept Src sb) (h : StSt Src w W sb xb q (stF [v0, v1, v2, v3, v4, v5, v6, v7, v8])) (u : Value) : StSt Src w (W.setCell ⟨xb, 0, none⟩ u) sb xb q (stF [u, v1, v2, v3, v4, v5, v6, v7, v8]) :=
  h.set hK 0 _ _ fun j hj => match j, hj with
    | 0, _ => rfl
    | 1, _ => rfl
    | 2, _ => rfl
    | 3, _ => rfl
    | 4, _ => rfl
    | 5, _ => rfl
    | 6, _ => rfl
    | 7, _ => rfl
    | 8, _ => rfl
theorem StSt.set1 (hK : Kept Src sb) (h : StSt Src w W sb xb q (stF [v0, v1, v2, v3, v4, v5, v6, v7, v8])) (u : Value) : StSt Src w (W.setCell ⟨xb, 1, none⟩ u) sb xb q (stF [v0, u, v2, v3, v4, v5, v6, v7, v8]) :=
  h.set hK 1 _ _ fun j hj => match j, hj with
    | 0, _ => rfl
    | 1, _ => rfl
    | 2, _ => rfl
    | 3, _ => rfl
    | 4, _ => rfl
    | 5, _ => rfl
    | 6, _ => rfl
    | 7, _ => rfl
    | 8, _ => rfl
theorem StSt.set2 (hK : Kept Src sb) (h : StSt Src w W sb xb q (stF [v0, v1, v2, v3, v4, v5, v6, v7, v8])) (u : Value) : StSt Src w (W.setCell ⟨xb, 2, none⟩ u) sb xb q (stF [v0, v1, u, v3, v4, v5, v6, v7, v8]) :=
  h.set hK 2 _ _ fun j hj => match j, hj with
    | 0, _ => rfl
    | 1, _ => rfl
    | 2, _ => rfl
    | 3, _ => rfl
    | 4, _ => rfl
    | 5, _ => rfl
    | 6, _ => rfl
    | 7, _ => rfl
    | 8, _ => rfl
theorem StSt.set3 (hK : Kept Src sb) (h : StSt Src w W sb xb q (stF [v0, v1, v2, v3, v4, v5, v6, v7, v8])) (u : Value) : StSt Src w (W.setCell ⟨xb, 3, none⟩ u) sb xb q (stF [v0, v1, v2, u, v4, v5, v6, v7, v8]) :=
  h.set hK 3 _ _ fun j hj => match j, hj with
    | 0, _ => rfl
    | 1, _ => rfl
    | 2, _ => rfl
    | 3, _ => rfl
    | 4, _ => rfl
    | 5, _ => rfl
    | 6, _ => rfl
    | 7, _ => rfl
    | 8, _ => rfl
theorem StSt.set4 (hK : Kept Src sb) (h : StSt Src w W sb xb q (stF [v0, v1, v2, v3, v4, v5, v6, v7, v8])) (u : Value) : StSt Src w (W.setCell ⟨xb, 4, none⟩ u) sb xb q (stF [v0, v1, v2, v3, u, v5, v6, v7, v8]) :=
  h.set hK 4 _ _ fun j hj => match j, hj with
    | 0, _ => rfl
    | 1, _ => rfl
    | 2, _ => rfl
    | 3, _ => rfl
    | 4, _ => rfl
    | 5, _ => rfl
    | 6, _ => rfl
    | 7, _ => rfl
    | 8, _ => rfl
theorem StSt.set5 (hK : Kept Src sb) (h : StSt Src w W sb xb q (stF [v0, v1, v2, v3, v4, v5, v6, v7, v8])) (u : Value) : StSt Src w (W.setCell ⟨xb, 5, none⟩ u) sb xb q (stF [v0, v1, v2, v3, v4, u, v6, v7, v8]) :=
  h.set hK 5 _ _ fun j hj => match j, hj with
    | 0, _ => rfl
    | 1, _ => rfl
    | 2, _ => rfl
    | 3, _ => rfl
    | 4, _ => rfl
    | 5, _ => rfl
    | 6, _ => rfl
    | 7, _ => rfl
    | 8, _ => rfl
theorem StSt.set6 (hK : Kept Src sb) (h : StSt Src w W sb xb q (stF [v0, v1, v2, v3, v4, v5, v6, v7, v8])) (u : Value) : StSt Src w (W.setCell ⟨xb, 6, none⟩ u) sb xb q (stF [v0, v1, v2, v3, v4, v5, u, v7, v8]) :=
  h.set hK 6 _ _ fun j hj => match j, hj with
    | 0, _ => rfl
    | 1, _ => rfl
    | 2, _ => rfl
    | 3, _ => rfl
    | 4, _ => rfl
    | 5, _ => rfl
    | 6, _ => rfl
    | 7, _ => rfl
    | 8, _ => rfl
theorem StSt.set7 (hK : Kept Src sb) (h : StSt Src w W sb xb q (stF [v0, v1, v2, v3, v4, v5, v6, v7, v8])) (u : Value) : StSt Src w (W.setCell ⟨xb, 7, none⟩ u) sb xb q (stF [v0, v1, v2, v3, v4, v5, v6, u, v8]) :=
  h.set hK 7 _ _ fun j hj => match j, hj with
    | 0, _ => rfl
    | 1, _ => rfl
    | 2, _ => rfl
    | 3, _ => rfl
    | 4, _ => rfl
    | 5, _ => rfl
    | 6, _ => rfl
    | 7, _ => rfl
    | 8, _ => rfl
theorem StSt.set8 (hK : Kept Src sb) (h : StSt Src w W sb xb q (stF [v0, v1, v2, v3, v4, v5, v6, v7, v8])) (u : Value) : StSt Src w (W.setCell ⟨xb, 8, none⟩ u) sb xb q (stF [v0, v1, v2, v3, v4, v5, v6, v7, u]) :=
  h.set hK 8 _ _ fun j hj => match j, hj with
    | 0, _ => rfl
    | 1, _ => rfl
    | 2, _ => rfl
    | 3, _ => rfl
    | 4, _ => rfl
    | 5, _ => rfl
    | 6, _ => rfl
    | 7, _ => rfl
    | 8, _ => rfl
theorem StSt.cells (h : StSt Src w W sb xb q (stF [v0, v1, v2, v3, v4, v5, v6, v7, v8])) :
    W.cell? ⟨xb, 0, none⟩ = some v0 ∧ W.cell? ⟨xb, 1, none⟩ = some v1 ∧ W.cell? ⟨xb, 2, none⟩ = some v2 ∧ W.cell? ⟨xb, 3, none⟩ = some v3 ∧ W.cell? ⟨xb, 4, none⟩ = some v4 ∧ W.cell? ⟨xb, 5, none⟩ = some v5 ∧ W.cell? ⟨xb, 6, none⟩ = some v6 ∧ W.cell? ⟨xb, 7, none⟩ = some v7 ∧ W.cell? ⟨xb, 8, none⟩ = some v8 ∧
    W.frozen? ⟨xb, 0, none⟩ = false ∧ W.frozen? ⟨xb, 1, none⟩ = false ∧ W.frozen? ⟨xb, 2, none⟩ = false ∧ W.frozen? ⟨xb, 3, none⟩ = false ∧ W.frozen? ⟨xb, 4, none⟩ = false ∧ W.frozen? ⟨xb, 5, none⟩ = false ∧ W.frozen? ⟨xb, 6, none⟩ = false ∧ W.frozen? ⟨xb, 7, none⟩ = false ∧ W.frozen? ⟨xb, 8, none⟩ = false :=
  ⟨h.row.cell (i := 0) (by omega), h.row.cell (i := 1) (by omega), h.row.cell (i := 2) (by omega), h.row.cell (i := 3) (by omega), h.row.cell (i := 4) (by omega), h.row.cell (i := 5) (by omega), h.row.cell (i := 6) (by omega), h.row.cell (i := 7) (by omega), h.row.cell (i := 8) (by omega), h.row.frozen 0, h.row.frozen 1, h.row.frozen 2, h.row.frozen 3, h.row.frozen 4, h.row.frozen 5, h.row.frozen 6, h.row.frozen 7, h.row.frozen 8⟩
theorem StSt.rcells (h : StSt Src w W sb xb q f) : ∃ g : Nat → Value,
    W.cell? ⟨w.heap.size, 0, none⟩ = some (g 0) ∧ W.cell? ⟨w.heap.size, 1, none⟩ = some (g 1) ∧ W.cell? ⟨w.heap.size, 2, none⟩ = some (g 2) ∧ W.cell? ⟨w.heap.size, 3, none⟩ = some (g 3) ∧ W.cell? ⟨w.heap.size, 4, none⟩ = some (g 4) ∧ W.cell? ⟨w.heap.size, 5, none⟩ = some (g 5) ∧ W.cell? ⟨w.heap.size, 6, none⟩ = some (g 6) ∧ W.cell? ⟨w.heap.size, 7, none⟩ = some (g 7) ∧ W.cell? ⟨w.heap.size, 8, none⟩ = some (g 8) ∧
    W.frozen? ⟨w.heap.size, 0, none⟩ = false ∧ W.frozen? ⟨w.heap.size, 1, none⟩ = false ∧ W.frozen? ⟨w.heap.size, 2, none⟩ = false ∧ W.frozen? ⟨w.heap.size, 3, none⟩ = false ∧ W.frozen? ⟨w.heap.size, 4, none⟩ = false ∧ W.frozen? ⟨w.heap.size, 5, none⟩ = false ∧ W.frozen? ⟨w.heap.size, 6, none⟩ = false ∧ W.frozen? ⟨w.heap.size, 7, none⟩ = false ∧ W.frozen? ⟨w.heap.size, 8, none⟩ = false := by
  obtain ⟨g, h⟩ := h.res
  exact ⟨g, h.cell (i := 0) (by omega), h.cell (i := 1) (by omega), h.cell (i := 2) (by omega), h.cell (i := 3) (by omega), h.cell (i := 4) (by omega), h.cell (i := 5) (by omega), h.cell (i := 6) (by omega), h.cell (i := 7) (by omega), h.cell (i := 8) (by omega), h.frozen 0, h.frozen 1, h.frozen 2, h.frozen 3, h.frozen 4, h.frozen 5, h.frozen 6, h.frozen 7, h.frozen 8⟩
/-- the answer is laid -/
def fin9 (W : World) (b : Nat) (v0 v1 v2 v3 v4 v5 v6 v7 v8 : Value) : World := (((((((((W.setCell ⟨b, 0, none⟩ v0).setCell ⟨b, 1, none⟩ v1).setCell ⟨b, 2, none⟩ v2).setCell ⟨b, 3, none⟩ v3).setCell ⟨b, 4, none⟩ v4).setCell ⟨b, 5, none⟩ v5).setCell ⟨b, 6, none⟩ v6).setCell ⟨b, 7, none⟩ v7).setCell ⟨b, 8, none⟩ v8)
theorem StSt.res9 (h : StSt Src w W sb xb q f) (v0 v1 v2 v3 v4 v5 v6 v7 v8 : Value) : (fin9 W w.heap.size v0 v1 v2 v3 v4 v5 v6 v7 v8).rangeAt w.heap.size 0 [v0, v1, v2, v3, v4, v5, v6, v7, v8] := by
  obtain ⟨g, hg⟩ := h.res
  refine rowIs_range (((((((((hg.set 0 v0).set 1 v1).set 2 v2).set 3 v3).set 4 v4).set 5 v5).set 6 v6).set 7 v7).set 8 v8) _ rfl ?_
  intro i hi
  match i, hi with
  | 0, _ => rfl
  | 1, _ => rfl
  | 2, _ => rfl
  | 3, _ => rfl
  | 4, _ => rfl
  | 5, _ => rfl
  | 6, _ => rfl
  | 7, _ => rfl
  | 8, _ => rfl
theorem StSt.fin (hK : Kept Src sb) (h : StSt Src w W sb xb q f) (v0 v1 v2 v3 v4 v5 v6 v7 v8 : Value) : StSt Src w (fin9 W w.heap.size v0 v1 v2 v3 v4 v5 v6 v7 v8) sb xb q f :=
  (StSt.rset hK (StSt.rset hK (StSt.rset hK (StSt.rset hK (StSt.rset hK (StSt.rset hK (StSt.rset hK (StSt.rset hK (StSt.rset hK h 0 v0) 1 v1) 2 v2) 3 v3) 4 v4) 5 v5) 6 v6) 7 v7) 8 v8)
theorem StSt.own {n : Nat} {d : Value} {xs : List Value} {e : TypeId} (h : StSt Src w W sb xb q f) (he : e ≠ 29) (ho : W.ownsRow w.heap.size e 1 d n xs) (v0 v1 v2 v3 v4 v5 v6 v7 v8 : Value) : (fin9 W w.heap.size v0 v1 v2 v3 v4 v5 v6 v7 v8).ownsRow w.heap.size e 1 d n xs := by
  obtain ⟨g, hg⟩ := h.res
  have := own_ne_row ho hg he
  exact (ownsRow_set (ownsRow_set (ownsRow_set (ownsRow_set (ownsRow_set (ownsRow_set (ownsRow_set (ownsRow_set (ownsRow_set ho this v0) this v1) this v2) this v3) this v4) this v5) this v6) this v7) this v8)
theorem StSt.start (hK : Kept Src sb) (hr : W.rowIs w.heap.size 29 9 f) (hs : Src W q) (ho : Only w.heap.size (· = sb) w W) (hsb : sb < w.heap.size) :
    StSt Src w (W.alloc (.cells #[v0, v1, v2, v3, v4, v5, v6, v7, v8] 29)) sb W.heap.size q (stF [v0, v1, v2, v3, v4, v5, v6, v7, v8]) := by
  refine ⟨?_, ⟨f, hr.alloc _⟩, hK W _ q (fun _ => False) hs ((Only.refl _ _ _).alloc (Nat.le_refl _) _) (fun _ _ => id), ho.alloc ho.size _, hsb, hr.lt⟩
  refine World.rowIs_alloc W _ _ _ ?_
  intro i hi
  match i, hi with
  | 0, _ => rfl
  | 1, _ => rfl
  | 2, _ => rfl
  | 3, _ => rfl
  | 4, _ => rfl
  | 5, _ => rfl
  | 6, _ => rfl
  | 7, _ => rfl
  | 8, _ => rfl
theorem step_alloc {w w0 : World} (h : w.alloc (.cells #[.int .i64 0, .int .i64 0, .int .i64 0, .int .i64 0, .int .i64 0, .slice none 0 0, .float .f64 0, .slice none 0 0, .slice none 0 0] 29) = w0) :
    w0.rowIs w.heap.size 29 9 (stF [.int .i64 0, .int .i64 0, .int .i64 0, .int .i64 0, .int .i64 0, .slice none 0 0, .float .f64 0, .slice none 0 0, .slice none 0 0]) ∧ Below w.heap.size w w0 ∧ w0.heap.size = w.heap.size + 1 := by
  subst h
  refine ⟨World.rowIs_alloc w _ _ _ ?_, (Below.refl _ _).alloc (Nat.le_refl _) _, by simp⟩
  intro i hi
  match i, hi with
  | 0, _ => rfl
  | 1, _ => rfl
  | 2, _ => rfl
  | 3, _ => rfl
  | 4, _ => rfl
  | 5, _ => rfl
  | 6, _ => rfl
  | 7, _ => rfl
  | 8, _ => rfl
end
theorem Tryz.sizeStep : (Tryz.prog.info? 29).map (·.size) = some 9 := by kernel_rfl
theorem kept_src (sb : Nat) (l : List UInt8) : Kept (fun W q => SrcAt W sb (l.drop q)) sb := fun _ _ _ _ h ho hn => h.only ho (Nat.le_refl _) hn
end Go.Proofs.YtgkddjefmonlaaaGreatDoor
