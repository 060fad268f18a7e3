/-
  The program's Decode of layer 25, second part: what is asked for, a step, the script.
-/
import Derived.Test.YtgkddjefmonlaaaGreatDoorScrD
namespace Go.Proofs.YtgkddjefmonlaaaGreatDoor
open Go.RowKit

/-- what is asked for, and a step, as plain data -/
structure AOp where
  kind : Int
  page : Int
  data : List UInt8
  by_ : Nat
structure AStep where
  kind : Int
  a : Int
  b : Int
  op : AOp
  data : List UInt8
  fates : List Int

def askAt (l : List UInt8) (p : Nat) : AOp × Nat :=
  let k := (byt l p).toNat % 6 + 1
  if k = 1 then (⟨k, (byt l (p + 1)).toNat, [], 0⟩, p + 2)
  else if k = 2 then (⟨k, (byt l (p + 1)).toNat, rowB l (p + 3) ((byt l (p + 2)).toNat % 9), 0⟩, p + 3 + (byt l (p + 2)).toNat % 9)
  else if k = 5 then (⟨k, (byt l (p + 1)).toNat, [], (beN (rowB l (p + 2) 8)).toNat⟩, p + 10)
  else (⟨k, 0, [], 0⟩, p + 1)

def opF (kind page : Int) (v : Value) (by_ : Nat) : Nat → Value
  | 0 => .int .i64 kind
  | 1 => .int .i64 page
  | 2 => v
  | _ => .float .f64 by_
theorem op_alloc {w w0 : World} (h : w.alloc (.cells #[.int .i64 0, .int .i64 0, .slice none 0 0, .float .f64 0] 26) = w0) :
    w0.rowIs w.heap.size 26 4 (opF 0 0 (.slice none 0 0) 0) ∧ Below w.heap.size w w0 ∧ w0.heap.size = w.heap.size + 1 := by
  subst h
  refine ⟨World.rowIs_alloc w _ _ _ ?_, (Below.refl _ _).alloc (Nat.le_refl _) _, by simp⟩
  intro i hi
  match i, hi with
  | 0, _ => rfl
  | 1, _ => rfl
  | 2, _ => rfl
  | 3, _ => rfl

/-- midway in 'ask': the variable, the cell of the answer, the source, the rest as at the start -/
structure OpSt (w W : World) (sb ob : Nat) (L : List UInt8) (f : Nat → Value) : Prop where
  row : W.rowIs ob 26 4 f
  res : ∃ g, W.rowIs w.heap.size 26 4 g
  src : SrcAt W sb L
  only : Only w.heap.size (· = sb) w W
  sb : sb < w.heap.size
  ob : w.heap.size < ob

section
variable {w W W' : World} {sb ob : Nat} {L L' l : List UInt8} {f : Nat → Value} {kd pg : Int} {v : Value} {b q : Nat}
theorem OpSt.call (h : OpSt w W sb ob L f) (hs : SrcAt W' sb L') (ho : Only W.heap.size (· = sb) W W') : OpSt w W' sb ob L' f :=
  ⟨h.row.of_block (ho.block _ h.row.lt (by have := h.sb; have := h.ob; show ob ≠ sb; omega)), h.res.elim fun g hg => ⟨g, hg.of_block (ho.block _ hg.lt (by have := h.sb; show w.heap.size ≠ sb; omega))⟩, hs, h.only.trans (ho.mono h.only.size), h.sb, h.ob⟩
theorem OpSt.alloc (h : OpSt w W sb ob L f) (o : Obj) : OpSt w (W.alloc o) sb ob L f :=
  ⟨h.row.alloc o, h.res.elim fun g hg => ⟨g, hg.alloc o⟩, h.src.below ((Below.refl _ _).alloc (Nat.le_refl _) o) (Nat.le_refl _), h.only.alloc h.only.size o, h.sb, h.ob⟩
theorem OpSt.set (h : OpSt w W sb ob L f) (i : Nat) (v : Value) (g : Nat → Value) (hg : ∀ j, j < 4 → (if j = i then v else f j) = g j) : OpSt w (W.setCell ⟨ob, i, none⟩ v) sb ob L g :=
  ⟨(h.row.set i v).congr hg, h.res.elim fun g hg => ⟨g, row_oth hg (by have := h.ob; omega) v⟩, h.src.only (S := fun k => k = ob) (Only.setCell (S := fun k => k = ob) (p := ⟨ob, i, none⟩) (Only.refl W.heap.size _ W) (.inr rfl) _) (Nat.le_refl _) (by have := h.sb; have := h.ob; intro k hk; omega), h.only.setCell (.inl (Nat.le_of_lt h.ob)) v, h.sb, h.ob⟩
theorem OpSt.start (hr : W.rowIs w.heap.size 26 4 f) (hs : SrcAt W sb L) (ho : Only w.heap.size (· = sb) w W) (hsb : sb < w.heap.size) :
    OpSt w (W.alloc (.cells #[.int .i64 kd, .int .i64 0, .slice none 0 0, .float .f64 0] 26)) sb W.heap.size L (opF kd 0 (.slice none 0 0) 0) := by
  refine ⟨?_, ⟨f, hr.alloc _⟩, hs.below ((Below.refl _ _).alloc (Nat.le_refl _) _) (Nat.le_refl _), ho.alloc ho.size _, hsb, hr.lt⟩
  refine World.rowIs_alloc W _ _ _ ?_
  intro i hi
  match i, hi with
  | 0, _ => rfl
  | 1, _ => rfl
  | 2, _ => rfl
  | 3, _ => rfl
theorem OpSt.page (h : OpSt w W sb ob L (opF kd pg v b)) (pg' : Int) : OpSt w (W.setCell ⟨ob, 1, none⟩ (.int .i64 pg')) sb ob L (opF kd pg' v b) :=
  h.set 1 _ _ fun j hj => match j, hj with
    | 0, _ => rfl
    | 1, _ => rfl
    | 2, _ => rfl
    | 3, _ => rfl
theorem OpSt.data (h : OpSt w W sb ob L (opF kd pg v b)) (v' : Value) : OpSt w (W.setCell ⟨ob, 2, none⟩ v') sb ob L (opF kd pg v' b) :=
  h.set 2 _ _ fun j hj => match j, hj with
    | 0, _ => rfl
    | 1, _ => rfl
    | 2, _ => rfl
    | 3, _ => rfl
theorem OpSt.float (h : OpSt w W sb ob L (opF kd pg v b)) (b' : Nat) : OpSt w (W.setCell ⟨ob, 3, none⟩ (.float .f64 b')) sb ob L (opF kd pg v b') :=
  h.set 3 _ _ fun j hj => match j, hj with
    | 0, _ => rfl
    | 1, _ => rfl
    | 2, _ => rfl
    | 3, _ => rfl
theorem OpSt.cells (h : OpSt w W sb ob L (opF kd pg v b)) :
    W.cell? ⟨ob, 0, none⟩ = some (.int .i64 kd) ∧ W.cell? ⟨ob, 1, none⟩ = some (.int .i64 pg) ∧ W.cell? ⟨ob, 2, none⟩ = some v ∧ W.cell? ⟨ob, 3, none⟩ = some (.float .f64 b) ∧
    W.frozen? ⟨ob, 0, none⟩ = false ∧ W.frozen? ⟨ob, 1, none⟩ = false ∧ W.frozen? ⟨ob, 2, none⟩ = false ∧ W.frozen? ⟨ob, 3, none⟩ = false :=
  ⟨h.row.cell (i := 0) (by omega), h.row.cell (i := 1) (by omega), h.row.cell (i := 2) (by omega), h.row.cell (i := 3) (by omega), h.row.frozen 0, h.row.frozen 1, h.row.frozen 2, h.row.frozen 3⟩
theorem OpSt.rcells (h : OpSt w W sb ob L f) : ∃ g : Nat → Value,
    W.cell? ⟨w.heap.size, 0, none⟩ = some (g 0) ∧ W.cell? ⟨w.heap.size, 1, none⟩ = some (g 1) ∧ W.cell? ⟨w.heap.size, 2, none⟩ = some (g 2) ∧ W.cell? ⟨w.heap.size, 3, none⟩ = some (g 3) ∧
    W.frozen? ⟨w.heap.size, 0, none⟩ = false ∧ W.frozen? ⟨w.heap.size, 1, none⟩ = false ∧ W.frozen? ⟨w.heap.size, 2, none⟩ = false ∧ W.frozen? ⟨w.heap.size, 3, none⟩ = false := by
  obtain ⟨g, h⟩ := h.res
  exact ⟨g, h.cell (i := 0) (by omega), h.cell (i := 1) (by omega), h.cell (i := 2) (by omega), h.cell (i := 3) (by omega), h.frozen 0, h.frozen 1, h.frozen 2, h.frozen 3⟩
theorem OpSt.fin (h : OpSt w W sb ob L f) (v0 v1 v2 v3 : Value) :
    SrcAt ((((W.setCell ⟨w.heap.size, 0, none⟩ v0).setCell ⟨w.heap.size, 1, none⟩ v1).setCell ⟨w.heap.size, 2, none⟩ v2).setCell ⟨w.heap.size, 3, none⟩ v3) sb L ∧
    Only w.heap.size (· = sb) w ((((W.setCell ⟨w.heap.size, 0, none⟩ v0).setCell ⟨w.heap.size, 1, none⟩ v1).setCell ⟨w.heap.size, 2, none⟩ v2).setCell ⟨w.heap.size, 3, none⟩ v3) := by
  refine ⟨h.src.only (B := W.heap.size) (S := fun k => k = w.heap.size) ?_ (Nat.le_refl _) (by have := h.sb; intro k hk; omega), ?_⟩
  · exact Only.setCell (S := fun k => k = w.heap.size) (p := ⟨w.heap.size, 3, none⟩) (Only.setCell (S := fun k => k = w.heap.size) (p := ⟨w.heap.size, 2, none⟩) (Only.setCell (S := fun k => k = w.heap.size) (p := ⟨w.heap.size, 1, none⟩) (Only.setCell (S := fun k => k = w.heap.size) (p := ⟨w.heap.size, 0, none⟩) (Only.refl _ _ _) (.inr rfl) v0) (.inr rfl) v1) (.inr rfl) v2) (.inr rfl) v3
  · exact (((h.only.setCell (.inl (Nat.le_refl _)) v0).setCell (.inl (Nat.le_refl _)) v1).setCell (.inl (Nat.le_refl _)) v2).setCell (.inl (Nat.le_refl _)) v3
theorem OpSt.res4 (h : OpSt w W sb ob L f) (v0 v1 v2 v3 : Value) :
    ((((W.setCell ⟨w.heap.size, 0, none⟩ v0).setCell ⟨w.heap.size, 1, none⟩ v1).setCell ⟨w.heap.size, 2, none⟩ v2).setCell ⟨w.heap.size, 3, none⟩ v3).rangeAt w.heap.size 0 [v0, v1, v2, v3] := by
  obtain ⟨g, hg⟩ := h.res
  refine rowIs_range ((((hg.set 0 v0).set 1 v1).set 2 v2).set 3 v3) _ rfl ?_
  intro i hi
  match i, hi with
  | 0, _ => rfl
  | 1, _ => rfl
  | 2, _ => rfl
  | 3, _ => rfl
theorem alloc_out4 {n : Nat} (o : Obj) (v0 v1 v2 v3 : Value) (hn : n < w.heap.size) :
    (((((w.alloc o).setCell ⟨n, 0, none⟩ v0).setCell ⟨n, 1, none⟩ v1).setCell ⟨n, 2, none⟩ v2).setCell ⟨n, 3, none⟩ v3) = (((((w.setCell ⟨n, 0, none⟩ v0).setCell ⟨n, 1, none⟩ v1).setCell ⟨n, 2, none⟩ v2).setCell ⟨n, 3, none⟩ v3).alloc o) := by
  rw [World.setCell_alloc_past _ _ _ _ hn, World.setCell_alloc_past _ _ _ _ (by simpa using hn), World.setCell_alloc_past _ _ _ _ (by simpa using hn), World.setCell_alloc_past _ _ _ _ (by simpa using hn)]
theorem own_ne_row {base n m t : Nat} {e : TypeId} {size : Nat} {xs : List Value} (h : W.ownsRow base e size v n xs) (hr : W.rowIs ob t m f) (he : e ≠ t) : v.ownBlock ≠ some ob := by
  intro hv
  rcases h.2 with ⟨rfl, _⟩ | ⟨g, cap, cur, rfl, _, hg, _⟩
  · cases hv
  · obtain ⟨c, hc, _⟩ := hr
    cases hv
    rw [hg] at hc
    cases hc
    exact he rfl
theorem OpSt.own {n : Nat} {d : Value} {xs : List Value} (h : OpSt w W sb ob L f) (ho : W.ownsRow w.heap.size 5 1 d n xs) (v0 v1 v2 v3 : Value) :
    ((((W.setCell ⟨w.heap.size, 0, none⟩ v0).setCell ⟨w.heap.size, 1, none⟩ v1).setCell ⟨w.heap.size, 2, none⟩ v2).setCell ⟨w.heap.size, 3, none⟩ v3).ownsRow w.heap.size 5 1 d n xs := by
  obtain ⟨g, hg⟩ := h.res
  have := own_ne_row ho hg (by decide)
  exact ownsRow_set (ownsRow_set (ownsRow_set (ownsRow_set ho this v0) this v1) this v2) this v3
theorem OpSt.next {R : Ending → World → Prop} (h : OpSt w W sb ob (l.drop q) f) (hk : ∀ W', OpSt w W' sb ob (l.drop (q + 1)) f → R (.returned (.int .i64 ((byt l q).toNat : Int))) W') :
    Calls Tryz.prog 57 #[.pointer (some ⟨sb, 0, none⟩)] W R :=
  (src_at sb l q W h.src).mono (by rintro e W' ⟨rfl, h1, h2⟩; exact hk W' (h.call h1 h2))
theorem OpSt.number {R : Ending → World → Prop} (h : OpSt w W sb ob (l.drop q) f) (hk : ∀ W', OpSt w W' sb ob (l.drop (q + 8)) f → R (.returned (.float .f64 (beN (rowB l q 8)).toNat)) W') :
    Calls Tryz.prog 60 #[.pointer (some ⟨sb, 0, none⟩)] W R :=
  (src_number sb l q W h.src).mono (by rintro e W' ⟨rfl, h1, h2⟩; exact hk W' (h.call h1 h2))
theorem OpSt.some_ {R : Ending → World → Prop} (h : OpSt w W sb ob (l.drop q) f)
    (hk : ∀ v W', W'.ownsRow w.heap.size 5 1 v ((byt l q).toNat % 9) (bs (rowB l (q + 1) ((byt l q).toNat % 9))) → OpSt w W' sb ob (l.drop (q + 1 + (byt l q).toNat % 9)) f → R (.returned v) W') :
    Calls Tryz.prog 59 #[.pointer (some ⟨sb, 0, none⟩), .int .i64 9] W R :=
  (src_some sb l q W h.src).mono (by rintro e W' ⟨v, rfl, ho, h1, h2⟩; exact hk v W' (own_mono ho h.only.size) (h.call h1 h2))
end

theorem Tryz.sizeOp : (Tryz.prog.info? 26).map (·.size) = some 4 := by kernel_rfl

set_option maxRecDepth 100000 in
theorem src_ask (sb : Nat) (l : List UInt8) (p : Nat) (w : World) (h : SrcAt w sb (l.drop p)) :
    Calls Tryz.prog 58 #[.pointer (some ⟨sb, 0, none⟩)] w fun e w' => ∃ v, e = .returned (.agg #[.int .i64 (askAt l p).1.kind, .int .i64 (askAt l p).1.page, v, .float .f64 (askAt l p).1.by_]) ∧ w'.ownsRow w.heap.size 5 1 v (askAt l p).1.data.length (bs (askAt l p).1.data) ∧ SrcAt w' sb (l.drop (askAt l p).2) ∧ Only w.heap.size (· = sb) w w' := by
  have hsb := h.lt
  go_enter Tryz.func58, Tryz.ntmps58
  go_wp2_with fail
  generalize hw0 : w.alloc _ = w0
  obtain ⟨hr0, hb0, hs0⟩ := op_alloc hw0
  clear hw0
  refine (src_at sb l p w0 (h.below hb0 (Nat.le_refl _))).mono ?_
  rintro e w1 ⟨rfl, h1, ho1⟩
  have hr1 := hr0.of_block (ho1.block _ (by omega) (by show w.heap.size ≠ sb; omega))
  have ho : Only w.heap.size (· = sb) w w1 := (Only.of_below hb0).trans (ho1.mono hb0.size)
  have hsz1 : w.heap.size < w1.heap.size := by have := ho1.size; omega
  clear hr0 hb0 hs0 ho1
  obtain ⟨k, hk⟩ : ∃ k, k = (byt l p).toNat % 6 + 1 := ⟨_, rfl⟩
  have hkv : ((byt l p).toNat : Int) % 6 + 1 = (k : Int) := by omega
  have hkb : k ≤ 6 := by omega
  have hkl : (k : Int) ≤ 6 := by omega
  have HK := Lib.hid hk
  clear hk
  by_cases k1 : k = 1
  · subst k1
    go_wp2_with fail
    refine OpSt.next (q := p + 1) (OpSt.start hr1 h1 ho hsb) ?_
    intro w2 h2
    clear hr1 h1 ho
    obtain ⟨c0, c1, c2, c3, z0, z1, z2, z3⟩ := h2.cells
    obtain ⟨g, d0, d1, d2, d3, y0, y1, y2, y3⟩ := h2.rcells
    go_wp2_with fail
    refine bodyPost_ret (results_cell_mid (by rfl) _ _ w.heap.size [.int .i64 1, .int .i64 ((byt l (p + 1)).toNat : Int), (.slice none 0 0), .float .f64 0] _ (by rfl) ((h2.page ((byt l (p + 1)).toNat : Int)).res4 _ _ _ _) Tryz.underlying26 rfl Tryz.sizeOp) rfl ?_
    rw [show askAt l p = (⟨1, ((byt l (p + 1)).toNat : Int), [], 0⟩, p + 2) from by simp only [askAt, ← HK.out]; rfl]
    have hF := (h2.page ((byt l (p + 1)).toNat : Int)).fin (.int .i64 1) (.int .i64 ((byt l (p + 1)).toNat : Int)) (.slice none 0 0) (.float .f64 0)
    exact ⟨_, rfl, World.ownsRow_nil _ _ _ _, hF.1, hF.2⟩
  by_cases k2 : k = 2
  · subst k2
    clear k1
    go_wp2_with fail
    refine OpSt.next (q := p + 1) (OpSt.start hr1 h1 ho hsb) ?_
    intro w2 h2
    clear hr1 h1 ho
    obtain ⟨c0, c1, c2, c3, z0, z1, z2, z3⟩ := h2.cells
    go_wp2_with fail
    refine OpSt.some_ (q := p + 2) (h2.page ((byt l (p + 1)).toNat : Int)) ?_
    intro dv w3 hown h3
    obtain ⟨da, dc, rfl, -⟩ := ownsRow_bs hown
    clear c0 c1 c2 c3 z0 z1 z2 z3
    obtain ⟨c0, c1, c2, c3, z0, z1, z2, z3⟩ := h3.cells
    obtain ⟨g, d0, d1, d2, d3, y0, y1, y2, y3⟩ := h3.rcells
    have hsz3 := h3.row.lt
    go_wp2_with fail
    refine bodyPost_ret (results_cell_mid (by rfl) _ _ w.heap.size [.int .i64 2, .int .i64 ((byt l (p + 1)).toNat : Int), .slice da ((byt l (p + 2)).toNat % 9) dc, .float .f64 0] _ (by rfl) ((h3.data (.slice da ((byt l (p + 2)).toNat % 9) dc)).res4 _ _ _ _) Tryz.underlying26 rfl Tryz.sizeOp) rfl ?_
    rw [show askAt l p = (⟨2, ((byt l (p + 1)).toNat : Int), rowB l (p + 3) ((byt l (p + 2)).toNat % 9), 0⟩, p + 3 + (byt l (p + 2)).toNat % 9) from by simp only [askAt, ← HK.out]; rfl]
    have hF := (h3.data (.slice da ((byt l (p + 2)).toNat % 9) dc)).fin (.int .i64 2) (.int .i64 ((byt l (p + 1)).toNat : Int)) (.slice da ((byt l (p + 2)).toNat % 9) dc) (.float .f64 0)
    refine ⟨_, rfl, ?_, hF.1, hF.2⟩
    rw [rowB_length]
    exact (h3.data (.slice da ((byt l (p + 2)).toNat % 9) dc)).own (ownsRow_set hown (own_ne_row hown h3.row (by decide)) _) _ _ _ _
  by_cases k5 : k = 5
  · subst k5
    clear k1 k2
    go_wp2_with fail
    refine OpSt.next (q := p + 1) (OpSt.start hr1 h1 ho hsb) ?_
    intro w2 h2
    clear hr1 h1 ho
    obtain ⟨c0, c1, c2, c3, z0, z1, z2, z3⟩ := h2.cells
    go_wp2_with fail
    refine OpSt.number (q := p + 2) (h2.page ((byt l (p + 1)).toNat : Int)) ?_
    intro w3 h3
    clear c0 c1 c2 c3 z0 z1 z2 z3
    obtain ⟨c0, c1, c2, c3, z0, z1, z2, z3⟩ := h3.cells
    obtain ⟨g, d0, d1, d2, d3, y0, y1, y2, y3⟩ := h3.rcells
    go_wp2_with fail
    refine bodyPost_ret (results_cell_mid (by rfl) _ _ w.heap.size [.int .i64 5, .int .i64 ((byt l (p + 1)).toNat : Int), (.slice none 0 0), .float .f64 (beN (rowB l (p + 2) 8)).toNat] _ (by rfl) ((h3.float (beN (rowB l (p + 2) 8)).toNat).res4 _ _ _ _) Tryz.underlying26 rfl Tryz.sizeOp) rfl ?_
    rw [show askAt l p = (⟨5, ((byt l (p + 1)).toNat : Int), [], (beN (rowB l (p + 2) 8)).toNat⟩, p + 10) from by simp only [askAt, ← HK.out]; rfl]
    have hF := (h3.float (beN (rowB l (p + 2) 8)).toNat).fin (.int .i64 5) (.int .i64 ((byt l (p + 1)).toNat : Int)) (.slice none 0 0) (.float .f64 (beN (rowB l (p + 2) 8)).toNat)
    exact ⟨_, rfl, World.ownsRow_nil _ _ _ _, hF.1, hF.2⟩
  · have e1 : ((k : Int) == 1) = false := by rw [beq_eq_false_iff_ne]; omega
    have e2 : ((k : Int) == 2) = false := by rw [beq_eq_false_iff_ne]; omega
    have e5 : ((k : Int) == 5) = false := by rw [beq_eq_false_iff_ne]; omega
    have h2 : OpSt w (w1.alloc (.cells #[.int .i64 (k : Int), .int .i64 0, .slice none 0 0, .float .f64 0] 26)) sb w1.heap.size (l.drop (p + 1)) (opF k 0 (.slice none 0 0) 0) := OpSt.start hr1 h1 ho hsb
    have d0 := hr1.cell (i := 0) (by omega)
    have d1 := hr1.cell (i := 1) (by omega)
    have d2 := hr1.cell (i := 2) (by omega)
    have d3 := hr1.cell (i := 3) (by omega)
    have y0 := hr1.frozen 0
    have y1 := hr1.frozen 1
    have y2 := hr1.frozen 2
    have y3 := hr1.frozen 3
    have HK1 := Lib.hid k1
    have HK2 := Lib.hid k2
    have HK5 := Lib.hid k5
    have H2 := Lib.hid h2
    clear k1 k2 k5 h2
    go_wp2_with fail
    have e := alloc_out4 (w := w1) (n := w.heap.size) (.cells #[.int .i64 (k : Int), .int .i64 0, .slice none 0 0, .float .f64 0] 26) (.int .i64 (k : Int)) (.int .i64 0) (.slice none 0 0) (.float .f64 0) hsz1
    have hR := H2.out.res4 (.int .i64 (k : Int)) (.int .i64 0) (.slice none 0 0) (.float .f64 0)
    rw [e] at hR
    refine bodyPost_ret (results_cell_mid (by rfl) _ _ w.heap.size [.int .i64 (k : Int), .int .i64 0, (.slice none 0 0), .float .f64 0] _ (by rfl) hR Tryz.underlying26 rfl Tryz.sizeOp) rfl ?_
    rw [show askAt l p = (⟨(k : Int), 0, [], 0⟩, p + 1) from by simp only [askAt, ← HK.out]; rw [if_neg HK1.out, if_neg HK2.out, if_neg HK5.out]]
    have hF := H2.out.fin (.int .i64 (k : Int)) (.int .i64 0) (.slice none 0 0) (.float .f64 0)
    rw [e] at hF
    exact ⟨_, rfl, World.ownsRow_nil _ _ _ _, hF.1, hF.2⟩
end Go.Proofs.YtgkddjefmonlaaaGreatDoor
