/-
  More small lemmas for the walks of this seat.
-/
import Derived.Test.YtgkddjefmonlaaaGreatDoorBase
namespace Go.Proofs.YtgkddjefmonlaaaGreatDoor
open Go.RowKit

theorem bel_al {w W : World} (h : Below w.heap.size w W) (o : Obj) : Below w.heap.size w (W.alloc o) := h.alloc h.size o
theorem bel_dr {w W : World} {B : Nat} (h : Below B w W) : Below B w W.drew := h.drew
theorem bel_drN {w W : World} {B : Nat} (h : Below B w W) (n : Nat) : Below B w (W.drewN n) := ⟨h.os, h.tape, h.output, h.size, h.block⟩
theorem bel_set {w W : World} (h : Below w.heap.size w W) {b o : Nat} (hb : w.heap.size ≤ b) (v : Value) : Below w.heap.size w (W.setCell ⟨b, o, none⟩ v) := h.setCell hb v
theorem bel_gr {w W W' : World} {row : Option Nat} (h : Below w.heap.size w W) (hg : W.grownBy W' row) (hr : ∀ k, row = some k → w.heap.size ≤ k) : Below w.heap.size w W' := h.grown hg h.size hr
theorem bel_tr {a b c : World} (h : Below a.heap.size a b) (k : Below b.heap.size b c) : Below a.heap.size a c := h.trans (k.mono h.size)

/-- the cells of a block of ten that is known whole -/
theorem cells10 {W : World} {C t : Nat} {v0 v1 v2 v3 v4 v5 v6 v7 v8 v9 : Value} (h : W.heap[C]? = some (.cells #[v0, v1, v2, v3, v4, v5, v6, v7, v8, v9] t (0, 0))) :
    W.cell? ⟨C, 0, none⟩ = some v0 ∧ W.cell? ⟨C, 1, none⟩ = some v1 ∧ W.cell? ⟨C, 2, none⟩ = some v2 ∧ W.cell? ⟨C, 3, none⟩ = some v3 ∧ W.cell? ⟨C, 4, none⟩ = some v4 ∧ W.cell? ⟨C, 5, none⟩ = some v5 ∧ W.cell? ⟨C, 6, none⟩ = some v6 ∧ W.cell? ⟨C, 7, none⟩ = some v7 ∧ W.cell? ⟨C, 8, none⟩ = some v8 ∧ W.cell? ⟨C, 9, none⟩ = some v9 ∧
    W.frozen? ⟨C, 0, none⟩ = false ∧ W.frozen? ⟨C, 1, none⟩ = false ∧ W.frozen? ⟨C, 2, none⟩ = false ∧ W.frozen? ⟨C, 3, none⟩ = false ∧ W.frozen? ⟨C, 4, none⟩ = false ∧ W.frozen? ⟨C, 5, none⟩ = false ∧ W.frozen? ⟨C, 6, none⟩ = false ∧ W.frozen? ⟨C, 7, none⟩ = false ∧ W.frozen? ⟨C, 8, none⟩ = false ∧ W.frozen? ⟨C, 9, none⟩ = false := by
  refine ⟨?_, ?_, ?_, ?_, ?_, ?_, ?_, ?_, ?_, ?_, ?_, ?_, ?_, ?_, ?_, ?_, ?_, ?_, ?_, ?_⟩ <;> simp [World.cell?, World.frozen?, h]

theorem heap_al_new (w : World) (o : Obj) : (w.alloc o).heap[w.heap.size]? = some o := heap_alloc_new w o
theorem heap_al_old {w : World} {k : Nat} {x : Obj} (h : w.heap[k]? = some x) (o : Obj) : (w.alloc o).heap[k]? = some x := by
  rw [Below.heap_alloc w o k (Array.getElem?_eq_some_iff.1 h).1]; exact h
theorem heap_al_next (w : World) (a o : Obj) : ((w.alloc a).alloc o).heap[w.heap.size + 1]? = some o := heap_alloc2_new w a o
theorem size_al {a w : World} (h : a.heap.size ≤ w.heap.size) (o : Obj) : a.heap.size ≤ (w.alloc o).heap.size := Nat.le_trans h (by simp)
theorem size_dr {a w : World} (h : a.heap.size ≤ w.heap.size) : a.heap.size ≤ w.drew.heap.size := h
theorem grown_at {W W' : World} {row : Option Nat} {k : Nat} {x : Obj} (hg : W.grownBy W' row) (h : W.heap[k]? = some x) (hne : some k ≠ row) : W'.heap[k]? = some x :=
  (hg.block k (Array.getElem?_eq_some_iff.1 h).1 hne).trans h
theorem blk_ne2 {v' : Value} {o : Option Nat} {H c : Nat} (h : v'.ownBlock = o ∨ ∃ k, v'.ownBlock = some k ∧ H ≤ k) (h1 : o ≠ some c) (h2 : c < H) : v'.ownBlock ≠ some c := by
  intro e
  rcases h with e' | ⟨k, e', hk⟩
  · exact h1 (e'.symm.trans e)
  · rw [e'] at e; cases e; omega
theorem run_index_one {P : Program} (w : World) (t e : TypeId) (n : Nat) (cs : Array Value) (k : IntKind) (i : Nat) (ie : TypeInfo) (v : Value) (h : P.underlying t = some (.array n e)) (he : P.info? e = some ie) (hz : ie.size = 1) (hu : ∃ kk, P.underlying e = some (.int kk)) (hi : i < n) (hv : cs[i]? = some v) :
    (Instr.index t (.agg cs) (.int k (i : Int))).run P w = .ok v w := by
  obtain ⟨kk, hu⟩ := hu
  have h1 : (0 : Int) ≤ (i : Int) ∧ (i : Int) < (n : Int) := by omega
  simp [Instr.index, run_underlying h, asIntOf, h1, part, sizeOf, typeInfo, he, hz, go_sem, isAgg, run_underlying hu, hv]
  intro hh; omega
theorem results_cell_mid {P : Program} {fn : Func} {p : Tmp} {ty : TypeId} (h : fn.results = #[.cell p ty]) (tmps : Array Value) (w : World) (g : Nat) (cs : List Value) (d : TypeDesc)
    (hp : tmps.getD p undef = .pointer (some ⟨g, 0, none⟩)) (hc : w.rangeAt g 0 cs) (hu : P.underlying ty = some d) (hd : d.isRow = true) (hi : (P.info? ty).map (·.size) = some cs.length) :
    (results fn tmps).run P w = .ok (.agg cs.toArray) w := by
  have hp' : tmps[p]?.getD undef = .pointer (some ⟨g, 0, none⟩) := by simpa using hp
  simp [results, h, hp', asAddr, run_loadVar_mid w g 0 ty cs d hc hu hd hi]
theorem rowIs_range {w : World} {b t n : Nat} {f : Nat → Value} (h : w.rowIs b t n f) (cs : List Value) (hn : cs.length = n) (hf : ∀ i, i < n → cs[i]? = some (f i)) : w.rangeAt b 0 cs := by
  intro j v hv
  have hj : j < n := by have := (List.getElem?_eq_some_iff.1 hv).1; omega
  rw [hf j hj] at hv; cases hv
  rw [Nat.zero_add]; exact h.cell hj
theorem rowIs_there {w : World} {b t n : Nat} {f : Nat → Value} (h : w.rowIs b t n f) : w.there b 0 n := fun j hj => ⟨by rw [Nat.zero_add, h.cell hj]; rfl, h.frozen _⟩
theorem row_oth {w : World} {b t n : Nat} {f : Nat → Value} (h : w.rowIs b t n f) {c o : Nat} (hne : c ≠ b) (v : Value) : (w.setCell ⟨c, o, none⟩ v).rowIs b t n f := h.of_block (Below.heap_setCell w ⟨c, o, none⟩ v b (by simpa using hne.symm))
theorem rowIs_setCells {w : World} {b t n : Nat} {f : Nat → Value} (h : w.rowIs b t n f) (vs : List Value) : ∀ o, ∃ g, (w.setCells b o vs).rowIs b t n g := by
  induction vs generalizing w f with
  | nil => exact fun o => ⟨f, h⟩
  | cons v r ih => exact fun o => ih (h.set o v) (o + 1)
theorem bel_setCells {w W : World} (h : Below w.heap.size w W) {b : Nat} (hb : w.heap.size ≤ b) (vs : List Value) : ∀ o, Below w.heap.size w (W.setCells b o vs) := by
  induction vs generalizing W with
  | nil => exact fun o => h
  | cons v r ih => exact fun o => ih (bel_set h hb v) (o + 1)
theorem ownsRow_same {w w' : World} {base n : Nat} {e : TypeId} {size : Nat} {v : Value} {xs : List Value} (h : w.ownsRow base e size v n xs) (hb : ∀ k, v.ownBlock = some k → w'.heap[k]? = w.heap[k]?) : w'.ownsRow base e size v n xs := by
  refine ⟨h.1, ?_⟩
  rcases h.2 with hn | ⟨g, cap, cur, rfl, hb', hgg, rest⟩
  · exact .inl hn
  · exact .inr ⟨g, cap, cur, rfl, hb', by rw [hb g rfl]; exact hgg, rest⟩
theorem ownsRow_set {w : World} {base n : Nat} {e : TypeId} {size : Nat} {v : Value} {xs : List Value} (h : w.ownsRow base e size v n xs) {a : Addr} (ha : v.ownBlock ≠ some a.block) (u : Value) : (w.setCell a u).ownsRow base e size v n xs :=
  ownsRow_same h fun k hk => Below.heap_setCell w a u k (fun e => ha (by rw [hk, e]))

theorem own_only {w w' : World} {base n B : Nat} {e : TypeId} {size : Nat} {v : Value} {xs : List Value} {S : Nat → Prop} (h : w.ownsRow base e size v n xs) (hw : Only B S w w') (hB : w.heap.size ≤ B) (hS : ∀ k, v.ownBlock = some k → ¬ S k) : w'.ownsRow base e size v n xs :=
  ownsRow_same h fun k hk => hw.block k (by have := (h.lt k hk).2; omega) (hS k hk)
theorem own_below {w w' : World} {base n B : Nat} {e : TypeId} {size : Nat} {v : Value} {xs : List Value} (h : w.ownsRow base e size v n xs) (hw : Below B w w') (hB : w.heap.size ≤ B) : w'.ownsRow base e size v n xs :=
  ownsRow_same h fun k hk => hw.block k (by have := (h.lt k hk).2; omega)
theorem bs_one_at {w : World} {k t : Nat} {b : UInt8} (h : w.heap[k]? = some (.cells #[.int .u8 (b.toNat : Int)] t (0, 0))) : Bs w (some ⟨k, 0, none⟩) 1 1 [b] := by
  refine ⟨rfl, Nat.le_refl _, by omega, by omega, (fun h => by cases h), .inr ⟨k, 0, rfl, fun j u hj => ?_⟩⟩
  match j, hj with
  | 0, hj =>
    simp [bs, vb] at hj
    subst hj
    simp [World.cell?, h]

theorem own_mono {w : World} {base base' : Nat} {e : TypeId} {size : Nat} {v : Value} {n : Nat} {xs : List Value} (h : w.ownsRow base e size v n xs) (hb : base' ≤ base) : w.ownsRow base' e size v n xs :=
  ⟨h.1, h.2.imp id fun ⟨g, cap, cur, hv, hg, rest⟩ => ⟨g, cap, cur, hv, Nat.le_trans hb hg, rest⟩⟩
/-- 'append' of values that a slice reads, to a slice of the call's own (elements of any type) -/
theorem wpList_append_vals {P : Program} {i : TypeInfo} {ops : Array Oper} {rest : List Oper} {o : Oper} {a : Act} {w : World} {Q : Exit → Act → World → Prop} (hgd : o.guard = none) (s x : Operand) (t : TypeId)
    (ho : o.op = .call { callee := .builtin .append, args := #[s, x], argTypes := #[t, t] }) (base : Nat) (e : TypeId) (z : Value) (size bytes : Nat)
    (ht : P.underlying t = some (.slice e)) (hi : P.info? e = some i) (hz : i.zero = some z) (hsize : i.size = size) (hby : i.bytes = bytes) (hzs : z.cells.size = size) (hsz : 0 < size)
    (v : Value) (n : Nat) (xs : List Value) (hs : a.eval s = v) (hown : w.ownsRow base e size v n xs) (b0 o0 m c : Nat) (news : List Value) (hx : a.eval x = .slice (some ⟨b0, o0, none⟩) m c) (hl : news.length = m * size)
    (hy : Reads w b0 o0 news) (h1 : ∀ u ∈ news, u.oneCell' = true) (h63 : n + m ≤ maxLen) (hbytes : (n + m) * bytes ≤ 140737488355328) (hbase : base ≤ w.heap.size)
    (h : ∀ v' w', w'.ownsRow base e size v' (n + m) (xs ++ news) → w.grownBy w' v.ownBlock → (v'.ownBlock = v.ownBlock ∨ ∃ k, v'.ownBlock = some k ∧ w.heap.size ≤ k) → wpList P ops Q rest (a.put o.dst v') w') : wpList P ops Q (o :: rest) a w := by
  refine wpList_plain hgd fun K hK => ?_
  obtain ⟨v', w', hr, h2, h3, h4⟩ := run_append_any (P := P) w base t o.type e i z size bytes ht hi hz hsize hby hzs hsz v n xs hown (some ⟨b0, o0, none⟩) m c news hl (fun h => by cases h)
    (fun ad had j u hj => by
      cases had
      have hadd : (⟨b0, o0, none⟩ : Addr).add j = ⟨b0, o0 + j, none⟩ := by unfold Addr.add; split <;> simp_all
      rw [hadd]; exact hy j u hj) h1 h63 hbytes hbase
  unfold Oper.wp execOp
  simp only [ho, resolve, invoke, builtin, Sem.run_bind, Sem.run_pure, Result.andThen_ok, List.map_toArray, List.map_cons, List.map_nil, hs, hx, hr]
  exact hK _ _ (h v' w' h2 h3 h4)
theorem step_append_vals {P : Program} {i : TypeInfo} {ops : Array Oper} {o : Oper} {a : Act} {w : World} {K : Act → World → Prop} {Q : Exit → Act → World → Prop} {E : Prop} (hgd : o.guard = none) (s x : Operand) (t : TypeId)
    (ho : o.op = .call { callee := .builtin .append, args := #[s, x], argTypes := #[t, t] }) (base : Nat) (e : TypeId) (z : Value) (size bytes : Nat)
    (ht : P.underlying t = some (.slice e)) (hi : P.info? e = some i) (hz : i.zero = some z) (hsize : i.size = size) (hby : i.bytes = bytes) (hzs : z.cells.size = size) (hsz : 0 < size)
    (v : Value) (n : Nat) (xs : List Value) (hs : a.eval s = v) (hown : w.ownsRow base e size v n xs) (b0 o0 m c : Nat) (news : List Value) (hx : a.eval x = .slice (some ⟨b0, o0, none⟩) m c) (hl : news.length = m * size)
    (hy : Reads w b0 o0 news) (h1 : ∀ u ∈ news, u.oneCell' = true) (h63 : n + m ≤ maxLen) (hbytes : (n + m) * bytes ≤ 140737488355328) (hbase : base ≤ w.heap.size)
    (h : ∀ v' w', w'.ownsRow base e size v' (n + m) (xs ++ news) → w.grownBy w' v.ownBlock → (v'.ownBlock = v.ownBlock ∨ ∃ k, v'.ownBlock = some k ∧ w.heap.size ≤ k) → K (a.put o.dst v') w') :
    if Region.wanted o (yielded ops a.tmps) = true then Oper.wp P o a w K Q else E := by
  have hw : Region.wanted o (yielded ops a.tmps) = true := by simp [Region.wanted, hgd]
  rw [if_pos hw]
  obtain ⟨v', w', hr, h2, h3, h4⟩ := run_append_any (P := P) w base t o.type e i z size bytes ht hi hz hsize hby hzs hsz v n xs hown (some ⟨b0, o0, none⟩) m c news hl (fun h => by cases h)
    (fun ad had j u hj => by
      cases had
      have hadd : (⟨b0, o0, none⟩ : Addr).add j = ⟨b0, o0 + j, none⟩ := by unfold Addr.add; split <;> simp_all
      rw [hadd]; exact hy j u hj) h1 h63 hbytes hbase
  unfold Oper.wp execOp
  simp only [ho, resolve, invoke, builtin, Sem.run_bind, Sem.run_pure, Result.andThen_ok, List.map_toArray, List.map_cons, List.map_nil, hs, hx, hr]
  exact h v' w' h2 h3 h4
theorem info3_of {P : Program} {t : TypeId} (h : (P.info? t).map (fun i => (i.zero, i.size, i.bytes)) = some (some (.int .i64 0), 1, 8)) : ∃ i, P.info? t = some i ∧ i.zero = some (.int .i64 0) ∧ i.size = 1 ∧ i.bytes = 8 := info_parts h
theorem own_form {w : World} {base n : Nat} {e : TypeId} {size : Nat} {v : Value} {xs : List Value} (h : w.ownsRow base e size v n xs) : ∃ a c, v = .slice a n c := by
  rcases h.2 with ⟨rfl, rfl⟩ | ⟨g, cap, cur, rfl, _⟩
  · exact ⟨none, 0, rfl⟩
  · exact ⟨_, _, rfl⟩
/-- an owned row of bytes, as a slice that reads -/
theorem own_bs {w : World} {base n : Nat} {e : TypeId} {v : Value} {l : List UInt8} (h : w.ownsRow base e 1 v n (bs l)) (hn : n ≤ 140737488351232) : ∃ a c, v = .slice a n c ∧ Bs w a n c l := by
  obtain ⟨a, c, rfl, h1, h2, h3, _, h5⟩ := ownsRow_bs h
  exact ⟨a, c, rfl, h1, h2, ownsRow_cap h, hn, h3, h5⟩
theorem reads_new {w : World} {k t : Nat} {cs : Array Value} (h : w.heap[k]? = some (.cells cs t (0, 0))) : Reads w k 0 cs.toList := by
  intro j u hj
  have : cs[j]? = some u := by simpa using hj
  simp [World.cell?, h, this]
end Go.Proofs.YtgkddjefmonlaaaGreatDoor
