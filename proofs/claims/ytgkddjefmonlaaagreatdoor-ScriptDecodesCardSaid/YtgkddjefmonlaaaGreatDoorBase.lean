/-
  Words and small lemmas that the walks of this seat share: bytes that a slice reads, fresh rows.
-/
import Derived.Test.YtgkddjefmonlaaaGreatDoorRows
import Derived.WalkKit
import Derived.BigQuiet
import Derived.Deep.QuietTactic
import Derived.StillTailTactics
import Derived.Deep.OwnRows
import Derived.Deep.RegionWith
import Derived.Deep.RegionHeld3
import Derived.Deep.RegionLaw
import Derived.Deep.DeepCutAuto
import Derived.Deep.LoopGhost
import Derived.Deep.DeepFit
import Derived.Deep.DeepMust
import Derived.Laws.CopyOwn
import Derived.Laws.AppendOwnNone
import Derived.WalkSpells
import Derived.WalkSmall
import Derived.Lib.Hide
import Derived.Laws.Cover3
import Derived.Deep.MidRow
namespace Go.Proofs.YtgkddjefmonlaaaGreatDoor
open Go.RowKit

theorem Tryz.info5 : (Tryz.prog.info? 5).map (fun i => (i.zero, i.size, i.bytes)) = some (some (.int .u8 0), 1, 1) := by kernel_rfl

theorem ret_int {k : IntKind} {a b : Int} (h : a = b) : Ending.returned (.int k a) = .returned (.int k b) := by rw [h]
/-- a byte as a value -/
def vb (c : UInt8) : Value := .int .u8 (c.toNat : Int)
/-- bytes as values -/
def bs (l : List UInt8) : List Value := l.map vb

theorem vb_def (c : UInt8) : vb c = .int .u8 (c.toNat : Int) := rfl
theorem bs_length (l : List UInt8) : (bs l).length = l.length := by simp [bs]
theorem bs_append (l r : List UInt8) : bs (l ++ r) = bs l ++ bs r := by simp [bs]
theorem bs_get (l : List UInt8) (j : Nat) (h : j < l.length) : (bs l)[j]? = some (.int .u8 (l[j].toNat : Int)) := by simp [bs, vb, h]
theorem bs_one (l : List UInt8) : ∀ u ∈ bs l, u.oneCell' = true := by
  intro u hu; obtain ⟨_, _, rfl⟩ := List.mem_map.1 hu; rfl
theorem byte_le (c : UInt8) : (c.toNat : Int) ≤ 255 := by have := c.toNat_lt; omega

/-- from an address on the cells hold these values -/
abbrev Reads (w : World) (b o : Nat) (xs : List Value) : Prop := w.rangeAt b o xs

theorem Reads.at {w : World} {b o : Nat} {l : List UInt8} (h : Reads w b o (bs l)) {j : Nat} (hj : j < l.length) : w.cell? ⟨b, o + j, none⟩ = some (.int .u8 (l[j].toNat : Int)) := h j _ (bs_get l j hj)

theorem lt_of_cell {w : World} {b o : Nat} {u : Value} (h : w.cell? ⟨b, o, none⟩ = some u) : b < w.heap.size := by
  simp only [World.cell?] at h
  by_cases hb : b < w.heap.size
  · exact hb
  · simp [Array.getElem?_eq_none (Nat.le_of_not_lt hb)] at h

theorem Reads.below {w w' : World} {b o B : Nat} {xs : List Value} (h : Reads w b o xs) (hw : Below B w w') (hB : w.heap.size ≤ B) : Reads w' b o xs := by
  intro j u hj
  have hc := h j u hj
  have := lt_of_cell hc
  rw [hw.cell (p := ⟨b, o + j, none⟩) (by show b < B; omega)]; exact hc

theorem Reads.take {w : World} {b o : Nat} {xs : List Value} (h : Reads w b o xs) (n : Nat) : Reads w b o (xs.take n) := by
  intro j u hj
  rw [List.getElem?_take] at hj
  split at hj
  · exact h j u hj
  · cases hj
theorem Reads.drop {w : World} {b o : Nat} {xs : List Value} (h : Reads w b o xs) (n : Nat) : Reads w b (o + n) (xs.drop n) := by
  intro j u hj
  rw [List.getElem?_drop] at hj
  rw [Nat.add_assoc]; exact h _ u hj

/-- A SLICE's ADDRESS, LENGTH, CAPACITY READ AS THESE BYTES (nil and empty ones read as none). -/
structure Bs (w : World) (a : Option Addr) (n c : Nat) (l : List UInt8) : Prop where
  len : n = l.length
  cap : n ≤ c
  bnd : c ≤ 9223372036854775807
  lbnd : n ≤ 140737488351232
  nil' : a = none → c = 0
  at' : l = [] ∨ ∃ b o, a = some ⟨b, o, none⟩ ∧ Reads w b o (bs l)

theorem Bs.get {w : World} {a : Option Addr} {n c : Nat} {l : List UInt8} (h : Bs w a n c l) {j : Nat} (hj : j < l.length) : ∃ b o, a = some ⟨b, o, none⟩ ∧ Reads w b o (bs l) := by
  rcases h.at' with e | h
  · subst e; simp at hj
  · exact h
theorem Bs.below {w w' : World} {a : Option Addr} {n c B : Nat} {l : List UInt8} (h : Bs w a n c l) (hw : Below B w w') (hB : w.heap.size ≤ B) : Bs w' a n c l :=
  ⟨h.len, h.cap, h.bnd, h.lbnd, h.nil', h.at'.imp id fun ⟨b, o, e, r⟩ => ⟨b, o, e, r.below hw hB⟩⟩
theorem Bs.drew {w : World} {a : Option Addr} {n c : Nat} {l : List UInt8} (h : Bs w a n c l) : Bs w.drew a n c l := ⟨h.len, h.cap, h.bnd, h.lbnd, h.nil', h.at'⟩
theorem Bs.nil {w : World} : Bs w none 0 0 [] := ⟨rfl, Nat.le_refl _, by simp, by simp, fun _ => rfl, .inl rfl⟩
theorem Bs.lenle {w : World} {a : Option Addr} {n c : Nat} {l : List UInt8} (h : Bs w a n c l) : l.length ≤ 140737488351232 := by have := h.len; have := h.lbnd; omega

theorem Reads.cons {w : World} {b o : Nat} {u : Value} {xs : List Value} (h : Reads w b o (u :: xs)) : w.cell? ⟨b, o, none⟩ = some u ∧ Reads w b (o + 1) xs :=
  ⟨h 0 u rfl, fun j v hj => by have := h (j + 1) v (by simpa using hj); rw [Nat.add_assoc, Nat.add_comm 1 j]; exact this⟩

/-- what an owned row of bytes reads -/
theorem ownsRow_bs {w : World} {base n : Nat} {e : TypeId} {v : Value} {l : List UInt8} (h : w.ownsRow base e 1 v n (bs l)) :
    ∃ a c, v = .slice a n c ∧ n = l.length ∧ n ≤ c ∧ (a = none → c = 0) ∧ (∀ x, a = some x → base ≤ x.block ∧ x.off = 0 ∧ x.spot = none ∧ x.block < w.heap.size ∧ v.ownBlock = some x.block) ∧
      (l = [] ∨ ∃ b o, a = some ⟨b, o, none⟩ ∧ Reads w b o (bs l)) := by
  have hn : n = l.length := by have := h.1; rw [bs_length] at this; omega
  rcases h.2 with ⟨rfl, rfl⟩ | ⟨g, cap, cur, rfl, hb', hg, hnc, hcm, hcs, htake⟩
  · have : l = [] := List.eq_nil_of_length_eq_zero hn.symm
    subst this
    exact ⟨none, 0, rfl, rfl, Nat.le_refl _, fun _ => rfl, (fun x hx => by cases hx), .inl rfl⟩
  · refine ⟨some ⟨g, 0, none⟩, cap, rfl, hn, hnc, (fun h => by cases h), ?_, .inr ⟨g, 0, rfl, fun j u hu => ?_⟩⟩
    · intro x hx
      cases hx
      exact ⟨hb', rfl, rfl, (Array.getElem?_eq_some_iff.1 hg).1, rfl⟩
    · have := h.cells (g := g) rfl j u hu
      have hadd : (⟨g, 0, none⟩ : Addr).add j = ⟨g, 0 + j, none⟩ := by unfold Addr.add; split <;> simp_all
      rw [hadd] at this; exact this

theorem ownsRow_cap {w : World} {base n c : Nat} {e : TypeId} {a : Option Addr} {xs : List Value} (h : w.ownsRow base e 1 (.slice a n c) n xs) : c ≤ 9223372036854775807 := by
  rcases h.2 with ⟨e1, e2⟩ | ⟨g, cap, cur, e1, _, _, _, hc, _⟩
  · cases e1; omega
  · cases e1; unfold maxLen at hc; omega
theorem ownsRow_some {w : World} {base n c : Nat} {e : TypeId} {a : Option Addr} {l : List UInt8} (h : w.ownsRow base e 1 (.slice a n c) n (bs l)) (hn : 0 < n) : ∃ g, a = some ⟨g, 0, none⟩ ∧ base ≤ g ∧ g < w.heap.size ∧ Reads w g 0 (bs l) := by
  obtain ⟨a', c', e1, e2, e3, e4, e5, e6⟩ := ownsRow_bs h
  cases e1
  rcases e6 with e6 | ⟨b, o, rfl, hr⟩
  · subst e6; simp at e2; omega
  · obtain ⟨h1, h2, _, h4, _⟩ := e5 _ rfl
    simp only at h1 h2 h4
    subst h2
    exact ⟨b, rfl, h1, h4, hr⟩
section
variable {P : Program}
/-- 'append' onto a slice of the call's own, WHATEVER IS APPENDED (nil too). -/
theorem run_append_any (w : World) (base : Nat) (t ty e : TypeId) (i : TypeInfo) (z : Value) (size bytes : Nat) (ht : P.underlying t = some (.slice e)) (hi : P.info? e = some i) (hz : i.zero = some z)
    (hsize : i.size = size) (hby : i.bytes = bytes) (hzs : z.cells.size = size) (hsz : 0 < size)
    (v : Value) (n : Nat) (xs : List Value) (hown : w.ownsRow base e size v n xs)
    (ao : Option Addr) (m c : Nat) (news : List Value) (hl : news.length = m * size) (hnone : ao = none → m = 0 ∧ c = 0) (hnews : ∀ ad, ao = some ad → ∀ j u, news[j]? = some u → w.cell? (ad.add j) = some u) (h1 : ∀ u ∈ news, u.oneCell' = true)
    (h63 : n + m ≤ maxLen) (hbytes : (n + m) * bytes ≤ 140737488355328) (hbase : base ≤ w.heap.size) :
    ∃ v' w', (Builtin.append_ #[t, t] ty #[v, .slice ao m c]).run P w = .ok v' w' ∧ w'.ownsRow base e size v' (n + m) (xs ++ news) ∧ w.grownBy w' v.ownBlock ∧ (v'.ownBlock = v.ownBlock ∨ ∃ k, v'.ownBlock = some k ∧ w.heap.size ≤ k) := by
  cases ao with
  | none =>
    obtain ⟨rfl, rfl⟩ := hnone rfl
    have hnews : news = [] := List.eq_nil_of_length_eq_zero (by simpa using hl)
    subst hnews
    have hrun := run_append_owned_none (P := P) w base t ty e i size ht hi v n xs hown
    exact ⟨v, w, hrun, by simpa using hown, World.grownBy.refl _ _, .inl rfl⟩
  | some ad =>
    obtain ⟨v', w', hrun, ho, hg, hn⟩ := run_append_own (P := P) w base t ty e i z size bytes ht hi hz hsize hby hzs hsz v n xs hown ad m c news hl (hnews ad rfl) h1 h63 hbytes hbase
    refine ⟨v', w', hrun, ho, hg, ?_⟩
    rcases ho.2 with ⟨rfl, _⟩ | ⟨g', cap', cur', rfl, hb, hgg, _⟩
    · have := (hn.1 rfl).1; subst this; exact .inl rfl
    · rcases hown.2 with ⟨rfl, rfl⟩ | ⟨g, cap, cur, rfl, hbg, hg0, hnc, hcm, hcs, htake⟩
      · by_cases hk : w.heap.size ≤ g'
        · exact .inr ⟨g', rfl, hk⟩
        · -- a nil slice never leads into an elder block: it owned nothing
          exfalso
          have hx : xs = [] := List.eq_nil_of_length_eq_zero (by simpa using hown.1)
          subst hx
          have hm : m ≠ 0 := fun e => by have := hn.2 ⟨rfl, e⟩; cases this
          subst hsize; subst hby
          have hr := run_append_nil (P := P) w t ty e i z ht hi hz ad m c news hl (hnews ad rfl) (by omega) (by unfold maxLen at h63; omega) (by simp only [Nat.zero_add] at hbytes; omega)
          rw [hr] at hrun
          simp only [Result.ok.injEq, Value.slice.injEq, Option.some.injEq, Addr.mk.injEq] at hrun
          omega
      · subst hsize; subst hby
        by_cases hroom : n + m ≤ cap
        · have hr := run_append_room (P := P) w t ty e i ht hi g n cap cur hg0 ad m c news hl (hnews ad rfl) h1 hroom (by rw [hl, hcs, ← Nat.add_mul]; exact Nat.mul_le_mul_right _ hroom)
          rw [hr] at hrun
          simp only [Result.ok.injEq, Value.slice.injEq, Option.some.injEq, Addr.mk.injEq] at hrun
          left
          simp only [Value.ownBlock]
          exact congrArg some hrun.1.1.1.symm
        · have holds : ∀ j u, xs[j]? = some u → w.cell? ((⟨g, 0, none⟩ : Addr).add j) = some u := hown.cells (g := g) rfl
          have hr := run_append_grow (P := P) w t ty e i z ht hi hz ⟨g, 0, none⟩ n cap xs hown.1 holds ad m c news hl (hnews ad rfl) (by omega) (by unfold maxLen at h63; omega) (growslice_fits (by omega) hbytes)
          rw [hr] at hrun
          simp only [Result.ok.injEq, Value.slice.injEq, Option.some.injEq, Addr.mk.injEq] at hrun
          exact .inr ⟨g', rfl, by omega⟩

/-- the same for bytes that a slice reads -/
theorem run_append_bytes {i : TypeInfo} (w : World) (base : Nat) (t ty e : TypeId) (ht : P.underlying t = some (.slice e)) (hi : P.info? e = some i) (hz : i.zero = some (.int .u8 0)) (hsize : i.size = 1) (hby : i.bytes = 1)
    (v : Value) (n : Nat) (xs : List UInt8) (hown : w.ownsRow base e 1 v n (bs xs)) (ao : Option Addr) (m c : Nat) (ys : List UInt8) (hy : Bs w ao m c ys) (hb : n + m ≤ 140737488355328) (hbase : base ≤ w.heap.size) :
    ∃ v' w', (Builtin.append_ #[t, t] ty #[v, .slice ao m c]).run P w = .ok v' w' ∧ w'.ownsRow base e 1 v' (n + m) (bs (xs ++ ys)) ∧ w.grownBy w' v.ownBlock ∧ (v'.ownBlock = v.ownBlock ∨ ∃ k, v'.ownBlock = some k ∧ w.heap.size ≤ k) := by
  have hm := hy.len
  have hc := hy.cap
  have := run_append_any (P := P) w base t ty e i (.int .u8 0) 1 1 ht hi hz hsize hby rfl (by decide) v n (bs xs) hown ao m c (bs ys) (by rw [bs_length]; omega)
    (fun h => by have := hy.nil' h; omega)
    (fun ad had j u hj => by
      rcases hy.at' with e | ⟨b, o, e, hr⟩
      · subst e; simp [bs] at hj
      · rw [e] at had; cases had
        have hadd : (⟨b, o, none⟩ : Addr).add j = ⟨b, o + j, none⟩ := by unfold Addr.add; split <;> simp_all
        rw [hadd]; exact hr j u hj)
    (bs_one ys) (by unfold maxLen; omega) (by omega) hbase
  rw [bs_append]; exact this

theorem wpList_append_bytes {i : TypeInfo} {ops : Array Oper} {rest : List Oper} {o : Oper} {a : Act} {w : World} {Q : Exit → Act → World → Prop} (hgd : o.guard = none) (s x : Operand) (t : TypeId)
    (ho : o.op = .call { callee := .builtin .append, args := #[s, x], argTypes := #[t, t] }) (base : Nat) (e : TypeId)
    (ht : P.underlying t = some (.slice e)) (hi : P.info? e = some i) (hz : i.zero = some (.int .u8 0)) (hsize : i.size = 1) (hby : i.bytes = 1)
    (v : Value) (n : Nat) (xs : List UInt8) (hs : a.eval s = v) (hown : w.ownsRow base e 1 v n (bs xs)) (ao : Option Addr) (m c : Nat) (ys : List UInt8) (hx : a.eval x = .slice ao m c) (hy : Bs w ao m c ys) (hb : n + m ≤ 140737488355328) (hbase : base ≤ w.heap.size)
    (h : ∀ v' w', w'.ownsRow base e 1 v' (n + m) (bs (xs ++ ys)) → w.grownBy w' v.ownBlock → (v'.ownBlock = v.ownBlock ∨ ∃ k, v'.ownBlock = some k ∧ w.heap.size ≤ k) → wpList P ops Q rest (a.put o.dst v') w') : wpList P ops Q (o :: rest) a w := by
  refine wpList_plain hgd fun K hK => ?_
  obtain ⟨v', w', hr, h2, h3, h4⟩ := run_append_bytes (P := P) w base t o.type e ht hi hz hsize hby v n xs hown ao m c ys hy hb hbase
  unfold Oper.wp execOp
  simp only [ho, resolve, invoke, builtin, Sem.run_bind, Sem.run_pure, Result.andThen_ok, List.map_toArray, List.map_cons, List.map_nil, hs, hx, hr]
  exact hK _ _ (h v' w' h2 h3 h4)

theorem step_append_bytes {i : TypeInfo} {ops : Array Oper} {o : Oper} {a : Act} {w : World} {K : Act → World → Prop} {Q : Exit → Act → World → Prop} {E : Prop} (hgd : o.guard = none) (s x : Operand) (t : TypeId)
    (ho : o.op = .call { callee := .builtin .append, args := #[s, x], argTypes := #[t, t] }) (base : Nat) (e : TypeId)
    (ht : P.underlying t = some (.slice e)) (hi : P.info? e = some i) (hz : i.zero = some (.int .u8 0)) (hsize : i.size = 1) (hby : i.bytes = 1)
    (v : Value) (n : Nat) (xs : List UInt8) (hs : a.eval s = v) (hown : w.ownsRow base e 1 v n (bs xs)) (ao : Option Addr) (m c : Nat) (ys : List UInt8) (hx : a.eval x = .slice ao m c) (hy : Bs w ao m c ys) (hb : n + m ≤ 140737488355328) (hbase : base ≤ w.heap.size)
    (h : ∀ v' w', w'.ownsRow base e 1 v' (n + m) (bs (xs ++ ys)) → w.grownBy w' v.ownBlock → (v'.ownBlock = v.ownBlock ∨ ∃ k, v'.ownBlock = some k ∧ w.heap.size ≤ k) → K (a.put o.dst v') w') :
    if Region.wanted o (yielded ops a.tmps) = true then Oper.wp P o a w K Q else E := by
  have hw : Region.wanted o (yielded ops a.tmps) = true := by simp [Region.wanted, hgd]
  rw [if_pos hw]
  obtain ⟨v', w', hr, h2, h3, h4⟩ := run_append_bytes (P := P) w base t o.type e ht hi hz hsize hby v n xs hown ao m c ys hy hb hbase
  unfold Oper.wp execOp
  simp only [ho, resolve, invoke, builtin, Sem.run_bind, Sem.run_pure, Result.andThen_ok, List.map_toArray, List.map_cons, List.map_nil, hs, hx, hr]
  exact h v' w' h2 h3 h4
end
/-- below block B all is as it was, but in the blocks of S -/
structure Only (B : Nat) (S : Nat → Prop) (w w' : World) : Prop where
  os : w'.os = w.os
  tape : w'.tape = w.tape
  output : w'.output = w.output
  size : w.heap.size ≤ w'.heap.size
  block : ∀ k, k < B → ¬ S k → w'.heap[k]? = w.heap[k]?

namespace Only
variable {B : Nat} {S S' : Nat → Prop} {a w w' : World}
theorem refl (B : Nat) (S : Nat → Prop) (w : World) : Only B S w w := ⟨rfl, rfl, rfl, Nat.le_refl _, fun _ _ _ => rfl⟩
theorem trans (h : Only B S a w) (k : Only B S w w') : Only B S a w' := ⟨k.os.trans h.os, k.tape.trans h.tape, k.output.trans h.output, Nat.le_trans h.size k.size, fun i hi hs => (k.block i hi hs).trans (h.block i hi hs)⟩
theorem weaken (h : Only B S a w) (hs : ∀ k, k < B → S k → S' k) : Only B S' a w := ⟨h.os, h.tape, h.output, h.size, fun i hi hn => h.block i hi fun x => hn (hs i hi x)⟩
theorem mono {B' : Nat} (h : Only B S a w) (hB : B' ≤ B) : Only B' S a w := ⟨h.os, h.tape, h.output, h.size, fun i hi hn => h.block i (by omega) hn⟩
theorem below (h : Only B S a w) {B' : Nat} (hB : B' ≤ B) (hs : ∀ k, S k → B' ≤ k) : Below B' a w := ⟨h.os, h.tape, h.output, h.size, fun i hi => h.block i (by omega) fun x => by have := hs i x; omega⟩
theorem of_below (h : Below B a w) : Only B S a w := ⟨h.os, h.tape, h.output, h.size, fun i hi _ => h.block i hi⟩
theorem drew (h : Only B S a w) : Only B S a w.drew := ⟨h.os, h.tape, h.output, h.size, h.block⟩
theorem drewN (h : Only B S a w) (n : Nat) : Only B S a (w.drewN n) := ⟨h.os, h.tape, h.output, h.size, h.block⟩
theorem alloc (h : Only B S a w) (hB : B ≤ w.heap.size) (o : Obj) : Only B S a (w.alloc o) := h.trans (of_below ((Below.refl _ _).alloc hB o))
theorem setCell (h : Only B S a w) {p : Addr} (hp : B ≤ p.block ∨ S p.block) (u : Value) : Only B S a (w.setCell p u) := by
  refine h.trans ⟨rfl, rfl, rfl, by simp [World.setCell], fun k hk hn => Below.heap_setCell w p u k ?_⟩
  rcases hp with h | h
  · omega
  · intro e; exact hn (e ▸ h)
theorem grown {row : Option Nat} (h : Only B S a w) (hg : w.grownBy w' row) (hB : B ≤ w.heap.size) (hr : ∀ k, row = some k → B ≤ k ∨ S k) : Only B S a w' := by
  refine h.trans ⟨hg.os, hg.tape, hg.output, hg.size, fun k hk hn => hg.block k (by omega) (fun e => ?_)⟩
  rcases hr k e.symm with h | h
  · omega
  · exact hn h
theorem cell (h : Only B S a w) {p : Addr} (hp : p.block < B) (hn : ¬ S p.block) : w.cell? p = a.cell? p := World.cell?_of_block (w := a) (h.block _ hp hn)
theorem frozen (h : Only B S a w) {p : Addr} (hp : p.block < B) (hn : ¬ S p.block) : w.frozen? p = a.frozen? p := World.frozen?_of_block (w := a) (h.block _ hp hn)
end Only

theorem Reads.only {w w' : World} {b o B : Nat} {S : Nat → Prop} {xs : List Value} (h : Reads w b o xs) (hw : Only B S w w') (hB : w.heap.size ≤ B) (hn : ¬ S b) : Reads w' b o xs := by
  intro j u hj
  have hc := h j u hj
  have := lt_of_cell hc
  rw [hw.cell (p := ⟨b, o + j, none⟩) (by show b < B; omega) hn]; exact hc

/-- a region whose operations but the last ones only read: the walk in the text's order -/
theorem still_tail {P : Program} {id : Nat} {Q : Exit → Act → World → Prop} {a : Act} {w : World} {l : List Oper} (n : Nat) (hm : P.follows .mixedOrders = true) (hB : Region.lexTailB .any l.toArray n = true)
    (h : wpStill P l.toArray w.drew (fun a' => wpList P l.toArray Q (l.drop n) a' w.drew) (l.take n) a) : (Code.region id l.toArray true).wp P Q a w :=
  wp_region_still_tail n hm hB h

theorem quiet_add {P : Program} {f : FuncId} {args : Array Value} {w : World} {a n : Nat} {v : Value}
    (h : Calls P f args (w.drewN (a + n)) fun e w' => e = .returned v ∧ ∃ m, w' = (w.drewN (a + n)).drewN m) :
    Calls P f args (w.drewN (a + n)) fun e w'' => e = .returned v ∧ ∃ m, w'' = w.drewN (a + m) :=
  h.mono fun _ _ ⟨he, m, hm⟩ => ⟨he, n + m, by rw [hm, World.drewN_drewN, Nat.add_assoc]⟩
theorem quiet_add_same {P : Program} {f : FuncId} {args : Array Value} {w : World} {a n : Nat} {v : Value}
    (h : Calls P f args (w.drewN (a + n)) fun e w' => e = .returned v ∧ w' = w.drewN (a + n)) :
    Calls P f args (w.drewN (a + n)) fun e w'' => e = .returned v ∧ ∃ m, w'' = w.drewN (a + m) :=
  h.mono fun _ _ ⟨he, hm⟩ => ⟨he, n, hm⟩
theorem below_drewN (w : World) (n : Nat) : Below w.heap.size w (w.drewN n) := ⟨rfl, rfl, rfl, Nat.le_refl _, fun _ _ => rfl⟩
end Go.Proofs.YtgkddjefmonlaaaGreatDoor
