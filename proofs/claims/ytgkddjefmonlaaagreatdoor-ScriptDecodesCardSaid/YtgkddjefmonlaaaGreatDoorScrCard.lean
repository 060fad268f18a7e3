/-
  The card's parts that all laws of this seat share: a world for the witness, what 'laid' gives, a law's last step.
-/
import Derived.Test.YtgkddjefmonlaaaGreatDoorCards
import Derived.Test.YtgkddjefmonlaaaGreatDoorTie
import Derived.Test.YtgkddjefmonlaaaGreatDoorScrP
import Derived.Test.YtgkddjefmonlaaaGreatDoorShelf
import Derived.WalkKit
import Derived.ProofKit
import Derived.OpenShut
import Derived.Deep.DeepHandedRow
import Derived.Deep.DeepWitnessRowRef
import Derived.Stop.LaidErr
import Derived.Lib.LaidTab
import Derived.WideKeyArgs
namespace Go.Proofs.YtgkddjefmonlaaaGreatDoor
open Go.ChangeShapes Go.WideShapes Go.ChangeAt Go.RowKit

theorem own : ownKnob Tryz.prog.godebug = none := by kernel_rfl
theorem laidOut' : laidOutB Tryz.prog = true := by kernel_rfl
theorem star : "*" ++ "errors.errorString" = "*errors.errorString" := by decide
theorem rowErr (u : TypeId) (h : Tryz.prog.typeName? 3 u = some "*errors.errorString") : u = 173 :=
  typeName_ptr_named (nm := "errors.errorString") (by rw [star]; kernel_rfl) (by kernel_rfl) (by decide) u (by rw [star]; exact h)

/-- A WORLD FOR THE WITNESS: the settled one, two blocks more (the two errors' structs), the variables holding what their initialisers lay. -/
noncomputable def laidWorld (os : Os) : World :=
  let N := (World.settled Tryz.prog os).heap.size
  let w0 := World.holding Tryz.prog os ⟨#[.cells #[.string ⟨#[118, 97, 108, 117, 101, 32, 111, 117, 116, 32, 111, 102, 32, 114, 97, 110, 103, 101]⟩] 175, .cells #[.string ⟨#[105, 110, 118, 97, 108, 105, 100, 32, 115, 121, 110, 116, 97, 120]⟩] 175], #[], []⟩
  let put (h : Array Obj) (g : Nat) (cs : Array Value) : Array Obj := h.modify g fun
    | .cells _ t frozen => .cells cs t frozen
    | o => o
  let h0 := put w0.heap 7 (([0, 1, 28, 2, 29, 14, 24, 3, 30, 22, 20, 15, 25, 17, 4, 8, 31, 27, 13, 23, 21, 19, 16, 7, 26, 12, 18, 6, 11, 5, 10, 9] : List Int).map (Value.int .u8)).toArray
  let h1 := put h0 8 (([0, 1, 56, 2, 57, 49, 28, 3, 61, 58, 42, 50, 38, 29, 17, 4, 62, 47, 59, 36, 45, 43, 51, 22, 53, 39, 33, 30, 24, 18, 12, 5, 63, 55, 48, 27, 60, 41, 37, 16, 46, 35, 44, 21, 52, 32, 23, 11, 54, 26, 40, 15, 34, 20, 31, 10, 25, 14, 19, 9, 13, 8, 7, 6] : List Int).map (Value.int .u8)).toArray
  let h2 := put h1 2 (([1, 10, 100, 1000, 10000, 100000, 1000000, 10000000, 100000000, 1000000000, 10000000000, 100000000000, 1000000000000, 10000000000000, 100000000000000, 1000000000000000, 10000000000000000, 100000000000000000, 1000000000000000000, 10000000000000000000] : List Int).map (Value.int .u64)).toArray
  let h3 := put h2 4 (([128, 191, 160, 191, 128, 159, 144, 191, 128, 143, 0, 0, 0, 0, 0, 0, 0, 0, 0, 0, 0, 0, 0, 0, 0, 0, 0, 0, 0, 0, 0, 0] : List Int).map (Value.int .u8)).toArray
  let h4 := put h3 6 #[.iface 173 (.pointer (some ⟨N, 0, none⟩))]
  let h5 := put h4 5 #[.iface 173 (.pointer (some ⟨N + 1, 0, none⟩))]
  let h6 := put h5 3 (Go.Pinned.utf8FirstZ.map fun (z : Nat) => Value.int .u8 (z : Int)).toArray
  { w0 with heap := h6 }

/-- the list of all laws' rows -/
def seatLaid : List (String × DataW Unit) := Rows.scriptDecodesRow.laid
theorem laid_met (os : Os) (args : Array Value) : laidMet Tryz.prog seatLaid ((laidWorld os).forCall (fun _ _ => 0) ⟨#[], args, []⟩).memory :=
  laidMet_of_run' 8 (by kernel_rfl) (by kernel_rfl)

theorem cellsArr : Tryz.prog.cellsOf 149 = 20 := by kernel_rfl
theorem cellsU64 : Tryz.prog.cellsOf 65 = 1 := by kernel_rfl
/-- what 'laid' and the world's shape give -/
theorem env_of {W : World} (hL : laidMetH Tryz.prog seatLaid W) (hsh : W.ShapedOpen Tryz.prog) (hsz : nGlob ≤ W.heap.size) : Env W := by
  have h : laidMet Tryz.prog seatLaid W := hL
  have h2 : laidMet Tryz.prog (("internal/strconv.uint64pow10", Lib.tabData .u64 Lib.pow10Tab) :: (seatLaid.drop 3)) W := h.tail.tail
  have h4 := h.tail.tail.tail.tail
  obtain ⟨m, hm⟩ := Tryz.laysM146.s1_3 W hsh
  obtain ⟨a0, t0, hv0, -⟩ := laid_sentinel (g := 6) h4 (by kernel_rfl) (by kernel_rfl) Tryz.underlying110 rowErr Tryz.underlying173 Tryz.underlying175 rfl rfl Tryz.underlying9 (by kernel_rfl) (by kernel_rfl)
  obtain ⟨a1, t1, hv1, -⟩ := laid_sentinel (g := 5) h4.tail (by kernel_rfl) (by kernel_rfl) Tryz.underlying110 rowErr Tryz.underlying173 Tryz.underlying175 rfl rfl Tryz.underlying9 (by kernel_rfl) (by kernel_rfl)
  exact ⟨Lib.tabIs_of_head (rest := seatLaid.drop 3) (g := 2) (by kernel_rfl) (by kernel_rfl) Tryz.underlying149 Tryz.underlying65 cellsU64 cellsArr h2, ⟨_, _, hv1⟩, ⟨_, _, hv0⟩, ⟨m, hm⟩, hsz⟩

section
variable {H : Type} {enc : TypeId × Value → H}
theorem trodAll_stays {W W' : World} {sp' : Nat → Bool} : ∀ {ts : List TypeId} {vs : List Value} {ds : List (DataW H)} {ps : List MemPlace}, (∀ t ∈ ts, Tryz.prog.readableRec t = true ∧ t < Tryz.prog.types.size) → DataW.TrodAll enc Tryz.prog W 0 (fun _ => true) true ts vs ds ps → (∀ p ∈ ps, W.sameAt W' p) → (∀ p ∈ ps, sp' p.block = true) → DataW.TrodAll enc Tryz.prog W' 0 sp' true ts vs ds ps
  | [], [], [], _, _, h, _, _ => h
  | _ :: _, _ :: _, _ :: _, _, hT, ⟨p, q, h1, h2, e⟩, hsame, hs =>
    ⟨p, q, WideElems.Trod_stays laidOut' (hT _ (List.mem_cons.2 (.inl rfl))).1 (hT _ (List.mem_cons.2 (.inl rfl))).2 h1 (fun x hx => hsame x (by rw [e]; exact List.mem_append_left _ hx)) (fun x hx => hs x (by rw [e]; exact List.mem_append_left _ hx)),
      trodAll_stays (fun t ht => hT t (List.mem_cons.2 (.inr ht))) h2 (fun x hx => hsame x (by rw [e]; exact List.mem_append_right _ hx)) (fun x hx => hs x (by rw [e]; exact List.mem_append_right _ hx)), e⟩

/-- A LAW's LAST STEP: it answered true, and memory that was there is as it was. -/
theorem law_post {fn : Func} {s : ChangeSpec} {W W' : World} {args : Array Value} {ds gs : List (DataW H)} {before : List MemPlace}
    (hW : DataW.Whole enc Tryz.prog fn.params.toList s.vars false W args.toList ds gs before) (hv : s.vars = []) (hf : s.fn H (ds ++ gs) = { results := [.lit (.bool true)], args := ds, vars := [] })
    (hr : fn.resultTypes = #[4]) (hT : ∀ t ∈ fn.params.toList, Tryz.prog.readableRec t = true ∧ t < Tryz.prog.types.size) (hb : Below W.heap.size W W') :
    s.post enc Tryz.prog fn false true false false W args (.bool true) W' := by
  have hW' := hW
  obtain ⟨p, q, hA, hV, e, _, _⟩ := hW
  have hlt : ∀ x ∈ before, x.block < W.heap.size := fun x hx => DataW.Whole.lt hW' x hx
  rw [hv] at hV
  obtain ⟨rfl, rfl⟩ := trodVars_none hV
  refine ⟨ds, [], before, [], p, [], hW', ?_, ?_, ?_, hb.frame _, fun h => by cases h⟩
  · rw [hf, hr]
    exact trodAll_mk1 (shut_bool Tryz.underlying4 true)
  · rw [hf]
    exact trodAll_stays hT hA (fun x hx => hb.same (hlt x (by rw [e]; exact List.mem_append_left _ hx))) (fun x hx => by simpa using hlt x (by rw [e]; exact List.mem_append_left _ hx))
  · rw [hf, hv]
    rfl
set_option maxRecDepth 100000 in
theorem okWide_block {W : World} {base : Nat} {t e : TypeId} {a : Addr} {n c : Nat} (ht : Tryz.prog.underlying t = some (.slice e)) (h : Value.okWide Tryz.prog W .any base t (.slice (some a) n c)) : a.block < W.heap.size := by
  simp only [Value.okWide, ht, Cell.okWide, Cell.ok, World.has] at h
  obtain ⟨_, _, _, _, row, cells, hs, _⟩ := h
  unfold World.shape? at hs
  by_cases hb : a.block < W.heap.size
  · exact hb
  · rw [Array.getElem?_eq_none (by omega)] at hs
    simp at hs
set_option maxRecDepth 100000 in
/-- a slice of bytes that came in -/
theorem open_bs {W : World} {base : Nat} {v : Value} {d : DataW H} {p : List MemPlace} (hval : Value.okWide Tryz.prog W .any base 23 v) (h1 : DataW.Trod enc Tryz.prog W 0 (fun _ => true) true 23 v d p) :
    ∃ a n c, v = .slice a n c ∧ n ≤ 9223372036854775807 ∧ (n ≤ 100000 → ∃ l, Bs W a n c l ∧ ∀ x, a = some x → x.block < W.heap.size) := by
  obtain ⟨a1, len, cap, rfl⟩ := okWide_slice Tryz.underlying23 hval
  obtain ⟨fuel, hf⟩ := h1
  rcases open_ints Tryz.underlying23 Tryz.underlying5 (by kernel_rfl) hf with ⟨hcs, hx⟩ | ⟨a, len', cap', zs, hcs, _, hl, hm, hz, hx, hcell, hwz⟩
  · simp [Value.cells] at hcs
    obtain ⟨rfl, rfl, rfl⟩ := hcs
    exact ⟨none, 0, 0, rfl, by omega, fun _ => ⟨[], Bs.nil, fun x hx => by cases hx⟩⟩
  · simp [Value.cells] at hcs
    obtain ⟨rfl, rfl, rfl⟩ := hcs
    simp only [if_true] at hz
    unfold maxLen at hm
    have hlt := okWide_block Tryz.underlying23 hval
    refine ⟨some a, len, cap, rfl, by omega, fun h9 => ?_⟩
    by_cases h0 : len = 0
    · subst h0
      exact ⟨[], ⟨rfl, hl, by omega, by omega, (fun h => by cases h), .inl rfl⟩, fun x hx => by cases hx; exact hlt⟩
    obtain ⟨b, off, spot⟩ := a
    have hspot : spot = none := by simpa [Addr.add] using World.cell?_spot (hcell 0 (by omega))
    subst hspot
    have hrd : Reads W b off (bs ((zs.take len).map fun n => UInt8.ofNat n.toNat)) := by
      intro j u hj
      have hjl : j < len := by
        have := (List.getElem?_eq_some_iff.1 hj).1
        simp [bs] at this; omega
      have hc := hcell j (by omega)
      rw [Addr.add_lit] at hc
      rw [hc]
      have hb := range_u8 hwz j
      simp [bs, vb, hjl, show j < zs.length from by omega] at hj
      rw [← hj]
      simp [show j < zs.length from by omega] at hb ⊢
      omega
    exact ⟨(zs.take len).map fun n => UInt8.ofNat n.toNat, ⟨by simp; omega, hl, by omega, by omega, (fun h => by cases h), .inr ⟨b, off, rfl, hrd⟩⟩, fun x hx => by cases hx; exact hlt⟩
end
end Go.Proofs.YtgkddjefmonlaaaGreatDoor
