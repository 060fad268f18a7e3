/-
  For every slice of bytes, ScriptDecodes of thimblelaw25 returns true and leaves its argument as it was. No condition beyond the row's own: the seven package-level variables that the row lists start as the program's text lays them, which the card ties.
-/
import Derived.Test.YtgkddjefmonlaaaGreatDoorScrDec
import Derived.Test.YtgkddjefmonlaaaGreatDoorScrCard
namespace Go.Proofs.YtgkddjefmonlaaaGreatDoor
open Go.ChangeShapes Go.WideShapes Go.ChangeAt Go.RowKit

set_option maxRecDepth 100000 in
theorem law_Decodes_great (a : Option Addr) (n c : Nat) (w : World) (hn : 9000 < n) (hn2 : n ≤ 9223372036854775807) (hE : Env w) :
    Calls Tryz.prog 4 #[.slice a n c] w fun e w' => e = .returned (.bool true) ∧ Below w.heap.size w w' := by
  have h9' : (9000 : Int) < (n : Int) := by omega
  go_enter Tryz.func4, Tryz.ntmps4
  go_wp2_with (go_at_call 9; refine (awake_true _ hE).mono ?_; rintro e w' ⟨rfl, hb⟩)
  go_ret
  exact ⟨rfl, hb⟩

theorem globals_size : Tryz.prog.globals.size = 9 := by kernel_rfl
/-- the variables' blocks are there -/
theorem glob_le {W : World} (hsh : W.ShapedOpen Tryz.prog) : nGlob ≤ W.heap.size := by
  obtain ⟨m, hm⟩ := Tryz.laysM146.s1_3 W hsh
  have h8 : ((begin Tryz.prog (fun _ _ => 0) default).world.heap[8]?).bind Obj.row? ≠ none := by
    have : (((begin Tryz.prog (fun _ _ => 0) default).world.heap[8]?).bind Obj.row?).isSome = true := by kernel_rfl
    intro e; rw [e] at this; cases this
  obtain ⟨zt, hz⟩ := Option.ne_none_iff_exists'.1 h8
  obtain ⟨zero, t⟩ := zt
  obtain ⟨cs, hcs, _⟩ := hsh.1 8 zero t (by rw [globals_size]; decide) hz
  have := (Array.getElem?_eq_some_iff.1 hcs).1
  unfold nGlob; omega

set_option maxRecDepth 100000 in
theorem dec_contract (H : Type) (enc : TypeId × Value → H) (W : World) (base : Nat) (args : Array Value) (ds gs : List (DataW H)) (before : List MemPlace)
    (hval : ∀ (j : Nat) t v, Tryz.f4.params[j]? = some t → args[j]? = some v → Value.okWide Tryz.prog W .any base t v)
    (hW : DataW.Whole enc Tryz.prog Tryz.f4.params.toList Rows.scriptDecodesSpec.vars false W args.toList ds gs before) (hL : laidMetH Tryz.prog Rows.scriptDecodesRow.laid W) (hsh : W.ShapedOpen Tryz.prog) :
    Calls Tryz.prog 4 args W fun e W' => ∃ v, e = .returned v ∧ Rows.scriptDecodesSpec.post enc Tryz.prog Tryz.f4 false true false false W args v W' := by
  have hE := env_of hL hsh (glob_le hsh)
  have hW' := hW
  obtain ⟨p, q, hA0, hV, rfl, hfz, hnd⟩ := hW
  have hA : DataW.TrodAll enc Tryz.prog W 0 (fun _ => true) true Tryz.f4.params.toList args.toList ds p := hA0
  rw [Tryz.params4] at hA hval
  obtain ⟨v0, d0, rfl, rfl, h0⟩ := trodAll_one hA
  obtain ⟨rfl, rfl⟩ := trodVars_none hV
  obtain ⟨a, n, c, rfl, hn, hbs⟩ := open_bs (hval 0 23 v0 rfl rfl) h0
  have walk : Calls Tryz.prog 4 #[.slice a n c] W fun e w' => e = .returned (.bool true) ∧ Below W.heap.size W w' := by
    by_cases h9 : n ≤ 9000
    · obtain ⟨l, hb, hs⟩ := hbs (by omega)
      exact law_ScriptDecodes a n c l W hb hs hE
    · exact law_Decodes_great a n c W (by omega) hn hE
  refine walk.mono fun e W' ⟨he, hb⟩ => ?_
  subst he
  exact ⟨_, rfl, law_post hW' rfl rfl (by rfl) (by intro t ht; rw [Tryz.params4] at ht; simp at ht; subst ht; exact ⟨by kernel_rfl, of_decide_eq_true (by kernel_rfl)⟩) hb⟩

theorem dec_reads (os : Os) {H : Type} (enc : TypeId × Value → H) : ∃ places, DataW.whole enc Tryz.prog ((laidWorld os).forCall (fun _ _ => 0) ⟨#[], #[.slice none 0 0], []⟩).memory Tryz.f4.params.toList Rows.scriptDecodesSpec.vars false #[Value.slice none 0 0].toList 8 = some ([.nil], [], places) :=
  ⟨[], by kernel_rfl⟩

set_option maxRecDepth 100000 in
theorem dec_lifted (os : Os) (started : os.Started) (H : Type) (enc : TypeId × Value → H) (F : Stop.Interp) :
    ReturnsInHanded {} Tryz.checked os 4 .any ((OpenSpec.ofChange Rows.scriptDecodesSpec).preRow enc Tryz.prog Tryz.f4 Rows.scriptDecodesRow.domain false Rows.scriptDecodesRow.laid) (((OpenSpec.ofChange Rows.scriptDecodesSpec).at F).post enc Tryz.prog Tryz.f4 false true false false) := by
  obtain ⟨places, hx⟩ := dec_reads os enc
  refine returnsInHanded_of_row (C := Tryz.checked) (s := OpenSpec.ofChange Rows.scriptDecodesSpec) own started (by kernel_rfl) Tryz.func4
    (witness_row_atRef (enc := enc) (C := Tryz.checked) false (laidWorld os) #[.slice none 0 0] rfl (by kernel_rfl) (by kernel_rfl) (by kernel_rfl)
      (OpenSpec.preRow_of_cond 8 hx (by kernel_rfl) (fun k hk => by cases hk) (by kernel_rfl) (laid_met os _))) ?_
  intro W base args ds gs before hval hW _ _ _ hL hsh _
  exact dec_contract H enc W base args ds gs before hval hW hL hsh

theorem dec_said : Rows.ScriptDecodesSaid :=
  OpenClaim.holds_of_cond 4 Tryz.f4 rfl rfl rfl rfl rfl rfl rfl ⟨rfl, rfl, rfl, rfl, rfl⟩ rfl rfl rfl rfl rfl (by kernel_rfl) Tryz.func4 (by kernel_rfl)
    (of_decide_eq_true (by kernel_rfl)) (by unfold Func.isWrapper; first | (rw [if_pos (by decide +kernel)]; kernel_rfl) | (rw [if_neg (by decide +kernel)]; exact ⟨rfl, rfl⟩))
    (fun os started H enc _ F => by rw [OpenClaim.pre_eq_preRow]; exact dec_lifted os started H enc F)

theorem dec_plain (f : FuncId) (fn : Func) (hf : Tryz.pinned.checked.prog.funcNamed "thimble/thimblelaw25.ScriptDecodes" = some f) (hfn : Tryz.pinned.checked.prog.funcs[f]? = some fn) :
    true = Tryz.pinned.checked.prog.looks [] ∧ ∀ (j : Nat) t, fn.params[j]? = some t → Tryz.pinned.checked.prog.wantsStandIn t = false := by
  obtain rfl : f = 4 := Option.some.inj ((show Tryz.prog.funcNamed "thimble/thimblelaw25.ScriptDecodes" = some 4 by kernel_rfl).symm.trans hf) |>.symm
  obtain rfl : fn = Tryz.f4 := (Option.some.inj (Tryz.func4.symm.trans hfn)).symm
  refine ⟨by kernel_rfl, fun j t ht => ?_⟩
  rw [Tryz.params4] at ht
  obtain rfl : t = 23 := by simpa using Array.mem_of_getElem? ht
  exact (show Tryz.prog.wantsStandIn 23 = false by kernel_rfl)

/-- THE CARD -/
theorem scriptDecodes_card : Rows.ScriptDecodesCardSaid :=
  Claim7.holds_tied_plain_at .later [] _ _ _ _ dec_said (fun _ h => by cases h) (by kernel_rfl) (fun _ h => by cases h) scriptDecodes_row_tie rfl ⟨rfl, rfl⟩ (by kernel_rfl) rfl dec_plain (by kernel_rfl)
end Go.Proofs.YtgkddjefmonlaaaGreatDoor
