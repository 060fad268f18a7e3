/-
  The document's example of layer 25.
-/
import Derived.Test.YtgkddjefmonlaaaGreatDoorScrU
namespace Go.Proofs.YtgkddjefmonlaaaGreatDoor
open Go.RowKit

def exLine : ByteArray := ⟨#[97, 115, 107, 32, 48, 32, 119, 114, 105, 116, 101, 32, 51, 32, 54, 49, 54, 50]⟩
theorem ex_cut : cutW exLine blank = [⟨#[97, 115, 107]⟩, ⟨#[48]⟩, ⟨#[119, 114, 105, 116, 101]⟩, ⟨#[51]⟩, ⟨#[54, 49, 54, 50]⟩] := by decide +kernel
theorem ex_n0 : numW [48] = some 0 := by
  have h : Lib.atoiAll [48] = .ok 0 := by decide +kernel
  have h2 : Lib.itoa 0 = [48] := by show Lib.decDigits 0 = _; rw [Lib.decDigits_one (by omega)]; rfl
  simp [numW, h, h2]
theorem ex_n3 : numW [51] = some 3 := by
  have h : Lib.atoiAll [51] = .ok 3 := by decide +kernel
  have h2 : Lib.itoa 3 = [51] := by show Lib.decDigits 3 = _; rw [Lib.decDigits_one (by omega)]; rfl
  simp [numW, h, h2]
theorem ex_hex : unhexW [54, 49, 54, 50] = some [97, 98] := by decide +kernel
def exStep : AStep := ⟨1, 0, 0, ⟨2, 3, [97, 98], 0⟩, [], []⟩
theorem ex_parse : parseN (cutW exLine blank) = some exStep := by
  have hk : choiceN stepTbl [⟨#[97, 115, 107]⟩, ⟨#[48]⟩, ⟨#[119, 114, 105, 116, 101]⟩, ⟨#[51]⟩, ⟨#[54, 49, 54, 50]⟩] = some (1, [⟨#[48]⟩, ⟨#[119, 114, 105, 116, 101]⟩, ⟨#[51]⟩, ⟨#[54, 49, 54, 50]⟩]) := by decide +kernel
  have hk2 : choiceN askTbl [⟨#[119, 114, 105, 116, 101]⟩, ⟨#[51]⟩, ⟨#[54, 49, 54, 50]⟩] = some (2, [⟨#[51]⟩, ⟨#[54, 49, 54, 50]⟩]) := by decide +kernel
  have hd : dataN 240 [⟨#[54, 49, 54, 50]⟩] = some ([97, 98], []) := by
    have hne : ¬ ((⟨#[54, 49, 54, 50]⟩ : ByteArray) = dash) := by decide +kernel
    simp only [dataN, if_neg hne]
    show (match unhexW [54, 49, 54, 50] with | none => none | some b => _) = _
    rw [ex_hex]; rfl
  rw [ex_cut]
  simp only [parseN, stepN, hk, if_true, numN, show bl ⟨#[48]⟩ = [48] from rfl, ex_n0, askN, hk2, show bl ⟨#[51]⟩ = [51] from rfl, ex_n3]
  simp only [hd]
  rfl
theorem ex_stops : Stops [12] 1 := by
  refine ⟨fun j hj => ?_, fun h => ?_⟩
  · obtain rfl : j = 0 := by omega
    exact ⟨by decide, by decide⟩
  · have h1 := h.1
    have h2 : (decN [12] 1).2 = 4 := by kernel_rfl
    rw [h2] at h1
    simp at h1
theorem ex_dec (k : Nat) (hk : Stops [12] k) : (decN [12] k).1 = [⟨1, 0, 0, ⟨1, 0, [], 0⟩, [], []⟩] := by
  rw [stops_unique hk ex_stops]
  kernel_rfl

theorem ex_Decode (p : Nat) (W2 : World) (hB : Bs W2 (some ⟨p, 0, none⟩) 1 1 [12]) (hp : p < W2.heap.size) :
    Calls Tryz.prog 13 #[.slice (some ⟨p, 0, none⟩) 1 1] W2 fun e W3 => ∃ g vc, e = .returned (.slice (some ⟨g, 0, none⟩) 1 vc) ∧ W3.cell? ⟨g, 0, none⟩ = some (.int .i64 1) ∧ W3.cell? ⟨g, 3, none⟩ = some (.int .i64 1) ∧ Below W2.heap.size W2 W3 := by
  refine (script_Decode _ _ _ _ W2 hB (by rintro x hx; cases hx; exact hp)).mono ?_
  rintro e W3 ⟨v, T, k, rfl, hstop, hT, hS, hb3⟩
  rw [ex_dec k hstop] at hT
  have hl : T.length = 1 := by have := congrArg List.length hT; simpa using this
  obtain ⟨t, rfl⟩ := List.length_eq_one_iff.1 hl
  obtain ⟨va, vc, rfl⟩ := own_form hS.row
  obtain ⟨g, s, p1, p2, p3, q1, q2, q3, rfl, hs, hr, -⟩ := Steps.at_ (n := 1) hS 0 (by simp)
  simp only [List.map_cons, List.map_nil, List.cons.injEq, and_true] at hT
  obtain rfl : s = ⟨1, 0, 0, ⟨1, 0, [], 0⟩, [], []⟩ := by rw [← hs]; exact hT
  have g0 := hr 0 _ rfl
  have g3 := hr 3 _ rfl
  simp only [Nat.zero_add, Nat.add_zero, Nat.mul_zero] at g0 g3
  exact ⟨g, vc, rfl, g0, g3, hb3⟩

set_option maxHeartbeats 1000000 in
set_option maxRecDepth 100000 in
theorem awake_true (w : World) (hE : Env w) : Calls Tryz.prog 9 #[] w fun e w' => e = .returned (.bool true) ∧ Below w.heap.size w w' := by
  have hP : Calls Tryz.prog 10 #[.string exLine] w fun e w' => ∃ a1 n1 a2 n2 a3 n3, e = .returned (.tuple #[.agg #[.int .i64 1, .int .i64 0, .int .i64 0, .int .i64 2, .int .i64 3, .slice a1 2 n1, .float .f64 0, .slice a2 0 n2, .slice a3 0 n3], .int .i64 0]) ∧ (∃ b, a1 = some ⟨b, 0, none⟩ ∧ Reads w' b 0 (bs [97, 98]) ∧ b < w'.heap.size) ∧ Below w.heap.size w w' := by
    refine (script_Parse exLine (by decide) w hE).mono ?_
    rw [ex_parse]
    rintro e w' ⟨d1, d2, fs, rfl, ho, hb⟩
    obtain ⟨a1, n1, rfl⟩ := own_form ho.d1
    obtain ⟨a2, n2, rfl⟩ := own_form ho.d2
    obtain ⟨a3, n3, rfl⟩ := own_form ho.fs
    obtain ⟨g, hg, _, hlt, hr⟩ := ownsRow_some ho.d1 (by decide)
    exact ⟨a1, n1, a2, n2, a3, n3, rfl, ⟨g, hg, hr, hlt⟩, hb⟩
  have HP := Lib.hid hP
  clear hP
  go_enter Tryz.func9, Tryz.ntmps9
  go_wp2_with (go_at_call 10; refine HP.out.mono ?_; rintro e w1 ⟨a1, n1, a2, n2, a3, n3, rfl, ⟨b, rfl, hrd, hlt⟩, hb⟩)
  have hb2 : Below w.heap.size w ((w1.alloc (.cells #[.int .i64 1, .int .i64 0, .int .i64 0, .int .i64 2, .int .i64 3, .slice (some ⟨b, 0, none⟩) 2 n1, .float .f64 0, .slice a2 0 n2, .slice a3 0 n3] 29)).alloc (.cells #[.int .u8 12] 5)) := bel_al (bel_al hb _) _
  obtain ⟨W2, hW2⟩ : ∃ W2, W2 = (w1.alloc (.cells #[.int .i64 1, .int .i64 0, .int .i64 0, .int .i64 2, .int .i64 3, .slice (some ⟨b, 0, none⟩) 2 n1, .float .f64 0, .slice a2 0 n2, .slice a3 0 n3] 29)).alloc (.cells #[.int .u8 12] 5) := ⟨_, rfl⟩
  have hsz2 : W2.heap.size = w1.heap.size + 2 := by rw [hW2]; simp
  have hrow : Reads W2 w1.heap.size 0 [.int .i64 1, .int .i64 0, .int .i64 0, .int .i64 2, .int .i64 3, .slice (some ⟨b, 0, none⟩) 2 n1, .float .f64 0, .slice a2 0 n2, .slice a3 0 n3] := by
    rw [hW2]; exact reads_new (heap_al_old (heap_al_new _ _) _)
  have hrd2 : Reads W2 b 0 (bs [97, 98]) := hrd.below (B := w1.heap.size) (by rw [hW2]; exact bel_al (bel_al (Below.refl _ _) _) _) (Nat.le_refl _)
  have hB : Bs W2 (some ⟨w1.heap.size + 1, 0, none⟩) 1 1 [12] := bs_one_at (t := 5) (by rw [hW2]; exact heap_al_next _ _ _)
  rw [← hW2] at hb2 ⊢
  have hD := ex_Decode _ W2 hB (by omega)
  clear hW2
  refine hD.mono ?_
  rintro e W3 ⟨g, vc, rfl, g0, g3, hb3⟩
  have hrow3 := Reads.below hrow hb3 (Nat.le_refl _)
  have hrd3 := Reads.below hrd2 hb3 (Nat.le_refl _)
  have hbel := hb2.trans (hb3.mono hb2.size)
  have hconv : (convert 23 9 (.slice (some ⟨b, 0, none⟩) 2 n1)).run Tryz.prog W3 = .ok (.string ⟨#[97, 98]⟩) W3 :=
    run_convert_bytes_back W3 23 9 5 ⟨b, 0, none⟩ n1 [97, 98] Tryz.underlying23 Tryz.underlying5 Tryz.underlying9 (fun j hj => by
      have hadd : (⟨b, 0, none⟩ : Addr).add j = ⟨b, 0 + j, none⟩ := by unfold Addr.add; split <;> simp_all
      rw [hadd]; exact hrd3.at (l := [97, 98]) hj)
  have f0 := hrow3 0 _ rfl
  have f3 := hrow3 3 _ rfl
  have f4 := hrow3 4 _ rfl
  have f5 := hrow3 5 _ rfl
  simp only [Nat.zero_add, Nat.add_zero] at f0 f3 f4 f5
  have HB := Lib.hid hbel
  clear hrow hrd2 hB hD hb2 hrow3 hrd3 hbel hb3 hb hrd hE HP hsz2
  go_wp2_with fail
  go_ret
  exact ⟨rfl, HB.out⟩
end Go.Proofs.YtgkddjefmonlaaaGreatDoor
