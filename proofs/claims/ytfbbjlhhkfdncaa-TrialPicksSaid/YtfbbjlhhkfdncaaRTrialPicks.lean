/- Of every balances those of kinds, in their order; all kinds together are all whose accounts are there: for every rows of a chart, balances and kinds. -/
import Derived.Test.YtfbbjlhhkfdncaaRows
import Derived.Test.YtfbbjlhhkfdncaaAj
import Derived.WalkKit
import Derived.ProofKit
import Derived.OpenShut
import Derived.ShutString
import Derived.ChangeOld
import Derived.Below
import Derived.SizedLaws
set_option linter.unusedVariables false
namespace Go.Proofs.Ytfbbjlhhkfdncaa.trialPicks
open Go.ChangeShapes Go.WideShapes Go.ChangeAt Go.RowKit
open Go.ChangeMaps (open_string shut_string)
theorem own : ownKnob Try.prog.godebug = none := by kernel_rfl
theorem laidOut : laidOutB Try.prog = true := by kernel_rfl
set_option maxRecDepth 100000 in
theorem lifted (os : Os) (started : os.Started) (H : Type) (enc : TypeId × Value → H) :
    ReturnsInHanded {} Try.checked os 7 .any (Rows.trialPicksSpec.pre6 enc Try.prog Try.f7 Rows.trialPicksRow.domain false) (Rows.trialPicksSpec.post enc Try.prog Try.f7 false true false false) := by
  refine returnsInHanded_of_change_sized (C := Try.checked) own started (by kernel_rfl) Try.func7
    (ChangeSpec.witness6 (enc := enc) (C := Try.checked) false ⟨#[], #[.slice none 0 0, .slice none 0 0, .slice none 0 0], []⟩ 8 (by kernel_rfl) (by kernel_rfl) (by kernel_rfl) (by kernel_rfl)) ?_
  intro W base args ds gs before hval0 hW hcnd hsz0 _
  have hsz : (DataW.weightsEach Try.prog (Try.f7.params.toList ++ Rows.trialPicksSpec.plain.varTypes Try.prog) (ds ++ gs)).all (· ≤ reachBytes) = true := hsz0
  have hval : ∀ (j : Nat) t v, Try.f7.params[j]? = some t → args[j]? = some v → Value.okWide Try.prog W .any base t v := hval0
  have hW' := hW
  obtain ⟨p, q, hA0, hV, rfl, hfz, hnd⟩ := hW
  have hA : DataW.TrodAll enc Try.prog W 0 (fun _ => true) true Try.f7.params.toList args.toList ds p := hA0
  rw [Try.params7] at hA hval hsz
  obtain ⟨v0, vs0, d0, ds0, p0, q0, hargs, rfl, rfl, h0, r0⟩ := trodAll_cons hA
  obtain ⟨v1, vs1, d1, ds1, p1, q1, rfl, rfl, rfl, h1, r1⟩ := trodAll_cons r0
  obtain ⟨v2, vs2, d2, ds2, p2, q2, rfl, rfl, rfl, h2, r2⟩ := trodAll_cons r1
  obtain ⟨rfl, rfl, rfl⟩ := trodAll_nil r2
  obtain rfl : args = #[v0, v1, v2] := by cases args; simp_all
  obtain ⟨rfl, rfl⟩ := trodVars_none hV
  obtain ⟨a0, len0, cap0, rfl⟩ := okWide_slice Try.underlying59 (hval 0 59 v0 rfl rfl)
  have k0 := h0
  have lt0 : ∀ x ∈ p0, x.block < W.heap.size := by obtain ⟨m, hm⟩ := k0; exact DataW.trod_lt m _ _ _ hm
  have z0 := all_each _ _ _ hsz 0 59 d0 rfl rfl
  obtain ⟨x0, y0⟩ : ∃ x, tAcsP.R W (fun _ => True) [.slice a0 len0 cap0] x := by
    obtain ⟨fuel, hf⟩ := h0
    exact tAcsP.of hf z0
  obtain ⟨a1, len1, cap1, rfl⟩ := okWide_slice Try.underlying50 (hval 1 50 v1 rfl rfl)
  have k1 := h1
  have lt1 : ∀ x ∈ p1, x.block < W.heap.size := by obtain ⟨m, hm⟩ := k1; exact DataW.trod_lt m _ _ _ hm
  have z1 := all_each _ _ _ hsz 1 50 d1 rfl rfl
  obtain ⟨x1, y1⟩ : ∃ x, tBals.R W (fun _ => True) [.slice a1 len1 cap1] x := by
    obtain ⟨fuel, hf⟩ := h1
    exact tBals.of hf z1
  obtain ⟨a2, len2, cap2, rfl⟩ := okWide_slice Try.underlying60 (hval 2 60 v2 rfl rfl)
  have k2 := h2
  have lt2 : ∀ x ∈ p2, x.block < W.heap.size := by obtain ⟨m, hm⟩ := k2; exact DataW.trod_lt m _ _ _ hm
  have z2 := all_each _ _ _ hsz 2 60 d2 rfl rfl
  obtain ⟨x2, y2⟩ : ∃ x, tIntsP.R W (fun _ => True) [.slice a2 len2 cap2] x := by
    obtain ⟨fuel, hf⟩ := h2
    exact tIntsP.of hf z2
  clear hA0 hval0 hsz0 hsz
  refine (trialPicks_row a0 len0 cap0 x0 a1 len1 cap1 x1 a2 len2 cap2 x2 W y0 y1 y2).mono fun e W' ⟨he, bel⟩ => ?_
  subst he
  exact ⟨_, rfl, _, _, _, [], _, [], hW', trodAll_mk1 (shut_bool Try.underlying4 _), (trodAll_cons_mk (Below.trod laidOut (by kernel_rfl) (of_decide_eq_true (by kernel_rfl)) k0 bel lt0) (trodAll_cons_mk (Below.trod laidOut (by kernel_rfl) (of_decide_eq_true (by kernel_rfl)) k1 bel lt1) (trodAll_cons_mk (Below.trod laidOut (by kernel_rfl) (of_decide_eq_true (by kernel_rfl)) k2 bel lt2) trodAll_mk0))), rfl, bel.frame _, fun h => by cases h⟩
theorem over : Rows.trialPicksRow.holds Try.pinned (OpenSpec.ofChange Rows.trialPicksSpec) :=
  OpenClaim.holds_of_wide 7 Try.f7 rfl rfl rfl rfl rfl rfl rfl ⟨rfl, rfl, rfl, rfl, rfl⟩ rfl rfl rfl rfl rfl (by kernel_rfl) Try.func7 (by kernel_rfl)
    (of_decide_eq_true (by kernel_rfl)) (by unfold Func.isWrapper; first | (rw [if_pos (by decide +kernel)]; kernel_rfl) | (rw [if_neg (by decide +kernel)]; exact ⟨rfl, rfl⟩))
    (fun os started H enc _ => lifted os started H enc)
theorem proved : Rows.TrialPicksSaid := over
end Go.Proofs.Ytfbbjlhhkfdncaa.trialPicks
namespace Go.Proofs.Ytfbbjlhhkfdncaa
theorem trialPicks_holds : Rows.TrialPicksSaid := trialPicks.proved
#print axioms trialPicks_holds
end Go.Proofs.Ytfbbjlhhkfdncaa
