/- InterpCaught: whatever the input, the call returns true, and the input reads as it did. No condition. -/
import Derived.Test.YtgllekagmcabeaaGreatRows
import Derived.Test.YtgllekagmcabeaaGreatChk
import Derived.Test.YtgllekagmcabeaaGreatCaughtE0
import Derived.Test.YtgllekagmcabeaaGreatCaughtE1
import Derived.ProofKit
import Derived.OpenShut
import Derived.KernelRfl
namespace Go.Proofs.YtgllekagmcabeaaGreat.lawInterpCaught
open Go Go.X Go.Proofs Go.ChangeShapes Go.WideShapes Go.ChangeAt Go.RowKit
set_option linter.unusedVariables false
set_option maxRecDepth 100000
theorem own : ownKnob Tryz.prog.godebug = none := by kernel_rfl
theorem walk (b0 : Bool) (b1 : Bool) (w : World) : Calls Tryz.prog 4 #[.bool b0, .bool b1] w fun e w' => e = .returned (.bool true) ∧ w.keptBut w' (fun _ => False) := by
  match b0, b1 with
  | false, false => exact callsOf (f := 4) (fn := xf4) rfl ev_0_0 (vrl_bool _ (vrl_bool _ vrl_nil)) w
  | false, true => exact callsOf (f := 4) (fn := xf4) rfl ev_0_1 (vrl_bool _ (vrl_bool _ vrl_nil)) w
  | true, false => exact callsOf (f := 4) (fn := xf4) rfl ev_1_0 (vrl_bool _ (vrl_bool _ vrl_nil)) w
  | true, true => exact callsOf (f := 4) (fn := xf4) rfl ev_1_1 (vrl_bool _ (vrl_bool _ vrl_nil)) w
set_option maxRecDepth 100000 in
theorem lifted (os : Os) (started : os.Started) (H : Type) (enc : TypeId × Value → H) :
    ReturnsInHanded {} Tryz.checked os 4 .any (Rows.interpCaughtSpec.pre6 enc Tryz.prog Tryz.f4 Rows.interpCaughtRow.domain false) (Rows.interpCaughtSpec.post enc Tryz.prog Tryz.f4 false true false false) := by
  refine returnsInHanded_of_change (C := Tryz.checked) own started (by kernel_rfl) Tryz.func4
    (ChangeSpec.witness6 (enc := enc) (C := Tryz.checked) false ⟨#[], #[.bool false, .bool false], []⟩ 8 (by kernel_rfl) (by kernel_rfl) (by kernel_rfl) (by kernel_rfl)) ?_
  intro W base args ds gs before hval0 hW hcnd _
  have hval : ∀ (j : Nat) t v, Tryz.f4.params[j]? = some t → args[j]? = some v → Value.okWide Tryz.prog W .any base t v := hval0
  have hW' := hW
  obtain ⟨p, q, hA0, hV, rfl, hfz, hnd⟩ := hW
  have hA : DataW.TrodAll enc Tryz.prog W 0 (fun _ => true) true Tryz.f4.params.toList args.toList ds p := hA0
  rw [Tryz.params4] at hA hval
  obtain ⟨v0, vs0, d0, ds0, p0, q0, hargs, rfl, rfl, h0, r0⟩ := trodAll_cons hA
  obtain ⟨v1, vs1, d1, ds1, p1, q1, rfl, rfl, rfl, h1, r1⟩ := trodAll_cons r0
  obtain ⟨rfl, rfl, rfl⟩ := trodAll_nil r1
  obtain rfl : args = #[v0, v1] := by cases args; simp_all
  obtain ⟨rfl, rfl⟩ := trodVars_none hV
  obtain ⟨b0, rfl, rfl, rfl⟩ := open_bool Tryz.underlying4 (hval 0 4 v0 rfl rfl) h0
  obtain ⟨b1, rfl, rfl, rfl⟩ := open_bool Tryz.underlying4 (hval 1 4 v1 rfl rfl) h1
  clear hA0
  simp only [List.append_nil] at hW'
  refine (walk b0 b1 W).mono fun e W' ⟨he, hg⟩ => ?_
  subst he
  exact ⟨_, rfl, post_flat hW' (fun _ _ _ => trodAll_cons_mk (shut_bool Tryz.underlying4 _) trodAll_mk0) (fun sp => trodAll_cons_mk (shut_bool Tryz.underlying4 _) (trodAll_cons_mk (shut_bool Tryz.underlying4 _) trodAll_mk0)) (fun _ => rfl)
    hg (ok_one (by kernel_rfl) rfl (okWide_bool_mk Tryz.underlying4 _))⟩
theorem interpCaught_holds : Rows.InterpCaughtSaid :=
  OpenClaim.holds_of_wide 4 Tryz.f4 rfl rfl rfl rfl rfl rfl rfl ⟨rfl, rfl, rfl, rfl, rfl⟩ rfl rfl rfl rfl rfl (by kernel_rfl) Tryz.func4 (by kernel_rfl)
    (of_decide_eq_true (by kernel_rfl)) (by unfold Func.isWrapper; first | (rw [if_pos (by decide +kernel)]; kernel_rfl) | (rw [if_neg (by decide +kernel)]; exact ⟨rfl, rfl⟩))
    (fun os started H enc _ => lifted os started H enc)
#print axioms interpCaught_holds
end Go.Proofs.YtgllekagmcabeaaGreat.lawInterpCaught
