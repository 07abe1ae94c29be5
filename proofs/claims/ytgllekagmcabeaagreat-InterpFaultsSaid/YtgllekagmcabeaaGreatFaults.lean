/- InterpFaults: whatever the input, the call returns true, and the input reads as it did. No condition. -/
import Derived.Test.YtgllekagmcabeaaGreatRows
import Derived.Test.YtgllekagmcabeaaGreatChk
import Derived.Test.YtgllekagmcabeaaGreatFaultsE0
import Derived.Test.YtgllekagmcabeaaGreatFaultsE1
import Derived.Test.YtgllekagmcabeaaGreatFaultsE2
import Derived.Test.YtgllekagmcabeaaGreatFaultsE3
import Derived.Test.YtgllekagmcabeaaGreatFaultsE4
import Derived.ProofKit
import Derived.OpenShut
import Derived.KernelRfl
namespace Go.Proofs.YtgllekagmcabeaaGreat.lawInterpFaults
open Go Go.X Go.Proofs Go.ChangeShapes Go.WideShapes Go.ChangeAt Go.RowKit
set_option linter.unusedVariables false
set_option maxRecDepth 100000
theorem own : ownKnob Tryz.prog.godebug = none := by kernel_rfl
theorem walk (a0 : Int) (w0 : (Lit.int .u8 a0).wf = true) (w : World) : Calls Tryz.prog 3 #[.int .u8 a0] w fun e w' => e = .returned (.bool true) ∧ w.keptBut w' (fun _ => False) := by
  obtain ⟨n0, rfl⟩ : ∃ n : Nat, a0 = (n : Int) := ⟨a0.toNat, by
    simp only [Lit.wf, Bool.and_eq_true, decide_eq_true_eq] at w0
    have h0 := w0.1
    have hm : IntKind.min .u8 = 0 := by decide
    rw [hm] at h0
    omega⟩
  have hl0 : n0 % 10 < 10 := Nat.mod_lt _ (by decide)
  generalize hr0 : n0 % 10 = r0 at hl0
  match r0, hr0, hl0 with
  | 0, hr0, _ => exact callsOf (f := 3) (fn := xf3) rfl ev_0 (vrl_res hr0 vrl_nil) w
  | 1, hr0, _ => exact callsOf (f := 3) (fn := xf3) rfl ev_1 (vrl_res hr0 vrl_nil) w
  | 2, hr0, _ => exact callsOf (f := 3) (fn := xf3) rfl ev_2 (vrl_res hr0 vrl_nil) w
  | 3, hr0, _ => exact callsOf (f := 3) (fn := xf3) rfl ev_3 (vrl_res hr0 vrl_nil) w
  | 4, hr0, _ => exact callsOf (f := 3) (fn := xf3) rfl ev_4 (vrl_res hr0 vrl_nil) w
  | 5, hr0, _ => exact callsOf (f := 3) (fn := xf3) rfl ev_5 (vrl_res hr0 vrl_nil) w
  | 6, hr0, _ => exact callsOf (f := 3) (fn := xf3) rfl ev_6 (vrl_res hr0 vrl_nil) w
  | 7, hr0, _ => exact callsOf (f := 3) (fn := xf3) rfl ev_7 (vrl_res hr0 vrl_nil) w
  | 8, hr0, _ => exact callsOf (f := 3) (fn := xf3) rfl ev_8 (vrl_res hr0 vrl_nil) w
  | 9, hr0, _ => exact callsOf (f := 3) (fn := xf3) rfl ev_9 (vrl_res hr0 vrl_nil) w
  | _ + 10, _, h => exact absurd h (by omega)
set_option maxRecDepth 100000 in
theorem lifted (os : Os) (started : os.Started) (H : Type) (enc : TypeId × Value → H) :
    ReturnsInHanded {} Tryz.checked os 3 .any (Rows.interpFaultsSpec.pre6 enc Tryz.prog Tryz.f3 Rows.interpFaultsRow.domain false) (Rows.interpFaultsSpec.post enc Tryz.prog Tryz.f3 false true false false) := by
  refine returnsInHanded_of_change (C := Tryz.checked) own started (by kernel_rfl) Tryz.func3
    (ChangeSpec.witness6 (enc := enc) (C := Tryz.checked) false ⟨#[], #[.int .u8 0], []⟩ 8 (by kernel_rfl) (by kernel_rfl) (by kernel_rfl) (by kernel_rfl)) ?_
  intro W base args ds gs before hval0 hW hcnd _
  have hval : ∀ (j : Nat) t v, Tryz.f3.params[j]? = some t → args[j]? = some v → Value.okWide Tryz.prog W .any base t v := hval0
  have hW' := hW
  obtain ⟨p, q, hA0, hV, rfl, hfz, hnd⟩ := hW
  have hA : DataW.TrodAll enc Tryz.prog W 0 (fun _ => true) true Tryz.f3.params.toList args.toList ds p := hA0
  rw [Tryz.params3] at hA hval
  obtain ⟨v0, vs0, d0, ds0, p0, q0, hargs, rfl, rfl, h0, r0⟩ := trodAll_cons hA
  obtain ⟨rfl, rfl, rfl⟩ := trodAll_nil r0
  obtain rfl : args = #[v0] := by cases args; simp_all
  obtain ⟨rfl, rfl⟩ := trodVars_none hV
  obtain ⟨a0, rfl, rfl, rfl, w0⟩ := open_int Tryz.underlying5 (hval 0 5 v0 rfl rfl) h0
  clear hA0
  simp only [List.append_nil] at hW'
  refine (walk a0 w0 W).mono fun e W' ⟨he, hg⟩ => ?_
  subst he
  exact ⟨_, rfl, post_flat hW' (fun _ _ _ => trodAll_cons_mk (shut_bool Tryz.underlying4 _) trodAll_mk0) (fun sp => trodAll_cons_mk (shut_int Tryz.underlying5 w0) trodAll_mk0) (fun _ => rfl)
    hg (ok_one (by kernel_rfl) rfl (okWide_bool_mk Tryz.underlying4 _))⟩
theorem interpFaults_holds : Rows.InterpFaultsSaid :=
  OpenClaim.holds_of_wide 3 Tryz.f3 rfl rfl rfl rfl rfl rfl rfl ⟨rfl, rfl, rfl, rfl, rfl⟩ rfl rfl rfl rfl rfl (by kernel_rfl) Tryz.func3 (by kernel_rfl)
    (of_decide_eq_true (by kernel_rfl)) (by unfold Func.isWrapper; first | (rw [if_pos (by decide +kernel)]; kernel_rfl) | (rw [if_neg (by decide +kernel)]; exact ⟨rfl, rfl⟩))
    (fun os started H enc _ => lifted os started H enc)
#print axioms interpFaults_holds
end Go.Proofs.YtgllekagmcabeaaGreat.lawInterpFaults
