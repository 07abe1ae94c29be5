/- InterpBuffers: whatever the input, the call returns true, and the input reads as it did. No condition. -/
import Derived.Test.YtgllekagmcabeaaGreatRows
import Derived.Test.YtgllekagmcabeaaGreatChk
import Derived.Test.YtgllekagmcabeaaGreatBuffersE0
import Derived.Test.YtgllekagmcabeaaGreatBuffersE1
import Derived.ProofKit
import Derived.OpenShut
import Derived.KernelRfl
namespace Go.Proofs.YtgllekagmcabeaaGreat.lawInterpBuffers
open Go Go.X Go.Proofs Go.ChangeShapes Go.WideShapes Go.ChangeAt Go.RowKit
set_option linter.unusedVariables false
set_option maxRecDepth 100000
theorem own : ownKnob Tryz.prog.godebug = none := by kernel_rfl
theorem walk (b0 : Bool) (a1 : Int) (w1 : (Lit.int .u8 a1).wf = true) (w : World) : Calls Tryz.prog 6 #[.bool b0, .int .u8 a1] w fun e w' => e = .returned (.bool true) ∧ w.keptBut w' (fun _ => False) := by
  obtain ⟨n1, rfl⟩ : ∃ n : Nat, a1 = (n : Int) := ⟨a1.toNat, by
    simp only [Lit.wf, Bool.and_eq_true, decide_eq_true_eq] at w1
    have h0 := w1.1
    have hm : IntKind.min .u8 = 0 := by decide
    rw [hm] at h0
    omega⟩
  have hl1 : n1 % 2 < 2 := Nat.mod_lt _ (by decide)
  generalize hr1 : n1 % 2 = r1 at hl1
  match b0, r1, hr1, hl1 with
  | false, 0, hr1, _ => exact callsOf (f := 6) (fn := xf6) rfl ev_0_0 (vrl_bool _ (vrl_res hr1 vrl_nil)) w
  | false, 1, hr1, _ => exact callsOf (f := 6) (fn := xf6) rfl ev_0_1 (vrl_bool _ (vrl_res hr1 vrl_nil)) w
  | true, 0, hr1, _ => exact callsOf (f := 6) (fn := xf6) rfl ev_1_0 (vrl_bool _ (vrl_res hr1 vrl_nil)) w
  | true, 1, hr1, _ => exact callsOf (f := 6) (fn := xf6) rfl ev_1_1 (vrl_bool _ (vrl_res hr1 vrl_nil)) w
  | _, _ + 2, _, h => exact absurd h (by omega)
set_option maxRecDepth 100000 in
theorem lifted (os : Os) (started : os.Started) (H : Type) (enc : TypeId × Value → H) :
    ReturnsInHanded {} Tryz.checked os 6 .any (Rows.interpBuffersSpec.pre6 enc Tryz.prog Tryz.f6 Rows.interpBuffersRow.domain false) (Rows.interpBuffersSpec.post enc Tryz.prog Tryz.f6 false true false false) := by
  refine returnsInHanded_of_change (C := Tryz.checked) own started (by kernel_rfl) Tryz.func6
    (ChangeSpec.witness6 (enc := enc) (C := Tryz.checked) false ⟨#[], #[.bool false, .int .u8 0], []⟩ 8 (by kernel_rfl) (by kernel_rfl) (by kernel_rfl) (by kernel_rfl)) ?_
  intro W base args ds gs before hval0 hW hcnd _
  have hval : ∀ (j : Nat) t v, Tryz.f6.params[j]? = some t → args[j]? = some v → Value.okWide Tryz.prog W .any base t v := hval0
  have hW' := hW
  obtain ⟨p, q, hA0, hV, rfl, hfz, hnd⟩ := hW
  have hA : DataW.TrodAll enc Tryz.prog W 0 (fun _ => true) true Tryz.f6.params.toList args.toList ds p := hA0
  rw [Tryz.params6] at hA hval
  obtain ⟨v0, vs0, d0, ds0, p0, q0, hargs, rfl, rfl, h0, r0⟩ := trodAll_cons hA
  obtain ⟨v1, vs1, d1, ds1, p1, q1, rfl, rfl, rfl, h1, r1⟩ := trodAll_cons r0
  obtain ⟨rfl, rfl, rfl⟩ := trodAll_nil r1
  obtain rfl : args = #[v0, v1] := by cases args; simp_all
  obtain ⟨rfl, rfl⟩ := trodVars_none hV
  obtain ⟨b0, rfl, rfl, rfl⟩ := open_bool Tryz.underlying4 (hval 0 4 v0 rfl rfl) h0
  obtain ⟨a1, rfl, rfl, rfl, w1⟩ := open_int Tryz.underlying5 (hval 1 5 v1 rfl rfl) h1
  clear hA0
  simp only [List.append_nil] at hW'
  refine (walk b0 a1 w1 W).mono fun e W' ⟨he, hg⟩ => ?_
  subst he
  exact ⟨_, rfl, post_flat hW' (fun _ _ _ => trodAll_cons_mk (shut_bool Tryz.underlying4 _) trodAll_mk0) (fun sp => trodAll_cons_mk (shut_bool Tryz.underlying4 _) (trodAll_cons_mk (shut_int Tryz.underlying5 w1) trodAll_mk0)) (fun _ => rfl)
    hg (ok_one (by kernel_rfl) rfl (okWide_bool_mk Tryz.underlying4 _))⟩
theorem interpBuffers_holds : Rows.InterpBuffersSaid :=
  OpenClaim.holds_of_wide 6 Tryz.f6 rfl rfl rfl rfl rfl rfl rfl ⟨rfl, rfl, rfl, rfl, rfl⟩ rfl rfl rfl rfl rfl (by kernel_rfl) Tryz.func6 (by kernel_rfl)
    (of_decide_eq_true (by kernel_rfl)) (by unfold Func.isWrapper; first | (rw [if_pos (by decide +kernel)]; kernel_rfl) | (rw [if_neg (by decide +kernel)]; exact ⟨rfl, rfl⟩))
    (fun os started H enc _ => lifted os started H enc)
#print axioms interpBuffers_holds
end Go.Proofs.YtgllekagmcabeaaGreat.lawInterpBuffers
