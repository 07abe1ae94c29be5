/- Each function's code, as X has it, is the program's; slices.Insert and math.Float64bits do what X takes them for. No condition. -/
import Derived.Test.YtgllekagmcabeaaGreatRows
import Derived.Test.YtgllekagmcabeaaGreatL1
import Derived.KernelRfl
import Derived.Test.YtgllekagmcabeaaGreatIns
namespace Go.Proofs.YtgllekagmcabeaaGreat
open Go Go.X Go.Proofs
set_option linter.unusedSimpArgs false
theorem allOk : tabAll (fun i x => match x with | .code fn => fnChk Tryz.prog i fn | _ => true) xftab (fun k => k) = true := by kernel_rfl
theorem fnsOk : ∀ f fn, xfF f = some (.code fn) → FnOk Tryz.prog (drawD Tryz.prog) f fn := by
  intro f fn h
  exact fnChk_sound (tabAll_sound xftab _ allOk f (.code fn) h)
def extAt (i : Nat) : XFn → Bool
  | .code _ => true
  | .ins sz => (Nat.beq i 178 && Nat.beq sz 1)
  | .f64bits => Nat.beq i 153
theorem allExt : tabAll extAt xftab (fun k => k) = true := by kernel_rfl
theorem extsOk : ExtOk Tryz.prog (drawD Tryz.prog) xfF := by
  refine extOk fun f x h => ?_
  have he := tabAll_sound xftab _ allExt f x h
  cases x with
  | code fn => exact trivial
  | ins sz => 
    simp only [extAt, Bool.or_eq_true, Bool.and_eq_true, beq_iff] at he
    obtain ⟨rfl, rfl⟩ := he
    · exact ⟨_, _, Tryz.func178, rfl, by kernel_rfl, inserts_int insLays⟩

  | f64bits => 
    simp only [extAt, beq_iff] at he
    subst he
    exact ⟨_, Tryz.func153, by kernel_rfl, by kernel_rfl, by kernel_rfl, by kernel_rfl⟩
theorem callsOf {f : Nat} {fn : XFunc} (hf : xfF f = some (.code fn)) {n : Nat} {av : List XV} (hr : isTrue (run xfF n f av) = true) {args : List Value} (ha : VRL (fun _ => none) av args) (w : World) :
    Calls Tryz.prog f ⟨args⟩ w fun e w' => e = .returned (.bool true) ∧ w.keptBut w' (fun _ => False) :=
  (calls_of_run fnsOk extsOk hf hr ha w).mono fun _ _ ⟨h1, _, h3, h4, h5⟩ => ⟨h1, kept_of h3 h4 h5 _⟩
theorem vrl_nil : VRL (fun _ => none) [] [] := by simp only [VRL]
theorem vrl_bool (b : Bool) {l : List XV} {x : List Value} (h : VRL (fun _ => none) l x) : VRL (fun _ => none) (.bool b :: l) (.bool b :: x) := by
  simp only [VRL, VR]
  exact ⟨trivial, h⟩
theorem vrl_res {k : IntKind} {m r n : Nat} (hr : n % m = r) {l : List XV} {x : List Value} (h : VRL (fun _ => none) l x) : VRL (fun _ => none) (.res k m r :: l) (.int k n :: x) := by
  simp only [VRL, VR]
  exact ⟨⟨n, rfl, hr⟩, h⟩
end Go.Proofs.YtgllekagmcabeaaGreat
