/- slices.Insert at []int of this program is the one of the shelf. No condition. -/
import Derived.Test.YtgllekagmcabeaaGreatRows
import Derived.Shelf.Spec.SlicesInsertGrow
import Derived.KernelRfl
namespace Go.Proofs.YtgllekagmcabeaaGreat
open Go Go.Shelf Go.Proofs
def insRen : Ren := ⟨fun n => match n with | 21 => 178 | 27 => 220 | 28 => 221 | 35 => 248 | 39 => 257 | _ => 0, fun n => match n with | 0 => 0 | 3 => 3 | 4 => 4 | 22 => 67 | _ => 0, fun n => n⟩
theorem agg_of {P : Program} {t : TypeId} {d : TypeDesc} (h : P.underlying t = some d) (hd : (match d with | .struct _ => true | .array _ _ => true | _ => false) = false) (w : World) : (isAgg t).run P w = .ok false w := by
  cases d <;> simp at hd <;> simp [isAgg, underlying, h]
theorem size_of {P : Program} {t : TypeId} {n : Nat} (h : (P.info? t).map (·.size) = some n) (w : World) : (sizeOf t).run P w = .ok n w := by
  cases hi : P.info? t with
  | none => simp [hi] at h
  | some i => simp [hi] at h; simp [sizeOf, typeInfo, hi, h]
theorem zero_of {P : Program} {t : TypeId} {v : Value} (h : (P.info? t).bind (·.zero) = some v) (w : World) : (zeroValue t).run P w = .ok v w := by
  cases hi : P.info? t with
  | none => simp [hi] at h
  | some i => simp [hi] at h; simp [zeroValue, typeInfo, hi, h]
theorem insLays : Lays2.n21 Tryz.prog insRen where
  mixed := by kernel_rfl
  f21 := by kernel_rfl
  f27 := by kernel_rfl
  f28 := by kernel_rfl
  f35 := by kernel_rfl
  f39 := by kernel_rfl
  t0 := by kernel_rfl
  a0 := agg_of (d := .tuple #[]) (by kernel_rfl) rfl
  z0 := size_of (by kernel_rfl)
  v0 := zero_of (by kernel_rfl)
  t3 := by kernel_rfl
  a3 := agg_of (d := .int .i64) (by kernel_rfl) rfl
  z3 := size_of (by kernel_rfl)
  v3 := zero_of (by kernel_rfl)
  t4 := by kernel_rfl
  a4 := agg_of (d := .bool) (by kernel_rfl) rfl
  z4 := size_of (by kernel_rfl)
  v4 := zero_of (by kernel_rfl)
  t22 := by kernel_rfl
  a22 := agg_of (d := .slice 3) (by kernel_rfl) rfl
  z22 := size_of (by kernel_rfl)
  v22 := zero_of (by kernel_rfl)
  i3 := by kernel_rfl
end Go.Proofs.YtgllekagmcabeaaGreat
