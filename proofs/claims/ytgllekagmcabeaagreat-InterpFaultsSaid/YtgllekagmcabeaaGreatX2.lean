/- X, part 2: an abstract machine for the code of the model, and that it is right. No condition. -/
import Derived.Test.YtgllekagmcabeaaGreatX1
import Derived.Laws.Externs
import Derived.Shelf.Spec.SlicesInsertGrow
import Derived.ProofKit
set_option linter.constructorNameAsVariable false
set_option linter.unnecessarySimpa false
/- Functions without code of X's. -/
namespace Go.X
set_option linter.unusedVariables false
set_option linter.unusedSimpArgs false
section
variable {P : Program} {CR : Nat → Nat → Code → XCode → Prop}

/-- math.Float64bits, an extern of the model's. -/
theorem f64_sound {f : Nat} {fn : Func} (hf : P.funcs[f]? = some fn) (hname : (fn.name == "runtime.NumGoroutine") = false) (hb : fn.body.isNone = true) (hn : Extern.findNext fn = none) (he : Extern.find fn = some Extern.MathFloatBits.float64bits)
    {ρ : Rho} {H : Tr XO} {nx : Nat} {w : World} (hh : HR CR ρ H nx w) {n : Nat} {args : List Value} (ha : VRL ρ [.flt .f64 n] args) : OpRes P CR ρ H nx w (callFunc f ⟨args⟩) (.int .u64 (.ofNat n)) H nx := by
  cases args with
  | nil => exact ha.elim
  | cons x r =>
    obtain ⟨h1, h2⟩ := ha
    cases r with
    | cons _ _ => exact h2.elim
    | nil =>
      simp only [VR] at h1
      subst h1
      refine .inl (yields_eff hh ⟨.int .u64 n, ?_, by simp only [VR]; rfl⟩)
      rw [run_callFunc_extern hf hname hb hn he]
      rfl

/-! ### slices.Insert -/
/-- What is asked of slices.Insert at elements of sz cells. -/
structure Inserts (P : Program) (f sz : Nat) : Prop where
  shift : ∀ (w : World) (B o n c i V vo m vc : Nat) (cs vs : List Value), i < n → 0 < m → n + m ≤ c → c ≤ 9223372036854775807 → V ≠ B → cs.length = n * sz → vs.length = m * sz →
    (∀ j v, cs[j]? = some v → w.cell? ⟨B, o + j, none⟩ = some v) → (∀ j, j < (n + m) * sz → (w.cell? ⟨B, o + j, none⟩).isSome = true) → (∀ j, j < (n + m) * sz → w.frozen? ⟨B, o + j, none⟩ = false) →
    (∀ j v, vs[j]? = some v → w.cell? ⟨V, vo + j, none⟩ = some v) → (∀ v ∈ cs, v.oneCell' = true) → (∀ v ∈ vs, v.oneCell' = true) →
    ∀ (tA tB : TypeId) (kA kB : Nat), w.shape? V = some (tA, kA) → w.shape? B = some (tB, kB) → kB ≠ 0 → w.frozen? ⟨V, vo, none⟩ = false → w.frozen? ⟨V, kA, none⟩ = false →
    Calls P f #[.slice (some ⟨B, o, none⟩) n c, .int .i64 i, .slice (some ⟨V, vo, none⟩) m vc] w fun e w' => e = .returned (.slice (some ⟨B, o, none⟩) (n + m) c) ∧ w' = (w.drew.setCells B (o + (i + m) * sz) (cs.drop (i * sz))).setCells B (o + i * sz) vs
  room : ∀ (w : World) (B o n c V vo m vc : Nat) (vs : List Value), 0 < m → n + m ≤ c → c ≤ 9223372036854775807 → vs.length = m * sz →
    (∀ j, j < m * sz → (w.cell? ⟨B, o + n * sz + j, none⟩).isSome = true) → (∀ j, j < m * sz → w.frozen? ⟨B, o + n * sz + j, none⟩ = false) →
    (∀ j v, vs[j]? = some v → w.cell? ⟨V, vo + j, none⟩ = some v) → (∀ v ∈ vs, v.oneCell' = true) →
    Calls P f #[.slice (some ⟨B, o, none⟩) n c, .int .i64 n, .slice (some ⟨V, vo, none⟩) m vc] w fun e w' => e = .returned (.slice (some ⟨B, o, none⟩) (n + m) c) ∧ w' = w.setCells B (o + n * sz) vs
  grow : ∀ (w : World) (base : Option Addr) (n c i V vo m vc : Nat) (cs vs : List Value), i ≤ n → 0 < m → n ≤ c → c < n + m → n + m < 32766 → cs.length = n * sz → vs.length = m * sz → (base = none → n = 0) → (i < n → ∃ B o, base = some ⟨B, o, none⟩) →
    (∀ a, base = some a → ∀ j v, cs[j]? = some v → w.cell? (a.add j) = some v) → (∀ j v, vs[j]? = some v → w.cell? ⟨V, vo + j, none⟩ = some v) → (∀ v ∈ cs, v.oneCell' = true) → (∀ v ∈ vs, v.oneCell' = true) →
    ∃ nc rest e, (n + m ≤ nc ∧ nc ≤ 9223372036854775807) ∧ rest.size = (nc - (n + m)) * sz ∧
      Calls P f #[.slice base n c, .int .i64 i, .slice (some ⟨V, vo, none⟩) m vc] w fun e' w' => e' = .returned (.slice (some ⟨w.heap.size, 0, none⟩) (n + m) nc) ∧
        w'.heap = w.heap.push (.cells (⟨cs.take (i * sz) ++ vs ++ cs.drop (i * sz)⟩ ++ rest) e) ∧ w'.os = w.os ∧ w'.output = w.output

/-- The cells that X knows of a block. -/
theorem cells_of {ρ : Rho} {H : Tr XO} {nx : Nat} {w : World} (hh : HR CR ρ H nx w) {b : Nat} {live : Bool} {par : List Nat} {cs : XC} (hb : hget H b = .cells live par cs) {L : Loc} (hL : ρ b = some L) {k o : Nat} {vs : List XV} (hs : cs.sub k o = some vs) :
    ∃ l : List Value, VRL ρ vs l ∧ vs.all XV.one = true ∧ l.length = k ∧ (∀ v ∈ l, v.oneCell' = true) ∧ (∀ j v, l[j]? = some v → w.cell? ⟨L.blk, L.base + o + j, none⟩ = some v) := by
  obtain ⟨L', obj, h1, h2, h3⟩ := hh.objs b (by rw [hb]; simp)
  rw [hL] at h1; cases h1
  rw [hb] at h3
  cases obj <;> simp only [OR] at h3
  rename_i a t fr
  obtain ⟨gw, gs, gr, gc, gf, gl⟩ := h3
  obtain ⟨s1, s2, s3⟩ := XC.sub_rep cs k o hs
  have hget := XC.sub_get hs
  have hone : vs.all XV.one = true := by
    rw [List.all_eq_true]
    intro v hv
    obtain ⟨j, hj⟩ := List.getElem?_of_mem hv
    have hjl : j < vs.length := (List.getElem?_eq_some_iff.1 hj).1
    rw [hget j (by omega)] at hj
    exact (gc _ _ hj).1
  have hlen : ((a.toList.drop (L.base + o)).take k).length = k := by
    simp only [List.length_take, List.length_drop, Array.length_toList]
    rcases s1 with h | h <;> omega
  have hv : VRL ρ vs ((a.toList.drop (L.base + o)).take k) := VRL.of_get (by rw [hlen, s3]) fun j v hj => by
    have hjl : j < vs.length := (List.getElem?_eq_some_iff.1 hj).1
    rw [hget j (by omega)] at hj
    obtain ⟨_, x, h5, h6⟩ := gc _ _ hj
    refine ⟨x, ?_, h6⟩
    rw [List.getElem?_take_of_lt (by omega), List.getElem?_drop, Array.getElem?_toList, ← h5]
    congr 1; omega
  refine ⟨_, hv, hone, hlen, vrl_oneCell hv hone, fun j v hj => ?_⟩
  have hjl : j < k := by rw [← hlen]; exact (List.getElem?_eq_some_iff.1 hj).1
  rw [List.getElem?_take_of_lt hjl, List.getElem?_drop, Array.getElem?_toList] at hj
  simp only [World.cell?, h2, Option.isSome_none, Bool.false_eq_true, if_false]
  exact hj

/-- A block is written anew, in place; X takes it for another. -/
theorem place_any {ρ : Rho} {H H1 : Tr XO} {nx : Nat} {w w' : World} (hh : HR CR ρ H nx w) {b : Nat} {par : List Nat} {cs : XC} (hb : hget H b = .cells true par cs) {L : Loc} (hL : ρ b = some L) (hs : Sub H1 H) (hf : Tr.full 14 H1)
    (hpar : ∀ x ∈ par, hget H1 x = .dead) (hb1 : hget H1 b = .dead) {o n sz cap : Nat} {c2 : XC} {os : List Value} (hw : c2.wf) (hr : VRL ρ c2.rep os) (hone : c2.rep.all XV.one = true) (hlen : c2.rep.length = n * sz)
    (hcap : cap * sz + o = L.cap ∧ cap ≤ 9223372036854775807) (hroom : n ≤ cap) {a a' : Array Value} {t : TypeId} {fr : Nat × Nat} (h2 : w.heap[L.blk]? = some (.cells a t fr))
    (s1 : w'.heap[L.blk]? = some (.cells a' t fr)) (s2 : a'.size = a.size) (s3 : ∀ j v, os[j]? = some v → a'[L.base + o + j]? = some v) (s4 : ∀ B, B ≠ L.blk → w'.heap[B]? = w.heap[B]?) (s5 : w'.heap.size = w.heap.size) (s6 : w'.os = w.os) (s7 : w'.output = w.output)
    (hnx : nx < trMax) {lo : Nat} (hlo : lo ≤ nx) :
    ∃ ρ', VR ρ' (.slc nx 0 n 0 sz) (.slice (some ⟨L.blk, L.base + o, none⟩) n cap) ∧ HR CR ρ' (Tr.set (.cells true [] c2) H1 nx) (nx + 1) w' ∧ Ext lo ρ H w ρ' (Tr.set (.cells true [] c2) H1 nx) (nx + 1) w' := by
  obtain ⟨L', obj, h1, h2', h3⟩ := hh.objs b (by rw [hb]; simp)
  rw [hL] at h1; cases h1
  rw [h2] at h2'; cases h2'
  rw [hb] at h3
  simp only [OR] at h3
  obtain ⟨gw, gs, gr, gc, gf, gl⟩ := h3
  have hnone : ρ nx = none := hh.nul nx (Nat.le_refl _)
  have hdead : hget H1 nx = .dead := (hh.sub hs hf).fresh nx (Nat.le_refl _)
  have hmul : n * sz ≤ cap * sz := Nat.mul_le_mul_right _ hroom
  have hwb : wrt (hget H b) := by rw [hb]; rfl
  have hle := Rho.le_put (L := ⟨L.blk, L.base + o, L.cap - o⟩) hnone
  have hin : ∀ x L0, hget H1 x ≠ .dead → ρ x = some L0 → L0.blk ≠ L.blk := by
    intro x L0 hx h0 he
    by_cases e : x = b
    · subst e; exact hx hb1
    · have := (hh.sep b x L L0 (fun h => e h.symm) hwb (hs.alive hx) hL h0 he.symm).2
      rw [hb] at this
      exact absurd (hpar x this) hx
  refine ⟨ρ.put nx ⟨L.blk, L.base + o, L.cap - o⟩, ?_, ?_, ?_⟩
  · simp only [VR]
    refine ⟨⟨L.blk, L.base + o, L.cap - o⟩, by simp [Rho.put], ⟨L.blk, L.base + o, none⟩, cap, rfl, .inl ⟨by simp, ?_, hcap.2⟩⟩
    show cap * sz + 0 = L.cap - o
    omega
  · refine HR.add (obj := .cells a' t fr) (hh.sub hs hf) hdead hnone (by omega) (by omega) (by omega) s1 ?_ ?_ ?_
    · intro x L0 hx h0
      obtain ⟨L1, o1, q1, q2, q3⟩ := (hh.sub hs hf).objs x hx
      rw [q1] at h0; cases h0
      exact ⟨o1, by rw [s4 _ (hin x L0 hx q1)]; exact q2, OR.mono CR hle q3⟩
    · simp only [OR]
      refine ⟨hw, by rw [s2]; omega, by rw [hlen]; omega, fun i v hv => ?_, fun i hi => ?_, fun _ => by rw [s2]; exact gl trivial⟩
      · obtain ⟨x, u1, u2⟩ := VRL.get hr hv
        exact ⟨List.all_eq_true.1 hone v (List.mem_of_getElem? hv), x, s3 i x u1, VR.mono hle u2⟩
      · have := gf (o + i) (by omega)
        rwa [← Nat.add_assoc] at this
    · intro x L0 hx h0 he
      exact absurd he (hin x L0 hx h0)
  · exact Ext.add hs hwb hL rfl hnone hlo (by omega) s5 s4 s6 s7

theorem all_one_ins {old vs : List XV} (h1 : old.all XV.one = true) (h2 : vs.all XV.one = true) (k : Nat) : (old.take k ++ (vs ++ old.drop k)).all XV.one = true := by
  rw [List.all_eq_true] at *
  intro x hx
  rcases List.mem_append.1 hx with h | h
  · exact h1 x (List.mem_of_mem_take h)
  · rcases List.mem_append.1 h with h | h
    · exact h2 x h
    · exact h1 x (List.mem_of_mem_drop h)

theorem len_ins {α : Type} {old vs : List α} {n m sz i : Nat} (h1 : old.length = n * sz) (h2 : vs.length = m * sz) (hi : i ≤ n) : (old.take (i * sz) ++ (vs ++ old.drop (i * sz))).length = (n + m) * sz := by
  have : i * sz ≤ n * sz := Nat.mul_le_mul_right _ hi
  simp only [List.length_append, List.length_take, List.length_drop, h1, h2, Nat.add_mul]
  omega

/-- slices.Insert. -/
theorem xinsert_sound {f sz : Nat} (hI : Inserts P f sz) {fn : Func} {body : Code} (hf : P.funcs[f]? = some fn) (hb : fn.body = some body) (hname : (fn.name == "runtime.NumGoroutine") = false)
    {ρ : Rho} {H : Tr XO} {nx : Nat} {w : World} (hh : HR CR ρ H nx w) {s i v r : XV} {H' : Tr XO} {nx' : Nat} (hx : xinsert H nx sz s i v = .ok r H' nx') {args : List Value} (ha : VRL ρ [s, i, v] args) : OpRes P CR ρ H nx w (callFunc f ⟨args⟩) r H' nx' := by
  match args, ha with
  | [], h => exact h.elim
  | [_], h => exact h.2.elim
  | [_, _], h => exact h.2.2.elim
  | _ :: _ :: _ :: _ :: _, h => exact h.2.2.2.elim
  | [sv, iv, vv], ⟨hs, hi, hv, _⟩ =>
  have fin : CallsIn Fence.wide 0 P f #[sv, iv, vv] w (RetR CR ρ H nx w r H' nx') → OpRes P CR ρ H nx w (callFunc f #[sv, iv, vv]) r H' nx' := fun h => by
    refine .inr (.inl ⟨f, #[sv, iv, vv], ?_, h⟩)
    have h3' : ¬ fn.name = "runtime.NumGoroutine" := by simpa using hname
    simp [callFunc, hf, hb, h3']
  refine fin (callsIn_wide.2 ?_)
  unfold xinsert at hx
  split at hx
  case h_2 => cases hx
  rename_i i vb vo m vc vz
  simp only [VR] at hi
  subst hi
  obtain ⟨h1, hx⟩ := bif_ok hx
  simp only [Bool.and_eq_true, beq_iff, blt_iff] at h1
  obtain ⟨⟨⟨rfl, hsz⟩, hm⟩, hmt⟩ := h1
  have hmt' : m < 16383 := hmt
  split at hx
  case h_2 => cases hx
  rename_i cv hvb
  split at hx
  case h_2 => cases hx
  rename_i vs hvs
  simp only [VR] at hv
  obtain ⟨LV, hLV, va, vcap, rfl, hSV⟩ := hv
  obtain rfl := slc_ptr hSV hm
  obtain ⟨vl, v1, v2, v3, v4, v5⟩ := cells_of hh hvb hLV hvs
  have v3' : vl.length = m * vz := v3
  have hvsl : vs.length = m * vz := by rw [← VRL.length v1]; exact v3'
  have key : ∀ {x : Value} {W : World} {ρ' : Rho}, Calls P f #[sv, .int .i64 (.ofNat i), .slice (some ⟨LV.blk, LV.base + vo, none⟩) m vcap] w (fun e w' => e = .returned x ∧ w'.heap = W.heap ∧ w'.os = W.os ∧ w'.output = W.output) → VR ρ' r x → HR CR ρ' H' nx' W → Ext nx ρ H w ρ' H' nx' W → nx ≤ nx' →
      Calls P f #[sv, .int .i64 (.ofNat i), .slice (some ⟨LV.blk, LV.base + vo, none⟩) m vcap] w (RetR CR ρ H nx w r H' nx') := by
    intro x W ρ' hc h1 h2 h3 h4
    refine Calls.mono hc ?_
    rintro e w' ⟨rfl, e1, e2, e3⟩
    exact ⟨x, ρ', rfl, h1, h2.world e1, h3.world e1 e2 e3, h4⟩
  -- at the end
  have atEnd : ∀ (n : Nat), i = n → VR ρ s sv → lenOf s = some n → (∀ base c, sv = .slice base n c → n ≤ c ∧ (base = none → n = 0)) →
      (∀ base c, sv = .slice base n c → ∃ l : List Value, l.length = n * vz ∧ (∀ v ∈ l, v.oneCell' = true) ∧ (∀ a, base = some a → ∀ j v, l[j]? = some v → w.cell? (a.add j) = some v) ∧ (Builtin.firstCells vz n sv).run P w.drew = .ok ⟨l⟩ w.drew) →
      (∀ base c, sv = .slice base n c → n + m ≤ c → c ≤ 9223372036854775807 ∧ ∃ B o, base = some ⟨B, o, none⟩ ∧ ∃ a t fr, w.heap[B]? = some (.cells a t fr) ∧ o + (n + m) * vz ≤ a.size ∧ ∀ j, o ≤ j → j < o + (n + m) * vz → ¬ (fr.1 ≤ j ∧ j < fr.2)) →
      (∃ base c, sv = .slice base n c) → xappend H nx vz m s vs = .ok r H' nx' →
      Calls P f #[sv, .int .i64 (.ofNat i), .slice (some ⟨LV.blk, LV.base + vo, none⟩) m vcap] w (RetR CR ρ H nx w r H' nx') := by
    rintro n rfl hsv hln hnc hcells hroom ⟨base0, c0, hs0⟩ hx
    have hA : Appends P w vz m sv vl (fun x W => Calls P f #[sv, .int .i64 (.ofNat i), .slice (some ⟨LV.blk, LV.base + vo, none⟩) m vcap] w (fun e w' => e = .returned x ∧ w'.heap = W.heap ∧ w'.os = W.os ∧ w'.output = W.output)) := by
      constructor
      · intro base sLen sCap w' he hr hst
        rw [hs0] at he; cases he
        obtain ⟨hc63, B, o, rfl, a, t, fr, q1, q2, q3⟩ := hroom base0 c0 hs0 hr
        have hmul : (i + m) * vz = i * vz + m * vz := Nat.add_mul _ _ _
        have hrs := run_stores (P := P) (b := B) (o := o + i * vz) (l := vl) q1 (.inr (by rw [v3']; omega)) (fun j hj1 hj2 => q3 j (by omega) (by omega)) v4
        simp only [storeBase, add_eq] at hst
        rw [hrs] at hst
        cases hst
        rw [hs0]
        refine Calls.mono (hI.room w B o i c0 LV.blk (LV.base + vo) m vcap vl hm hr hc63 v3' (fun j hj => ?_) (fun j hj => ?_) v5 v4) ?_
        · simp only [World.cell?, q1, Option.isSome_none, Bool.false_eq_true, if_false]
          rw [Array.getElem?_eq_getElem (by omega)]; rfl
        · simp only [World.frozen?, q1]
          have := q3 (o + i * vz + j) (by omega) (by omega)
          rw [Bool.eq_false_iff]
          intro hc
          simp only [Bool.and_eq_true, decide_eq_true_eq] at hc
          exact this (by simpa using hc)
        · rintro e w' ⟨rfl, rfl⟩
          exact ⟨rfl, rfl, rfl, rfl⟩
      · intro base sLen sCap olds he hr hsm ho
        rw [hs0] at he; cases he
        obtain ⟨l, l1, l2, l3, l4⟩ := hcells base0 c0 hs0
        rw [l4] at ho
        have ho' : olds = l := by cases ho; rfl
        subst ho'
        obtain ⟨nc, rest, e, g1, g2, g3⟩ := hI.grow w base0 i c0 i LV.blk (LV.base + vo) m vcap olds vl (Nat.le_refl _) hm (hnc _ _ hs0).1 hr hsm l1 v3' (hnc _ _ hs0).2 (fun h => absurd h (Nat.lt_irrefl _)) l3 v5 l2 v4
        refine ⟨nc, rest, e, g1, g2, ?_⟩
        rw [hs0]
        refine Calls.mono g3 ?_
        rintro e' w' ⟨rfl, e1, e2, e3⟩
        have ht : olds.take (i * vz) = olds := List.take_of_length_le (by omega)
        have hd : olds.drop (i * vz) = [] := List.drop_eq_nil_of_le (by omega)
        rw [ht, hd, List.append_nil] at e1
        exact ⟨rfl, e1, e2, e3⟩
    obtain ⟨x, W, ρ', hc, h1, h2, h3, h4⟩ := xappend_sound (lo := nx) hh hx hsv v1 v2 hvsl hA (Nat.le_refl _)
    exact key hc h1 h2 h3 h4
  split at hx
  · -- nil
    obtain ⟨h1, hx⟩ := bif_ok hx
    rw [beq_iff] at h1
    simp only [VR] at hs
    subst hs
    refine atEnd 0 h1 (by simp only [VR]) rfl ?_ ?_ ?_ ⟨none, 0, rfl⟩ hx
    · rintro base c ⟨⟩; exact ⟨Nat.le_refl _, fun _ => rfl⟩
    · rintro base c ⟨⟩; exact ⟨[], by simp, by simp, by simp, rfl⟩
    · rintro base c ⟨⟩ h; omega
  · rename_i b o n c z hx0
    clear hx0
    obtain ⟨h1, hx⟩ := bif_ok hx
    simp only [Bool.and_eq_true, beq_iff, blt_iff, Bool.not_eq_true'] at h1
    obtain ⟨⟨⟨rfl, hnt⟩, hne⟩, hcc⟩ := h1
    have hnt' : n < 16383 := hnt
    have hne' : vb ≠ b := fun e => by subst e; rw [(beq_iff vb vb).2 rfl] at hne; cases hne
    have hs' := hs
    simp only [VR] at hs'
    obtain ⟨L, hL, ad, cap, rfl, hS⟩ := hs'
    split at hx
    case h_2 => cases hx
    rename_i live par cs hb0
    split at hx
    case h_2 => cases hx
    rename_i old hold
    obtain ⟨ol, o1, o2, o3, o4, o5⟩ := cells_of hh hb0 hL hold
    have o3' : ol.length = n * z := o3
    have holdl : old.length = n * z := by rw [← VRL.length o1]; exact o3'
    obtain ⟨_, obj, q1, q2, q3⟩ := hh.objs b (by rw [hb0]; simp)
    rw [hL] at q1; cases q1
    rw [hb0] at q3
    cases obj <;> simp only [OR] at q3
    rename_i a t fr
    obtain ⟨gw, gs, gr, gc, gf, gl⟩ := q3
    have hcapn : n ≤ cap := by
      cases c with
      | zero =>
        simp only [SlcR] at hS
        rcases hS with ⟨_, h, _⟩ | ⟨h, _⟩
        · obtain ⟨u1, _, _⟩ := XC.sub_rep cs _ _ hold
          have e : Nat.mul n z = n * z := rfl
          rw [e] at u1
          rcases u1 with u1 | u1
          · have : n = 0 := by
              rcases Nat.mul_eq_zero.1 u1 with h | h <;> omega
            omega
          · have : n * z ≤ cap * z := by omega
            exact Nat.le_of_mul_le_mul_right this hsz
        · omega
      | succ c' =>
        simp only [Bool.and_eq_true, ble_iff, blt_iff] at hcc
        simp only [SlcR] at hS
        rcases hS with ⟨_, h⟩ | ⟨h, _, h'⟩ <;> omega
    have hin : ∀ (j : Nat), c = 0 → n + m ≤ cap → ad = ⟨L.blk, L.base + o, none⟩ ∧ cap * z + o = L.cap ∧ cap ≤ 9223372036854775807 ∧ o + (n + m) * z ≤ L.cap := by
      intro _ hc hr
      subst hc
      simp only [SlcR] at hS
      rcases hS with ⟨h0, h, h'⟩ | ⟨_, h, _⟩
      · have : (n + m) * z ≤ cap * z := Nat.mul_le_mul_right _ hr
        exact ⟨h0, h, h', by omega⟩
      · omega
    rcases bif_or hx with ⟨hi1, hx⟩ | ⟨hi1, hx⟩
    · rw [beq_iff] at hi1
      obtain ⟨hk, hx⟩ := bif_ok hx
      have hnoroom : c ≠ 0 → cap < n + m := fun hc0 => by
        cases c with
        | zero => exact absurd rfl hc0
        | succ c' =>
          simp only [blt_iff] at hk
          have hk' : c' < n + m := hk
          simp only [SlcR] at hS
          rcases hS with ⟨_, h⟩ | ⟨h, h', _⟩ <;> omega
      refine atEnd n hi1 hs rfl ?_ ?_ ?_ ⟨_, _, rfl⟩ hx
      · rintro base c ⟨⟩; exact ⟨hcapn, fun h => by cases h⟩
      · rintro base c ⟨⟩
        have hcell : ∀ a', some ad = some a' → ∀ j v, ol[j]? = some v → w.cell? (a'.add j) = some v := by
          rintro _ ⟨⟩ j v hj
          have hjl : j < ol.length := (List.getElem?_eq_some_iff.1 hj).1
          have hn0 : 0 < n := by
            rcases Nat.eq_zero_or_pos n with h | h
            · subst h; omega
            · exact h
          rw [slc_ptr hS hn0, add_eq]
          exact o5 j v hj
        refine ⟨ol, o3', o4, hcell, ?_⟩
        have := run_loadCells_list (P := P) w.drew ad ol (fun j v hj => hcell _ rfl j v hj)
        simp only [Builtin.firstCells, ← o3', this]
      · rintro base c0 ⟨⟩ hr
        have hc0 : c = 0 := by
          rcases Nat.eq_zero_or_pos c with h | h
          · exact h
          · have := hnoroom (by omega); omega
        obtain ⟨k1, k2, k3, k4⟩ := hin 0 hc0 hr
        refine ⟨k3, L.blk, L.base + o, by rw [k1], a, t, fr, q2, by omega, fun j hj1 hj2 => ?_⟩
        have := gf (j - L.base) (by omega)
        have e : L.base + (j - L.base) = j := by omega
        rwa [e] at this
    · obtain ⟨hin1, hx⟩ := bif_ok hx
      rw [blt_iff] at hin1
      have hn0 : 0 < n := by omega
      obtain rfl := slc_ptr hS hn0
      split at hx
      case h_2 => cases hx
      rename_i c2 hc2
      obtain ⟨w2, r2⟩ := XC.ofList_rep hc2
      have r2' : c2.rep = old.take (i * z) ++ (vs ++ old.drop (i * z)) := r2
      have hone2 := all_one_ins o2 v2 (i * z)
      have hlen2 := len_ins holdl hvsl (Nat.le_of_lt hin1)
      have hlen2' := len_ins o3' v3' (Nat.le_of_lt hin1)
      have hvr2 : VRL ρ (old.take (i * z) ++ (vs ++ old.drop (i * z))) (ol.take (i * z) ++ (vl ++ ol.drop (i * z))) := VRL.append (VRL.take _ o1) (VRL.append v1 (VRL.drop _ o1))
      -- anew
      have anew : ∀ (H1 : Tr XO), Sub H1 H → Tr.full 14 H1 → newObj (.cells true [] c2) (.slc nx 0 (Nat.add n m) 0 z) H1 nx = .ok r H' nx' → cap < n + m →
          Calls P f #[.slice (some ⟨L.blk, L.base + o, none⟩) n cap, .int .i64 (.ofNat i), .slice (some ⟨LV.blk, LV.base + vo, none⟩) m vcap] w (RetR CR ρ H nx w r H' nx') := by
        intro H1 hs1 hf1 hn1 hg
        obtain ⟨hnx, rfl, rfl, rfl⟩ := newObj_ok hn1
        obtain ⟨nc, rest, e, g1, g2, g3⟩ := hI.grow w (some ⟨L.blk, L.base + o, none⟩) n cap i LV.blk (LV.base + vo) m vcap ol vl (Nat.le_of_lt hin1) hm hcapn hg (by omega) o3' v3' (fun h => by cases h) (fun _ => ⟨_, _, rfl⟩)
          (by rintro _ ⟨⟩ j v hj; rw [add_eq]; exact o5 j v hj) v5 o4 v4
        obtain ⟨ρ', t1, t2, t3⟩ := grow_new (os := old.take (i * z) ++ (vs ++ old.drop (i * z))) (vs := []) (olds := ol.take (i * z) ++ (vl ++ ol.drop (i * z))) (l := []) (par := []) (need := n + m) (nc := nc) (sz := z) (e := e) (rest := rest) (lo := nx) hh hs1 hf1 w2 (by rw [r2', List.append_nil]) hvr2 trivial hone2 rfl (by rw [List.append_nil]; exact hlen2) g1.1 g1.2 g2 hnx (Nat.le_refl _)
        refine key (Calls.mono g3 ?_) t1 t2 t3 (by omega)
        rintro e' w' ⟨rfl, e1, e2, e3⟩
        refine ⟨rfl, ?_, e2, e3⟩
        rw [e1, List.append_nil, List.append_assoc]
        rfl
      cases c with
      | succ c' =>
        simp only at hx
        obtain ⟨hg, hx⟩ := bif_ok hx
        rw [blt_iff] at hg
        have hg' : c' < n + m := hg
        refine anew H (Sub.refl H) hh.full hx ?_
        simp only [SlcR] at hS
        rcases hS with ⟨_, h⟩ | ⟨h, h', _⟩ <;> omega
      | zero =>
        simp only at hx
        obtain ⟨hlive, hx⟩ := bif_ok hx
        subst hlive
        obtain ⟨k1, k2⟩ := Sub.kills hh (b :: par)
        have hkd := (kills_spec (b :: par) H hh.full hh.deadBeyond).2
        rcases Nat.lt_or_ge cap (n + m) with hg | hg
        · exact anew _ k1 k2 hx hg
        · obtain ⟨_, u2, u3, u4⟩ := hin 0 rfl hg
          obtain ⟨hnx, rfl, rfl, rfl⟩ := newObj_ok hx
          have hmul : (n + m) * z = n * z + m * z := Nat.add_mul _ _ _
          have hmul2 : (i + m) * z = i * z + m * z := Nat.add_mul _ _ _
          have hiz : i * z ≤ n * z := Nat.mul_le_mul_right _ (Nat.le_of_lt hin1)
          have hmz : 0 < m * z := Nat.mul_pos hm hsz
          -- v lies in another block
          obtain ⟨_, objv, p1, p2, p3⟩ := hh.objs vb (by rw [hvb]; simp)
          rw [hLV] at p1; cases p1
          rw [hvb] at p3
          cases objv <;> simp only [OR] at p3
          rename_i av tv frv
          obtain ⟨pw, ps, pr, pc, pf, pl⟩ := p3
          have hVB : LV.blk ≠ L.blk := fun e => by
            have := (hh.sep vb b LV L hne' (by rw [hvb]; rfl) (by rw [hb0]; simp) hLV hL e).2
            rw [hvb] at this
            cases this
          have hvl0 : vo + m * z ≤ cv.rep.length := by
            obtain ⟨u1, _, _⟩ := XC.sub_rep cv _ _ hvs
            have e : Nat.mul m z = m * z := rfl
            rw [e] at u1
            rcases u1 with u1 | u1 <;> omega
          have hfr : ∀ j, L.base + o ≤ j → j < L.base + o + (n + m) * z → ¬ (fr.1 ≤ j ∧ j < fr.2) := fun j hj1 hj2 => by
            have := gf (j - L.base) (by omega)
            have e : L.base + (j - L.base) = j := by omega
            rwa [e] at this
          have hsh := hI.shift w L.blk (L.base + o) n cap i LV.blk (LV.base + vo) m vcap ol vl hin1 hm hg u3 hVB o3' v3' o5
            (fun j hj => by
              simp only [World.cell?, q2, Option.isSome_none, Bool.false_eq_true, if_false]
              rw [Array.getElem?_eq_getElem (by omega)]; rfl)
            (fun j hj => by
              simp only [World.frozen?, q2]
              have := hfr (L.base + o + j) (by omega) (by omega)
              rw [Bool.eq_false_iff]
              intro hc
              simp only [Bool.and_eq_true, decide_eq_true_eq] at hc
              exact this (by simpa using hc))
            v5 o4 v4 tv t av.size a.size (by simp only [World.shape?, p2]) (by simp only [World.shape?, q2]) (by omega)
            (by
              simp only [World.frozen?, p2]
              have := pf vo (by omega)
              rw [Bool.eq_false_iff]
              intro hc
              simp only [Bool.and_eq_true, decide_eq_true_eq] at hc
              exact this (by simpa using hc))
            (by
              simp only [World.frozen?, p2]
              have := pl trivial
              rw [Bool.eq_false_iff]
              intro hc
              simp only [Bool.and_eq_true, decide_eq_true_eq] at hc
              exact this (by simpa using hc))
          have q2' : w.drew.heap[L.blk]? = some (.cells a t fr) := q2
          obtain ⟨⟨a1, s1, s2, s3⟩, s4, s5, s6, s7⟩ := setCells_spec L.blk (ol.drop (i * z)) (L.base + o + (i + m) * z) w.drew a t fr q2'
          obtain ⟨⟨a2, t1, t2, t3⟩, t4, t5, t6, t7⟩ := setCells_spec L.blk vl (L.base + o + i * z) _ a1 t fr s1
          have hdl : (ol.drop (i * z)).length = n * z - i * z := by rw [List.length_drop, o3']
          have htl : (ol.take (i * z)).length = i * z := by rw [List.length_take, o3']; omega
          obtain ⟨ρ', y1, y2, y3⟩ := place_any (lo := nx) (n := n + m) (sz := z) (cap := cap) (c2 := c2) (os := ol.take (i * z) ++ (vl ++ ol.drop (i * z))) (a := a) (a' := a2) (t := t) (fr := fr) (w' := (w.drew.setCells L.blk (L.base + o + (i + m) * z) (ol.drop (i * z))).setCells L.blk (L.base + o + i * z) vl)
            hh hb0 hL k1 k2 (fun x hx => by rw [hkd x, if_pos (by simp [hx])]) (by rw [hkd b, if_pos (by simp)]) w2 (by rw [r2']; exact hvr2) (by rw [r2']; exact hone2) (by rw [r2']; exact hlen2) ⟨u2, u3⟩ hg q2 t1 (by rw [t2, s2])
            (fun j v hj => by
              have hjl : j < (n + m) * z := by rw [← hlen2']; exact (List.getElem?_eq_some_iff.1 hj).1
              rw [t3, s2]
              rcases Nat.lt_or_ge j (i * z) with h1 | h1
              · rw [List.getElem?_append_left (by omega), List.getElem?_take_of_lt h1] at hj
                rw [if_neg (by omega), s3, if_neg (by omega)]
                have := o5 j v hj
                simpa only [World.cell?, q2, Option.isSome_none, Bool.false_eq_true, if_false] using this
              · rw [List.getElem?_append_right (by omega), htl] at hj
                rcases Nat.lt_or_ge (j - i * z) (m * z) with h2 | h2
                · rw [List.getElem?_append_left (by omega)] at hj
                  rw [if_pos (by omega), ← hj]
                  congr 1; omega
                · rw [List.getElem?_append_right (by omega), v3'] at hj
                  rw [if_neg (by omega), s3, if_pos (by omega), ← hj]
                  congr 1; omega)
            (fun B hB => by rw [t4 B hB, s4 B hB]; rfl) (by rw [t5, s5]; rfl) (by rw [t6, s6]; rfl) (by rw [t7, s7]; rfl) hnx (Nat.le_refl _)
          refine key (Calls.mono hsh ?_) y1 y2 y3 (by omega)
          rintro e' w' ⟨rfl, rfl⟩
          exact ⟨rfl, rfl, rfl, rfl⟩
  · cases hx

/-- What is asked of a function without X's code. -/
def ExtFn (P : Program) (f : Nat) : XFn → Prop
  | .code _ => True
  | .ins sz => ∃ fn body, P.funcs[f]? = some fn ∧ fn.body = some body ∧ (fn.name == "runtime.NumGoroutine") = false ∧ Inserts P f sz
  | .f64bits => ∃ fn, P.funcs[f]? = some fn ∧ (fn.name == "runtime.NumGoroutine") = false ∧ fn.body.isNone = true ∧ Extern.findNext fn = none ∧ Extern.find fn = some Extern.MathFloatBits.float64bits

theorem extOk {D : Nat → Nat → Array Oper → Nat → List XDop → List (Nat × XE) → Bool} {F : FT} (h : ∀ f x, F f = some x → ExtFn P f x) : ExtOk P D F := by
  intro ih f av H nx v H' nx' hn hx ρ w args hh ha
  unfold enter at hx
  cases hF : F f with
  | none => rw [hF] at hx; cases hx
  | some x =>
    rw [hF] at hx
    have hE := h f x hF
    cases x with
    | code fn => exact absurd hF (hn fn)
    | ins sz =>
      obtain ⟨fn, body, h1, h2, h3, h4⟩ := hE
      simp only at hx
      split at hx
      · exact xinsert_sound h4 h1 h2 h3 hh hx ha
      · cases hx
    | f64bits =>
      obtain ⟨fn, h1, h2, h3, h4, h5⟩ := hE
      simp only at hx
      split at hx
      · cases hx
        exact f64_sound h1 h2 h3 h4 h5 hh ha
      · cases hx
end
end Go.X
/- slices.Insert at []int: the shelf's, av X wants it. -/
namespace Go.X
open Go.Shelf Go.Proofs
set_option linter.unusedVariables false
set_option linter.unusedSimpArgs false

theorem zeroCells_list (n : Nat) : Builtin.zeroCells (Value.int .i64 0).cells n = Array.replicate n (Value.int .i64 0) := by
  apply Array.ext
  · simp [Builtin.zeroCells, Value.cells]
  · intro i h1 h2
    simp [Builtin.zeroCells, Value.cells, Nat.mod_one]

theorem grown_ge (w : World) (need old : Nat) (e : TypeId) : need ≤ grownCap w need old e := by
  simp only [grownCap, Question.cut]
  exact Nat.le_add_right _ _

theorem grown_le (w : World) (need old : Nat) (e : TypeId) (h : need < 32766) : grownCap w need old e ≤ 9223372036854775807 := by
  have hlt := Nat.mod_lt (w.tape w.drawn (.appendCap need old e)) (show 0 < 2 ^ 63 - need by omega)
  simp only [grownCap, Question.cut]
  omega

/-- Two writes into a row that was laid last. -/
theorem heap_two (w w0 : World) (row : Array Value) (e : TypeId) (k : Nat) (vs ds : List Value) (hw : w0.heap = w.heap.push (.cells row e)) (h0 : k + vs.length + ds.length ≤ row.size) (hos : w0.os = w.os) (hou : w0.output = w.output) :
    ((((w0.setCells w.heap.size k vs).drew).setCells w.heap.size (k + vs.length) ds).heap = w.heap.push (.cells (⟨(row.toList.take k) ++ vs ++ ds ++ row.toList.drop (k + vs.length + ds.length)⟩) e)) ∧
    (((w0.setCells w.heap.size k vs).drew).setCells w.heap.size (k + vs.length) ds).os = w.os ∧ (((w0.setCells w.heap.size k vs).drew).setCells w.heap.size (k + vs.length) ds).output = w.output := by
  have h1 : w0.heap[w.heap.size]? = some (.cells row e) := by rw [hw]; simp
  obtain ⟨⟨a1, s1, s2, s3⟩, s4, s5, s6, s7⟩ := setCells_spec w.heap.size vs k w0 row e (0, 0) h1
  have h2 : ((w0.setCells w.heap.size k vs).drew).heap[w.heap.size]? = some (.cells a1 e) := s1
  obtain ⟨⟨a2, t1, t2, t3⟩, t4, t5, t6, t7⟩ := setCells_spec w.heap.size ds (k + vs.length) (w0.setCells w.heap.size k vs).drew a1 e (0, 0) h2
  refine ⟨?_, by rw [t6]; exact s6.trans hos, by rw [t7]; exact s7.trans hou⟩
  have hsz : (((w0.setCells w.heap.size k vs).drew).setCells w.heap.size (k + vs.length) ds).heap.size = w.heap.size + 1 := by
    rw [t5]
    show (w0.setCells w.heap.size k vs).heap.size = _
    rw [s5, hw]; simp
  apply Array.ext
  · rw [hsz]; simp
  · intro B hB1 hB2
    apply Option.some.inj
    rw [← Array.getElem?_eq_getElem hB1, ← Array.getElem?_eq_getElem hB2]
    by_cases hB : B = w.heap.size
    · subst hB
      rw [t1]
      simp only [Array.getElem?_push_size]
      congr 2
      apply Array.ext'
      apply List.ext_getElem?
      intro j
      have h5 := t3 j
      rw [s2] at h5
      have h6 := s3 j
      rw [Array.getElem?_toList, h5]
      have hrl : row.toList.length = row.size := by simp
      have htk : (row.toList.take k).length = k := by rw [List.length_take]; omega
      rcases Nat.lt_or_ge j k with c1 | c1
      · rw [if_neg (by omega), h6, if_neg (by omega), List.append_assoc, List.append_assoc, List.getElem?_append_left (by omega), List.getElem?_take_of_lt c1]; simp
      · rcases Nat.lt_or_ge j (k + vs.length) with c2 | c2
        · rw [if_neg (by omega), h6, if_pos (by omega), List.append_assoc, List.append_assoc, List.getElem?_append_right (by omega), htk, List.getElem?_append_left (by omega)]
        · rcases Nat.lt_or_ge j (k + vs.length + ds.length) with c3 | c3
          · rw [if_pos (by omega), List.append_assoc, List.append_assoc, List.getElem?_append_right (by omega), htk, List.getElem?_append_right (by omega), List.getElem?_append_left (by omega)]
            congr 1; omega
          · rw [if_neg (by omega), h6, if_neg (by omega), List.append_assoc, List.append_assoc, List.getElem?_append_right (by omega), htk, List.getElem?_append_right (by omega), List.getElem?_append_right (by omega), List.getElem?_drop, Array.getElem?_toList]
            congr 1; omega
    · rw [t4 B hB]
      show (w0.setCells w.heap.size k vs).heap[B]? = _
      rw [s4 B hB, hw, Array.getElem?_push, Array.getElem?_push, if_neg hB, if_neg hB]

theorem inserts_int {P : Program} {ρ : Ren} (L : Lays2.n21 P ρ) : Inserts P (ρ.f 21) 1 where
  shift := by
    intro w B o n c i V vo m vc cs vs h1 h2 h3 h4 h5 h6 h7 h8 h9 h10 h11 h12 h13 tA tB kA kB h14 h15 h16 h17 h18
    simp only [Nat.mul_one] at *
    exact Any2.slices_Insert_int_shift L B o n c i V vo m vc cs vs w h1 h2 h3 h4 h5 h6 h7 h8 h9 h10 h11 h12 h13 tA tB kA kB h14 h15 h16 h17 h18
  room := by
    intro w B o n c V vo m vc vs h1 h2 h3 h4 h5 h6 h7 h8
    simp only [Nat.mul_one] at *
    exact Any2.slices_Insert_int_end_room L B o n c V vo m vc vs w h1 h2 h3 h4 h5 h6 h7 h8
  grow := by
    intro w base n c i V vo m vc cs vs hi hm hnc hc hsm hcl hvl hbn hbi hcs hvs h1c h1v
    simp only [Nat.mul_one] at *
    rcases Nat.lt_or_ge i n with hin | hin
    · obtain ⟨B, o, rfl⟩ := hbi hin
      have hcs' : ∀ j v, cs[j]? = some v → w.cell? ⟨B, o + j, none⟩ = some v := fun j v hj => by
        have := hcs _ rfl j v hj
        rwa [add_eq] at this
      have hg := Any2.slices_Insert_int_grow L B o n c i V vo m vc cs vs w hin hm hnc hc (by omega) hcl hvl hcs' hvs h1c h1v
      generalize hG : grownCap w (n + m) c (ρ.t 3) = G at hg
      have hG1 : n + m ≤ G := by rw [← hG]; exact grown_ge _ _ _ _
      have hG2 : G ≤ 9223372036854775807 := by rw [← hG]; exact grown_le _ _ _ _ (by omega)
      refine ⟨G, Builtin.zeroCells (Value.int .i64 0).cells (G - (n + m)), ρ.t 3, ⟨hG1, hG2⟩, by simp [zeroCells_list], ?_⟩
      refine Calls.mono hg ?_
      rintro e' w' ⟨rfl, rfl⟩
      simp only [zeroCells_list]
      have htl : (cs.take i).length = i := by rw [List.length_take]; omega
      have hdl : (cs.drop i).length = n - i := by rw [List.length_drop, hcl]
      obtain ⟨q1, q2, q3⟩ := heap_two w ((w.alloc (.cells ((cs.take i).toArray ++ Array.replicate (n + m - i) (Value.int .i64 0) ++ Array.replicate (G - (n + m)) (Value.int .i64 0)) (ρ.t 3))).drew) _ (ρ.t 3) i vs (cs.drop i) rfl (by
        simp only [Array.size_append, List.size_toArray, Array.size_replicate]; omega) rfl rfl
      rw [hvl] at q1 q2 q3
      refine ⟨by first | rfl | trivial, ?_, q2, q3⟩
      rw [q1]
      congr 2
      apply Array.ext'
      have e1 : i + m + (cs.drop i).length = n + m := by omega
      rw [e1]
      simp only [Array.toList_append, Array.toList_replicate]
      congr 1
      · congr 2
        rw [List.append_assoc, List.take_append_of_le_length (by omega), List.take_of_length_le (by omega)]
      · rw [List.drop_append, List.drop_of_length_le (by simp only [List.length_append, List.length_replicate]; omega)]
        simp only [List.length_append, List.length_replicate, htl, List.nil_append, Array.toList_append, List.toList_toArray]
        have e2 : n + m - (i + (n + m - i)) = 0 := by omega
        rw [e2, List.drop_zero]
    · obtain rfl : i = n := by omega
      have hg := Any2.slices_Insert_int_end_grow L base i c V vo m vc cs vs w hm hnc hc (by omega) hcl hvl hbn hcs hvs h1v
      generalize hG : grownCap w (i + m) c (ρ.t 3) = G at hg
      have hG1 : i + m ≤ G := by rw [← hG]; exact grown_ge _ _ _ _
      have hG2 : G ≤ 9223372036854775807 := by rw [← hG]; exact grown_le _ _ _ _ (by omega)
      refine ⟨G, Builtin.zeroCells (Value.int .i64 0).cells (G - (i + m)), ρ.t 3, ⟨hG1, hG2⟩, by simp [zeroCells_list], ?_⟩
      refine Calls.mono hg ?_
      rintro e' w' ⟨rfl, rfl⟩
      have ht : cs.take i = cs := List.take_of_length_le (by omega)
      have hd : cs.drop i = [] := List.drop_eq_nil_of_le (by omega)
      refine ⟨rfl, ?_, rfl, rfl⟩
      rw [ht, hd, List.append_nil]
      rfl
end Go.X
/- What X's answer gives for a row whose arguments are plain values. -/
namespace Go.X
open Go.RowKit Go.ChangeShapes Go.WideShapes Go.ChangeAt
set_option linter.unusedVariables false
set_option linter.unusedSimpArgs false

theorem kept_of {W W' : World} (h1 : ∀ B, B < W.heap.size → W'.heap[B]? = W.heap[B]?) (h2 : W'.os = W.os) (h3 : W'.output = W.output) (may : MemPlace → Prop) : W.keptBut W' may := by
  refine ⟨h2, h3, fun i hi => ?_⟩
  rw [h1 i hi]
  split
  · rename_i e1 e2
    rw [e1] at e2; cases e2
    exact ⟨rfl, rfl, rfl, fun _ _ => rfl⟩
  · rename_i e1 e2
    rw [e1] at e2; cases e2
    exact .inr ⟨rfl, rfl⟩
  · rfl

variable {H : Type} {enc : TypeId × Value → H} {P : Program}
/-- As 'post_of_same', where the arguments hold no place: of the marks of what is new nothing is asked. -/
theorem post_flat {f : Func} {s : ChangeSpec} {apart fresh handsOn again : Bool} {W W' : World} {args : Array Value} {v : Value} {ds gs : List (DataW H)}
    (hW : DataW.Whole enc P f.params.toList s.vars apart W args.toList ds gs [])
    (hres : ∀ (b : Nat) (sp : Nat → Bool) (hd : Bool), DataW.TrodAll enc P W' b sp hd f.resultTypes.toList (v.resultList f.resultTypes.size) (s.fn H (ds ++ gs)).results [])
    (hargs : ∀ sp : Nat → Bool, DataW.TrodAll enc P W' 0 sp true f.params.toList args.toList (s.fn H (ds ++ gs)).args [])
    (hvars : ∀ sp : Nat → Bool, DataW.TrodVars enc P W' sp s.vars (s.fn H (ds ++ gs)).vars [])
    (hk : W.keptBut W' (fun _ => False))
    (hok : ∀ (j : Nat) (t : TypeId) (r : Value), f.resultTypes[j]? = some t → (v.resultList f.resultTypes.size)[j]? = some r → Value.okWide P W' .any 0 t r) :
    s.post enc P f apart fresh handsOn again W args v W' := by
  refine ⟨ds, gs, [], [], [], [], hW, hres _ _ _, hargs _, hvars _, World.keptBut_mono (fun p hp => hp.elim) hk, fun _ => ?_⟩
  obtain ⟨_, _, _, _, _, hz, hn⟩ := hW
  refine ⟨hok, _, _, ([] ++ []) ++ [], ⟨[] ++ [], [], trodAll_append (hargs _) (hres _ _ _), hvars _, rfl, ?_, ?_⟩, ?_⟩
  · intro b off hp
    simp at hp
  · intro _
    simp
  · intro p hp _
    simp at hp
end Go.X
