/- X, part 1: an abstract machine for the code of the model, and that it is right. No condition. -/
import Derived.Test.YtgllekagmcabeaaGreatX0
import Derived.CallsIn
import Derived.RangeFuncLeaves
import Derived.OrdersIn
set_option linter.constructorNameAsVariable false
set_option linter.unnecessarySimpa false
/- append: X's answer. -/
namespace Go.X
set_option linter.unusedVariables false
set_option linter.unusedSimpArgs false
section
variable {CR : Nat → Nat → Code → XCode → Prop}
variable {P : Program} {ρ : Rho} {H : Tr XO} {nx : Nat} {w : World}

/-- An operation of the chain that gives a value. -/
def EffV (P : Program) (CR : Nat → Nat → Code → XCode → Prop) (lo : Nat) (ρ : Rho) (H : Tr XO) (nx : Nat) (w : World) (s : Sem Value) (v : XV) (H' : Tr XO) (nx' : Nat) : Prop :=
  ∃ x w' ρ', s.run P w = .ok x w' ∧ VR ρ' v x ∧ HR CR ρ' H' nx' w' ∧ Ext lo ρ H w ρ' H' nx' w' ∧ nx ≤ nx'

theorem bif_ok {c : Bool} {a : XR} {v : XV} {H' : Tr XO} {nx' : Nat} (h : (bif c then a else .no) = .ok v H' nx') : c = true ∧ a = .ok v H' nx' := by
  cases c with
  | true => exact ⟨rfl, h⟩
  | false => cases h

theorem bif_or {c : Bool} {a b r : XR} (h : (bif c then a else b) = r) : (c = true ∧ a = r) ∨ (c = false ∧ b = r) := by
  cases c with
  | true => exact .inl ⟨rfl, h⟩
  | false => exact .inr ⟨rfl, h⟩

theorem newObj_ok {o : XO} {u v : XV} {H H' : Tr XO} {nx nx' : Nat} (h : newObj o u H nx = .ok v H' nx') : nx < trMax ∧ v = u ∧ H' = Tr.set o H nx ∧ nx' = nx + 1 := by
  unfold newObj at h
  obtain ⟨h1, h2⟩ := bif_ok h
  rw [blt_iff] at h1
  cases h2
  exact ⟨h1, rfl, rfl, rfl⟩

/-- What is asked of an append: with room, without. -/
structure Appends (P : Program) (w : World) (sz k : Nat) (s : Value) (l : List Value) (R : Value → World → Prop) : Prop where
  room : ∀ base sLen sCap w', s = .slice base sLen sCap → sLen + k ≤ sCap → (storeBase sz sLen l base).run P w = .ok () w' → R (.slice base (sLen + k) sCap) w'
  grow : ∀ base sLen sCap olds, s = .slice base sLen sCap → sCap < sLen + k → sLen + k < 32766 → (Builtin.firstCells sz sLen s).run P w.drew = .ok ⟨olds⟩ w.drew →
    ∃ nc rest e, (sLen + k ≤ nc ∧ nc ≤ 9223372036854775807) ∧ rest.size = (nc - (sLen + k)) * sz ∧ R (.slice (some ⟨w.heap.size, 0, none⟩) (sLen + k) nc) (w.drew.alloc (.cells (⟨olds ++ l⟩ ++ rest) e))

def EffR (R : Value → World → Prop) (CR : Nat → Nat → Code → XCode → Prop) (lo : Nat) (ρ : Rho) (H : Tr XO) (nx : Nat) (w : World) (v : XV) (H' : Tr XO) (nx' : Nat) : Prop :=
  ∃ x w' ρ', R x w' ∧ VR ρ' v x ∧ HR CR ρ' H' nx' w' ∧ Ext lo ρ H w ρ' H' nx' w' ∧ nx ≤ nx'

theorem xappend_sound (hh : HR CR ρ H nx w) {sz k : Nat} {a : XV} {vs : List XV} {v : XV} {H' : Tr XO} {nx' : Nat} (hx : xappend H nx sz k a vs = .ok v H' nx') {s : Value} (ha : VR ρ a s) {l : List Value}
    (hl : VRL ρ vs l) (hl1 : vs.all XV.one = true) (hlen : vs.length = k * sz) {R : Value → World → Prop} (hA : Appends P w sz k s l R) {lo : Nat} (hlo : lo ≤ nx) : EffR R CR lo ρ H nx w v H' nx' := by
  have hll := VRL.length hl
  unfold xappend at hx
  split at hx
  · -- nothing is appended
    have hl0 : l = [] := List.eq_nil_of_length_eq_zero (by rw [hll, hlen]; simp)
    subst hl0
    have fin : ∀ base sLen sCap, s = .slice base sLen sCap → sLen ≤ sCap → v = a → H' = H → nx' = nx → EffR R CR lo ρ H nx w v H' nx' := by
      rintro base sLen sCap rfl hc rfl rfl rfl
      refine ⟨_, w, ρ, hA.room base sLen sCap w rfl (by omega) (by cases base <;> rfl), ha, hh, Ext.refl _ _ _ _ _, Nat.le_refl _⟩
    split at hx
    · cases hx
      simp only [VR] at ha
      exact fin none 0 0 ha (Nat.le_refl _) rfl rfl rfl
    · rename_i b o n c z
      have ha' := ha
      simp only [VR] at ha'
      obtain ⟨L, hL, ad, cap, hs, hS⟩ := ha'
      split at hx
      · rename_i c'
        obtain ⟨h1, h2⟩ := bif_ok hx
        rw [ble_iff] at h1
        cases h2
        simp only [SlcR] at hS
        refine fin (some ad) n cap hs ?_ rfl rfl rfl
        rcases hS with ⟨_, h⟩ | ⟨h, _⟩ <;> omega
      · split at hx
        · rename_i live par cs hb
          obtain ⟨h1, h2⟩ := bif_ok hx
          simp only [Bool.and_eq_true, blt_iff, ble_iff] at h1
          obtain ⟨h3, h4⟩ := h1
          cases h2
          have h5 := cells_len hh hb hL
          have h6 : o + n * z ≤ L.cap := Nat.le_trans h4 h5
          simp only [SlcR] at hS
          refine fin (some ad) n cap hs ?_ rfl rfl rfl
          rcases hS with ⟨_, h⟩ | ⟨h, _⟩
          · have : n * z ≤ cap * z := by omega
            exact Nat.le_of_mul_le_mul_right this h3
          · omega
        · cases hx
    · cases hx
  · rename_i hk0
    have hk : 0 < k := Nat.pos_of_ne_zero (fun h => hk0 h)
    obtain ⟨h1, hx1⟩ := bif_ok hx
    simp only [Bool.and_eq_true, blt_iff, beq_iff] at h1
    obtain ⟨⟨hkt, _⟩, hsz⟩ := h1
    have hkt' : k < 16383 := hkt
    have hks : 0 < k * sz := Nat.mul_pos hk hsz
    split at hx1
    · -- nil
      split at hx1
      · rename_i c hc
        obtain ⟨hnx, rfl, rfl, rfl⟩ := newObj_ok hx1
        simp only [VR] at ha
        subst ha
        obtain ⟨hw, hr⟩ := XC.ofList_rep hc
        obtain ⟨nc, rest, e, g1, g2, g3⟩ := hA.grow none 0 0 [] rfl (by omega) (by omega) rfl
        obtain ⟨ρ', r1, r2, r3⟩ := grow_new (os := []) (olds := []) (l := l) (par := []) (need := 0 + k) (nc := nc) (sz := sz) (e := e) (rest := rest) hh (Sub.refl H) hh.full hw hr trivial hl rfl hl1 (by simp [hlen]) g1.1 g1.2 g2 hnx hlo
        rw [Nat.zero_add] at r1 g3
        exact ⟨_, _, ρ', g3, r1, r2, r3, by omega⟩
      · cases hx1
    · -- a slice
      rename_i b o n c z
      obtain ⟨h1, hx2⟩ := bif_ok hx1
      simp only [Bool.and_eq_true, blt_iff, beq_iff] at h1
      obtain ⟨rfl, hnt⟩ := h1
      have hnt' : n < 16383 := hnt
      clear hx1 hx
      have ha' := ha
      simp only [VR] at ha'
      obtain ⟨L, hL, ad, cap, hs, hS⟩ := ha'
      subst hs
      split at hx2
      · rename_i live par cs hb
        have hcl := cells_len hh hb hL
        have hneed : Nat.add n k = n + k := rfl
        have hat : Nat.add o (Nat.mul n z) = o + n * z := rfl
        simp only [hneed, hat] at hx2
        -- what the slice held
        have holds : ∀ c2, cs.extend o (n * z) vs = some c2 → ∃ olds : List Value, VRL ρ ((cs.rep.drop o).take (n * z)) olds ∧ ((cs.rep.drop o).take (n * z)).all XV.one = true ∧
            (Builtin.firstCells z n (.slice (some ad) n cap)).run P w.drew = .ok ⟨olds⟩ w.drew ∧ ((cs.rep.drop o).take (n * z)).length = n * z := by
          intro c2 hc2
          have hwf : cs.wf := by
            obtain ⟨L', obj, h1, h2, h3⟩ := hh.objs b (by rw [hb]; simp)
            rw [hb] at h3
            cases obj <;> simp only [OR] at h3
            exact h3.1
          obtain ⟨_, e2, _⟩ := XC.extend_rep hwf hc2
          have hsub := XC.sub_some cs (n * z) o e2
          have hrd : srcCells H z n (.slc b o n c z) = some ((cs.rep.drop o).take (n * z)) := by
            simp only [srcCells, (beq_iff z z).2 rfl, cond_true, rd, hb]
            exact hsub
          obtain ⟨olds, q1, q2, q3, q4⟩ := srcCells_sound (P := P) hh hrd rfl (Nat.le_refl n) ha
          exact ⟨olds, q2, q3, q1 _ rfl, q4⟩
        have hwf : cs.wf := by
          obtain ⟨L', obj, h1, h2, h3⟩ := hh.objs b (by rw [hb]; simp)
          rw [hb] at h3
          cases obj <;> simp only [OR] at h3
          exact h3.1
        rcases bif_or hx2 with ⟨hroom, hx2⟩ | ⟨hroom, hx2⟩
        · split at hx2
          · rename_i H2 hwr
            cases hx2
            obtain ⟨w', t1, t2, t3⟩ := wr_sound (P := P) hh hwr hL hl hl1 lo
            have hcap : n + k ≤ cap ∧ ad = ⟨L.blk, L.base + o, none⟩ := by
              cases c with
              | zero =>
                simp only [ble_iff] at hroom
                have h6 : o + (n + k) * z ≤ L.cap := Nat.le_trans hroom hcl
                simp only [SlcR] at hS
                rcases hS with ⟨hp, h⟩ | ⟨h, _, h'⟩
                · refine ⟨?_, hp⟩
                  have : (n + k) * z ≤ cap * z := by omega
                  exact Nat.le_of_mul_le_mul_right this hsz
                · rw [Nat.add_mul] at h6; omega
              | succ c' =>
                simp only [ble_iff] at hroom
                simp only [SlcR] at hS
                rcases hS with ⟨hp, h⟩ | ⟨h, _, h'⟩
                · exact ⟨by omega, hp⟩
                · omega
            refine ⟨_, w', ρ, hA.room (some ad) n cap w' rfl hcap.1 ?_, ?_, t2, t3, Nat.le_refl _⟩
            · simp only [storeBase]
              refine t1 _ (.inl ?_)
              rw [hcap.2, add_eq]
              rw [Nat.add_assoc]
            · simp only [VR]
              refine ⟨L, hL, ad, cap, rfl, ?_⟩
              cases c with
              | zero =>
                simp only [SlcR] at hS ⊢
                rcases hS with h | ⟨h, h', _⟩
                · exact .inl h
                · omega
              | succ c' =>
                simp only [SlcR] at hS ⊢
                rcases hS with h | ⟨h, h', _⟩
                · exact .inl h
                · omega
          · cases hx2
        · split at hx2
          · cases hx2
          · rename_i c2 hc2
            have hc2' : cs.extend o (n * z) vs = some c2 := hc2
            obtain ⟨w2, e2, r2⟩ := XC.extend_rep hwf hc2'
            obtain ⟨olds, o1, o2, o3, o4⟩ := holds c2 hc2'
            have hlen2 : (((cs.rep.drop o).take (n * z)) ++ vs).length = (n + k) * z := by rw [List.length_append, o4, hlen, Nat.add_mul]
            have anew : ∀ (H1 : Tr XO) (par2 : List Nat), Sub H1 H → Tr.full 14 H1 → newObj (.cells true par2 c2) (.slc nx 0 (n + k) 0 z) H1 nx = .ok v H' nx' → cap < n + k → EffR R CR lo ρ H nx w v H' nx' := by
              intro H1 par2 hs1 hf1 hn1 hg
              obtain ⟨hnx, rfl, rfl, rfl⟩ := newObj_ok hn1
              obtain ⟨nc, rest, e, g1, g2, g3⟩ := hA.grow (some ad) n cap olds rfl hg (by omega) o3
              obtain ⟨ρ', r1, r2', r3⟩ := grow_new (par := par2) (e := e) (rest := rest) hh hs1 hf1 w2 r2 o1 hl o2 hl1 hlen2 g1.1 g1.2 g2 hnx hlo
              exact ⟨_, _, ρ', g3, r1, r2', r3, by omega⟩
            split at hx2
            · rename_i c' hroom' 
              simp only [ble_false] at hroom
              refine anew H [] (Sub.refl H) hh.full hx2 ?_
              simp only [SlcR] at hS
              rcases hS with ⟨_, h⟩ | ⟨h, h', _⟩ <;> omega
            · obtain ⟨hlive, hx3⟩ := bif_ok hx2
              subst hlive
              have both : ∀ (H1 : Tr XO) (par2 : List Nat), Sub H1 H → Tr.full 14 H1 → (∀ x ∈ par, hget H1 x = .dead) → (hget H1 b = .dead ∨ (hget H1 b = .cells false [] cs ∧ o + n * z = cs.rep.length ∧ par2 = [b])) →
                  newObj (.cells true par2 c2) (.slc nx 0 (n + k) 0 z) H1 nx = .ok v H' nx' → EffR R CR lo ρ H nx w v H' nx' := by
                intro H1 par2 hs1 hf1 hp1 hb1 hn1
                rcases Nat.lt_or_ge cap (n + k) with hg | hg
                · exact anew H1 par2 hs1 hf1 hn1 hg
                · obtain ⟨hnx, rfl, rfl, rfl⟩ := newObj_ok hn1
                  simp only [SlcR] at hS
                  rcases hS with ⟨rfl, hcap⟩ | ⟨h, h', _⟩
                  · obtain ⟨w', ρ', t1, t2, t3, t4⟩ := place_new (P := P) (par2 := par2) hh hb hL hs1 hf1 hp1 hb1 w2 r2 e2 hl hl1 hlen hcap hg hks hnx hlo
                    refine ⟨_, w', ρ', hA.room _ n cap w' rfl hg ?_, t2, t3, t4, by omega⟩
                    simp only [storeBase]
                    rw [add_eq]
                    exact t1
                  · omega
              rcases bif_or hx3 with ⟨hq, hx3⟩ | ⟨hq, hx3⟩
              · rw [beq_iff, XC.size_rep] at hq
                have hbt : b < trMax := Nat.lt_of_lt_of_le (hh.lt (by rw [hb]; simp)) hh.lim
                have hkk := kills_spec par (Tr.set (XO.cells false [] cs) H b) (Tr.full_set _ _ _ _ hh.full) (fun y hy => by rw [hget_set_ne (by omega)]; exact hh.deadBeyond y hy)
                have hg1 : ∀ x, hget (kills (Tr.set (XO.cells false [] cs) H b) par) x = if x ∈ par then .dead else if x = b then .cells false [] cs else hget H x := fun x => by
                  rw [hkk.2 x, hget_set hh.full hbt x]
                refine both _ [b] (fun x => ?_) hkk.1 (fun x hx => by rw [hg1 x, if_pos hx]) ?_ hx3
                · rw [hg1 x]
                  by_cases hp : x ∈ par
                  · rw [if_pos hp]; exact .inl rfl
                  · rw [if_neg hp]
                    by_cases e : x = b
                    · subst e; rw [if_pos rfl]; exact .inr (.inr ⟨_, _, _, hb, rfl⟩)
                    · rw [if_neg e]; exact .inr (.inl rfl)
                · rw [hg1 b]
                  by_cases hp : b ∈ par
                  · rw [if_pos hp]; exact .inl rfl
                  · rw [if_neg hp, if_pos rfl]; exact .inr ⟨rfl, hq, rfl⟩
              · obtain ⟨k1, k2⟩ := Sub.kills hh (b :: par)
                have hkd := (kills_spec (b :: par) H hh.full hh.deadBeyond).2
                exact both _ [] k1 k2 (fun x hx => by rw [hkd x, if_pos (by simp [hx])]) (.inl (by rw [hkd b, if_pos (by simp)])) hx3
      · cases hx2
    · cases hx1
end
end Go.X
/- Operations that write cells. -/
namespace Go.X
set_option linter.unusedVariables false
set_option linter.unusedSimpArgs false
section
variable {CR : Nat → Nat → Code → XCode → Prop}
variable {P : Program} {ok : Operand → XE → Bool} {ev : Operand → Value} {ρ : Rho} {T : Tr XV} {S : List XV} {H : Tr XO} {nx : Nat} {w : World}

theorem EffV.eff {lo : Nat} {s : Sem Value} {v : XV} {H' : Tr XO} {nx' : Nat} (h : EffV P CR lo ρ H nx w s v H' nx') : EffOk P CR lo ρ H nx w (do pure (.value (← s))) v H' nx' := by
  obtain ⟨x, w', ρ', h1, h2, h3⟩ := h
  exact ⟨.value x, w', ρ', by simp [h1], .inr ⟨x, rfl, h2⟩, h3⟩

theorem EffOk.of_run {lo : Nat} {s s' : Sem Next} {v : XV} {H' : Tr XO} {nx' : Nat} (h : EffOk P CR lo ρ H nx w s v H' nx') (e : s'.run P w = s.run P w) : EffOk P CR lo ρ H nx w s' v H' nx' := by
  obtain ⟨x, w', ρ', h1, h2⟩ := h
  exact ⟨x, w', ρ', e.trans h1, h2⟩

theorem store_sound (hh : HR CR ρ H nx w) (hE : ∀ x e, ok x e = true → VR ρ (e.ev T S) (ev x)) {o : Oper} {n : Nat} {a x : XE} {v : XV} {H' : Tr XO} {nx' : Nat} (h : chkF P ok o.op (.store n a x) = true) (hx : xeff T S H nx (.store n a x) = .ok v H' nx') {lo : Nat} (hlo : lo ≤ nx) :
    EffOk P CR lo ρ H nx w (execOp ev o) v H' nx' := by
  obtain ⟨dst, op, type, pos, after, guard⟩ := o
  simp only [chkF] at h
  split at h
  · rename_i t y z
    simp only [Bool.and_eq_true] at h
    obtain ⟨⟨h1, h2⟩, h3⟩ := h
    simp only [xeff] at hx
    split at hx
    · rename_i b off vs ha hvs
      obtain ⟨hc, hx⟩ := bif_ok hx
      rw [beq_iff] at hc
      split at hx
      · rename_i H2 hw
        cases hx
        have hp := hE _ _ h2
        rw [ha] at hp
        simp only [VR] at hp
        obtain ⟨L, hL, hp⟩ := hp
        obtain ⟨l, hl1, hl2, hl3⟩ := cells_sound hvs (hE _ _ h3)
        obtain ⟨w', t1, t2, t3⟩ := wr_sound (P := P) hh hw hL hl2 hl3 lo
        refine ⟨.skip, w', ρ, ?_, .inl ⟨rfl, rfl⟩, t2, t3, Nat.le_refl _⟩
        have hst := t1 ⟨L.blk, L.base + off, none⟩ (.inl rfl)
        have hsz : (ev z).cells.size = n := by rw [hl1]; simp [VRL.length hl2, hc]
        simp [execOp, Instr.storeAt, Instr.sureAddr, hp, storeVar, szIs_sound h1, hsz]
        simp [hl1, hst]
      · cases hx
    · cases hx
  · cases h

theorem copy_sound (hh : HR CR ρ H nx w) (hE : ∀ x e, ok x e = true → VR ρ (e.ev T S) (ev x)) {o : Oper} {sz : Nat} {a b : XE} {v : XV} {H' : Tr XO} {nx' : Nat} (h : chkF P ok o.op (.copy sz a b) = true) (hx : xeff T S H nx (.copy sz a b) = .ok v H' nx') {lo : Nat} (hlo : lo ≤ nx) :
    EffOk P CR lo ρ H nx w (execOp ev o) v H' nx' := by
  obtain ⟨dst, op, type, pos, after, guard⟩ := o
  simp only [chkF] at h
  split at h
  · rename_i args argTypes
    split at h
    · rename_i x y t hargs ht
      split at h
      · rename_i e hu
        obtain rfl : args = #[x, y] := by apply Array.ext'; simpa using hargs
        simp only [Bool.and_eq_true] at h
        obtain ⟨⟨h1, h2⟩, h3⟩ := h
        have hya := hE _ _ h3
        simp only [xeff] at hx
        split at hx
        · rename_i ha
          have hp := hE _ _ h2
          rw [ha] at hp
          simp only [VR] at hp
          split at hx
          · rename_i n hn
            split at hx
            · cases hx
            · cases hx
              have hno : ∃ l : List Value, (Builtin.firstCells sz 0 (ev y)).run P w = .ok ⟨l⟩ w := by
                have hs : srcCells H sz 0 (b.ev T S) = some [] ∨ ∃ s : Addr × Nat × Nat, ev y = .slice (some s.1) s.2.1 s.2.2 := by
                  rename_i hne
                  cases hb : b.ev T S <;> simp only [hb, lenOf, reduceCtorEq] at hn
                  · exact absurd hb (hne _ _)
                  · exact .inl rfl
                  · rw [hb] at hya; simp only [VR] at hya; obtain ⟨L, _, ad, cap, hy, _⟩ := hya; exact .inr ⟨(ad, _, cap), hy⟩
                rcases hs with hs | ⟨s, hs⟩
                · obtain ⟨l, q, _⟩ := srcCells_sound (P := P) hh hs hn (Nat.zero_le _) hya
                  exact ⟨l, q w rfl⟩
                · exact ⟨[], by rw [hs]; simp [Builtin.firstCells, loadCells, loadCellsFrom]⟩
              obtain ⟨l, hl⟩ := hno
              refine ⟨.value (goInt 0), w, ρ, ?_, .inr ⟨_, rfl, by simp only [VR]; rfl⟩, hh, Ext.refl _ _ _ _ _, Nat.le_refl _⟩
              simp [execOp, resolve, invoke, builtin, Builtin.copy_, ht, hp, run_und hu, lenOf_sound hn hya, szIs_sound h1, hl]
          · cases hx
        · rename_i d off n c z ha
          have hp := hE _ _ h2
          rw [ha] at hp
          simp only [VR] at hp
          obtain ⟨L, hL, ad, cap, hp, hS⟩ := hp
          split at hx
          · rename_i m hm
            obtain ⟨hz, hx⟩ := bif_ok hx
            rw [beq_iff] at hz
            subst hz
            split at hx
            · rename_i vs hvs
              split at hx
              · rename_i H2 hw
                cases hx
                obtain ⟨l, q1, q2, q3, q4⟩ := srcCells_sound (P := P) hh hvs hm (Nat.min_le_left _ _) hya
                obtain ⟨w', t1, t2, t3⟩ := wr_sound (P := P) hh hw hL q2 q3 lo
                have hst : (storeCells ad l).run P w = .ok () w' := by
                  refine t1 ad ?_
                  rcases Nat.eq_zero_or_pos n with h0 | h0
                  · right
                    subst h0
                    exact List.eq_nil_of_length_eq_zero (by rw [VRL.length q2, q4]; simp)
                  · exact .inl (slc_ptr hS h0)
                refine ⟨.value (goInt (Nat.min m n)), w', ρ, ?_, .inr ⟨_, rfl, by simp only [VR]; rfl⟩, t2, t3, Nat.le_refl _⟩
                simp [execOp, resolve, invoke, builtin, Builtin.copy_, ht, hp, run_und hu, lenOf_sound hm hya, szIs_sound h1, q1 w rfl, hst]
              · cases hx
            · cases hx
          · cases hx
        · cases hx
      · cases h
    · cases h
  · cases h

theorem clear_sound (hh : HR CR ρ H nx w) (hE : ∀ x e, ok x e = true → VR ρ (e.ev T S) (ev x)) {o : Oper} {z : List XV} {a : XE} {v : XV} {H' : Tr XO} {nx' : Nat} (h : chkF P ok o.op (.clear z a) = true) (hx : xeff T S H nx (.clear z a) = .ok v H' nx') {lo : Nat} (hlo : lo ≤ nx) :
    EffOk P CR lo ρ H nx w (execOp ev o) v H' nx' := by
  obtain ⟨dst, op, type, pos, after, guard⟩ := o
  simp only [chkF] at h
  split at h
  · rename_i args argTypes
    split at h
    · rename_i x t hargs ht
      split at h
      · rename_i e hu
        obtain rfl : args = #[x] := by apply Array.ext'; simpa using hargs
        simp only [Bool.and_eq_true] at h
        obtain ⟨⟨h1, h2⟩, h3⟩ := h
        have hp := hE _ _ h3
        have hun : VR ρ unit (.tuple #[]) := by simp only [unit, VR]; exact ⟨[], rfl, trivial⟩
        simp only [xeff] at hx
        split at hx
        · rename_i ha
          cases hx
          rw [ha] at hp
          simp only [VR] at hp
          refine ⟨.value (.tuple #[]), w, ρ, ?_, .inr ⟨_, rfl, hun⟩, hh, Ext.refl _ _ _ _ _, Nat.le_refl _⟩
          simp [execOp, resolve, invoke, builtin, Builtin.clear_, ht, hp, run_und hu]
        · rename_i b off n c sz ha
          rw [ha] at hp
          simp only [VR] at hp
          obtain ⟨L, hL, ad, cap, hp, hS⟩ := hp
          split at hx
          · cases hx
            refine ⟨.value (.tuple #[]), w, ρ, ?_, .inr ⟨_, rfl, hun⟩, hh, Ext.refl _ _ _ _ _, Nat.le_refl _⟩
            simp [execOp, resolve, invoke, builtin, Builtin.clear_, ht, hp, run_und hu]
          · rename_i hn
            obtain ⟨hz, hx⟩ := bif_ok hx
            rw [beq_iff] at hz
            split at hx
            · rename_i H2 hw
              cases hx
              obtain ⟨zv, z1, z2, z3⟩ := zcells_sound (ρ := ρ) h2 w
              have hlz := VRL.length z2
              have hvz : VRL ρ (repl z n) (Builtin.zeroCells zv.cells n).toList := by
                have := repl_vrl z2 n
                simpa [Builtin.zeroCells] using this
              obtain ⟨w', t1, t2, t3⟩ := wr_sound (P := P) hh hw hL hvz (repl_one z3 n) lo
              refine ⟨.value (.tuple #[]), w', ρ, ?_, .inr ⟨_, rfl, hun⟩, t2, t3, Nat.le_refl _⟩
              have hst := t1 ad (.inl (slc_ptr hS (Nat.pos_of_ne_zero (fun h => hn h))))
              cases n with
              | zero => exact absurd rfl hn
              | succ n => simp [execOp, resolve, invoke, builtin, Builtin.clear_, ht, hp, run_und hu, z1, hst]
            · cases hx
        · cases hx
      · cases h
    · cases h
  · cases h

theorem zcellsOk_sound {e : TypeId} {sz : Nat} (h : chkF.zcellsOk P e sz = true) : ∃ i z, P.info? e = some i ∧ i.zero = some z ∧ z.cells.size = sz ∧ i.bytes ≤ 1048576 := by
  unfold chkF.zcellsOk at h
  split at h
  · rename_i i hi
    split at h
    · rename_i z hz
      simp only [Bool.and_eq_true, beq_iff, ble_iff] at h
      exact ⟨i, z, hi, hz, h.1, h.2⟩
    · cases h
  · cases h

theorem cut_ge (w : World) (need old : Nat) (e : TypeId) : need ≤ grownCap w need old e := by
  simp only [grownCap, Question.cut]
  exact Nat.le_add_right _ _

theorem cut_le (w : World) (need old : Nat) (e : TypeId) (h : need < 32766) : grownCap w need old e ≤ 9223372036854775807 := by
  have hlt := Nat.mod_lt (w.tape w.drawn (.appendCap need old e)) (show 0 < 2 ^ 63 - need by omega)
  simp only [grownCap, Question.cut]
  omega

theorem append_sound (hh : HR CR ρ H nx w) (hE : ∀ x e, ok x e = true → VR ρ (e.ev T S) (ev x)) {o : Oper} {sz : Nat} {a b : XE} {v : XV} {H' : Tr XO} {nx' : Nat} (h : chkF P ok o.op (.append sz a b) = true) (hx : xeff T S H nx (.append sz a b) = .ok v H' nx') {lo : Nat} (hlo : lo ≤ nx) :
    EffOk P CR lo ρ H nx w (execOp ev o) v H' nx' := by
  obtain ⟨dst, op, type, pos, after, guard⟩ := o
  simp only [chkF] at h
  split at h
  · rename_i args argTypes
    split at h
    · rename_i x y t u hargs htys
      split at h
      · rename_i e ud hu hud
        obtain rfl : args = #[x, y] := by apply Array.ext'; simpa using hargs
        obtain rfl : argTypes = #[t, u] := by apply Array.ext'; simpa using htys
        simp only [Bool.and_eq_true] at h
        obtain ⟨⟨⟨⟨h1, h2⟩, h3⟩, h4⟩, h5⟩ := h
        have hd : plainD ud = true := by
          cases ud <;> simp_all [plainD]
        obtain ⟨i, z, hi, hz, hzs, hib⟩ := zcellsOk_sound h2
        have his : i.size = sz := by
          obtain ⟨i', hi', h⟩ := info_of_sz h1
          rw [hi] at hi'; cases hi'; exact h
        simp only [xeff] at hx
        split at hx
        · rename_i n hn
          split at hx
          · rename_i vs hvs
            have hy := hE _ _ h5
            obtain ⟨l, q1, q2, q3, q4⟩ := srcCells_sound (P := P) hh hvs hn (Nat.le_refl _) hy
            have hA : Appends P w sz n (ev x) l (fun a w' => (Builtin.append_ #[t, u] type #[ev x, ev y]).run P w = .ok a w') := by
              constructor
              · intro base sLen sCap w' he hr hs
                rw [he]
                subst his
                exact app_room hu hud hd hi (lenOf_sound hn hy w) (q1 w rfl) hr hs
              · intro base sLen sCap olds he hr hsm ho
                rw [he] at ho ⊢
                subst his
                refine ⟨_, _, _, ⟨cut_ge _ _ _ _, cut_le _ _ _ _ hsm⟩, ?_, app_grow hu hud hd hi hz (lenOf_sound hn hy w) (q1 _ rfl) ho hr hsm hib⟩
                simp [Builtin.zeroCells, hzs]
            refine (EffV.eff (s := Builtin.append_ #[t, u] type #[ev x, ev y]) (xappend_sound hh hx (hE _ _ h4) q2 q3 q4 hA hlo)).of_run ?_
            simp [execOp, resolve, invoke, builtin]
          · cases hx
        · cases hx
      · cases h
    · cases h
  · cases h

theorem appendz_sound (hh : HR CR ρ H nx w) (hE : ∀ x e, ok x e = true → VR ρ (e.ev T S) (ev x)) {o : Oper} {z : List XV} {a b : XE} {v : XV} {H' : Tr XO} {nx' : Nat} (h : chkF P ok o.op (.appendz z a b) = true) (hx : xeff T S H nx (.appendz z a b) = .ok v H' nx') {lo : Nat} (hlo : lo ≤ nx) :
    EffOk P CR lo ρ H nx w (execOp ev o) v H' nx' := by
  obtain ⟨dst, op, type, pos, after, guard⟩ := o
  simp only [chkF] at h
  split at h
  · rename_i args argTypes
    split at h
    · rename_i x y t u hargs htys
      split at h
      · rename_i e k0 hu hud
        obtain rfl : args = #[x, y] := by apply Array.ext'; simpa using hargs
        obtain rfl : argTypes = #[t, u] := by apply Array.ext'; simpa using htys
        simp only [Bool.and_eq_true] at h
        obtain ⟨⟨⟨⟨h1, h2⟩, h3⟩, h4⟩, h5⟩ := h
        obtain ⟨i, zv, hi, hz, hzs, hib⟩ := zcellsOk_sound h3
        have his : i.size = z.length := by
          obtain ⟨i', hi', h⟩ := info_of_sz h1
          rw [hi] at hi'; cases hi'; exact h
        obtain ⟨zv', z1, z2, z3⟩ := zcells_sound (ρ := ρ) h2 w
        have hzv : zv' = zv := by
          simp [zeroValue, typeInfo, hi, hz] at z1
          exact z1.symm
        subst hzv
        simp only [xeff] at hx
        split at hx
        · rename_i n hn
          obtain ⟨hnt, hx⟩ := bif_ok hx
          rw [blt_iff] at hnt
          have hnt' : n < 16383 := hnt
          obtain ⟨k1, hk1⟩ := asNat_sound hn (hE _ _ h5)
          have hvz : VRL ρ (repl z n) (Builtin.zeroCells zv'.cells n).toList := by
            have := repl_vrl z2 n
            simpa [Builtin.zeroCells] using this
          have hrl : (repl z n).length = n * z.length := by
            rw [← VRL.length hvz]; simp [Builtin.zeroCells, hzs]
          have hA : Appends P w z.length n (ev x) (Builtin.zeroCells zv'.cells n).toList (fun a w' => (Builtin.append_ #[t, u] type #[ev x, ev y]).run P w = .ok a w') := by
            have hzi : zv'.cells.size = i.size := by omega
            · constructor
              · intro base sLen sCap w' he hr hs
                rw [he, hk1]
                rw [← his] at hs
                exact appz_room hu hud hi z1 hzi hnt' hib hr hs
              · intro base sLen sCap olds he hr hsm ho
                rw [he] at ho
                rw [he, hk1]
                rw [← his] at ho ⊢
                refine ⟨_, _, _, ⟨cut_ge _ _ _ _, cut_le _ _ _ _ hsm⟩, ?_, appz_grow hu hud hi hz hzi hnt' ho hr hsm hib⟩
                simp [Builtin.zeroCells, hzs, his]
          refine (EffV.eff (s := Builtin.append_ #[t, u] type #[ev x, ev y]) (xappend_sound hh hx (hE _ _ h4) hvz (repl_one z3 n) hrl hA hlo)).of_run ?_
          simp [execOp, resolve, invoke, builtin]
        · cases hx
      · cases h
    · cases h
  · cases h
end
end Go.X
/- Operations on maps; the bytes of a string. -/
namespace Go.X
set_option linter.unusedVariables false
set_option linter.unusedSimpArgs false
section
variable {CR : Nat → Nat → Code → XCode → Prop}
variable {P : Program} {ok : Operand → XE → Bool} {ev : Operand → Value} {ρ : Rho} {T : Tr XV} {S : List XV} {H : Tr XO} {nx : Nat} {w : World}

theorem sameV_eq {a b : XV} (h : sameV a b = true) : a = b := by
  cases a <;> cases b <;> simp only [sameV, Bool.and_eq_true, beq_iff, Bool.false_eq_true, beq_iff_eq, keq?, feq?, decide_eq_true_eq, ieq_eq] at h <;> simp_all

theorem sameVs_eq : ∀ {x y : List XV}, sameVs x y = true → x = y
  | [], [], _ => rfl
  | a :: x, b :: y, h => by
    simp only [sameVs, Bool.and_eq_true] at h
    rw [sameV_eq h.1, sameVs_eq h.2]
  | [], _ :: _, h => by simp [sameVs] at h
  | _ :: _, [], h => by simp [sameVs] at h

theorem sameW_eq {a b : XV} (h : sameW a b = true) : a = b := by
  unfold sameW at h
  split at h
  · rw [sameVs_eq h]
  · rw [sameVs_eq h]
  · exact sameV_eq h

theorem run_setObj' {r : Nat} {o o' : Obj} (h : w.heap[r]? = some o) (hn : ∀ c e f, o ≠ .cells c e f) : (setObj r o').run P w = .ok () { w with heap := w.heap.setIfInBounds r o' } := by
  cases o <;> first | (simp [setObj, Sem.run, h]; done) | (exact absurd rfl (hn _ _ _))

/-- An object that is not a row of cells is changed. -/
theorem obj_write (hh : HR CR ρ H nx w) {b : Nat} {o' : XO} {L : Loc} {obj : Obj} (hb : wrt (hget H b)) (hp : parOf (hget H b) = []) (hL : ρ b = some L) (ho : OR CR ρ o' L obj) (hlt : L.blk < w.heap.size) (lo : Nat) :
    HR CR ρ (Tr.set o' H b) nx { w with heap := w.heap.setIfInBounds L.blk obj } ∧ Ext lo ρ H w ρ (Tr.set o' H b) nx { w with heap := w.heap.setIfInBounds L.blk obj } := by
  have hbt : b < trMax := Nat.lt_of_lt_of_le (hh.lt (wrt_alive hb)) hh.lim
  have hH : ∀ x, hget (Tr.set o' H b) x = if x ∈ parOf (hget H b) then .dead else if x = b then o' else hget H x := by
    intro x
    have hq : ¬ x ∈ parOf (hget H b) := by rw [hp]; simp
    rw [if_neg hq, hget_set hh.full hbt]
  have hwo : ∀ B, B ≠ L.blk → (w.heap.setIfInBounds L.blk obj)[B]? = w.heap[B]? := fun B hB => by
    rw [Array.getElem?_setIfInBounds, if_neg (fun e => hB e.symm)]
  exact ⟨hh.write hb hL (Tr.full_set _ _ _ _ hh.full) hH (by simp [hlt]) hwo ho, Ext.write hb hL hH (by simp) hwo rfl rfl⟩

theorem HR.objAt (hh : HR CR ρ H nx w) {b : Nat} (hb : hget H b ≠ .dead) {L : Loc} (hL : ρ b = some L) : ∃ o, w.heap[L.blk]? = some o ∧ OR CR ρ (hget H b) L o ∧ L.blk < w.heap.size := by
  obtain ⟨L', obj, h1, h2, h3⟩ := hh.objs b hb
  rw [hL] at h1; cases h1
  exact ⟨obj, h2, h3, (Array.getElem?_eq_some_iff.1 h2).1⟩

theorem ER.get : ∀ {es : List (XV × XV × Nat)} {res : List MapEntry}, ER ρ es res → ∀ {i : Nat} {e}, es[i]? = some e → ∃ r, res[i]? = some r ∧ VR ρ e.1 r.key ∧ VR ρ e.2.1 r.val ∧ r.born = e.2.2
  | [], [], _, i, e, h => by simp at h
  | (k, v, n) :: es, r :: res, ⟨h1, h2, h3, h4⟩, 0, e, h => by simp at h; subst h; exact ⟨r, rfl, h1, h2, h3⟩
  | (k, v, n) :: es, r :: res, ⟨h1, h2, h3, h4⟩, i + 1, e, h => by simpa using ER.get h4 (by simpa using h)
  | [], _ :: _, h, _, _, _ => h.elim
  | _ :: _, [], h, _, _, _ => h.elim

theorem ER.put {k v : XV} {key val : Value} (hk : VR ρ k key) (hv : VR ρ v val) : ∀ {es : List (XV × XV × Nat)} {res : List MapEntry}, ER ρ es res → ∀ i, ER ρ (mput k v es i) (res.modify i fun e => { e with key, val := val })
  | [], [], _, i => by cases i <;> trivial
  | (a, u, n) :: es, r :: res, ⟨h1, h2, h3, h4⟩, 0 => ⟨hk, hv, h3, h4⟩
  | (a, u, n) :: es, r :: res, ⟨h1, h2, h3, h4⟩, i + 1 => by
    simp only [mput, List.modify_succ_cons]
    exact ⟨h1, h2, h3, ER.put hk hv h4 i⟩
  | [], _ :: _, h, _ => h.elim
  | _ :: _, [], h, _ => h.elim

theorem ER.push {k v : XV} {e : MapEntry} (hk : VR ρ k e.key) (hv : VR ρ v e.val) : ∀ {es : List (XV × XV × Nat)} {res : List MapEntry}, ER ρ es res → ER ρ (es ++ [(k, v, e.born)]) (res ++ [e])
  | [], [], _ => ⟨hk, hv, rfl, trivial⟩
  | (a, u, n) :: es, r :: res, ⟨h1, h2, h3, h4⟩ => ⟨h1, h2, h3, ER.push hk hv h4⟩
  | [], _ :: _, h => h.elim
  | _ :: _, [], h => h.elim

theorem ER.del : ∀ {es : List (XV × XV × Nat)} {res : List MapEntry}, ER ρ es res → ∀ i, ER ρ (mdel es i) (res.eraseIdx i)
  | [], [], _, i => by cases i <;> trivial
  | (a, u, n) :: es, r :: res, ⟨h1, h2, h3, h4⟩, 0 => h4
  | (a, u, n) :: es, r :: res, ⟨h1, h2, h3, h4⟩, i + 1 => by
    simp only [mdel, List.eraseIdx_cons_succ]
    exact ⟨h1, h2, h3, ER.del h4 i⟩
  | [], _ :: _, h, _ => h.elim
  | _ :: _, [], h, _ => h.elim

/-- An entry set. -/
theorem mapUpdate_sound (hh : HR CR ρ H nx w) {t kt et : TypeId} (ht : P.underlying t = some (.map kt et)) {xt : XT} (hkt : keyT P kt xt = true) {b : Nat} {es : List (XV × XV × Nat)} {clock : Nat} (hm : hget H b = .mp es clock) {L : Loc} (hL : ρ b = some L)
    {k u : XV} {x y : Value} (hk : VR ρ k x) (hu : VR ρ u y) {v : XV} {H' : Tr XO} {nx' : Nat}
    (hx : (match mlook xt k es with
        | some (some (i, _)) => (match es[i]? with
          | some e => bif sameW k e.1 then XR.ok unit (Tr.set (.mp (mput k u es i) clock) H b) nx else .no
          | none => .no)
        | some none => .ok unit (Tr.set (.mp (es ++ [(k, u, clock)]) (Nat.add clock 1)) H b) nx
        | none => .no) = .ok v H' nx') {lo : Nat} (hlo : lo ≤ nx) :
    ∃ w', (Instr.mapUpdate t (.map (some L.blk)) x y).run P w = .ok () w' ∧ v = unit ∧ nx' = nx ∧ HR CR ρ H' nx w' ∧ Ext lo ρ H w ρ H' nx w' := by
  obtain ⟨obj, ho, hor, hlt⟩ := hh.objAt (b := b) (by rw [hm]; simp) hL
  rw [hm] at hor
  cases obj <;> simp only [OR] at hor
  rename_i res rclock
  obtain ⟨rfl, her⟩ := hor
  have hg := run_getObj (P := P) ho (by intros; simp)
  have hwb : wrt (hget H b) := by rw [hm]; trivial
  have hpb : parOf (hget H b) = [] := by rw [hm]; rfl
  have hcell : ∀ c e f, Obj.map res rclock ≠ .cells c e f := by intros; simp
  split at hx
  · rename_i i v0 hlk
    split at hx
    · rename_i e hei
      obtain ⟨hsm, hx⟩ := bif_ok hx
      cases hx
      have hsame := sameW_eq hsm
      obtain ⟨q', f1, f2, f3⟩ := find_sound (P := P) hkt hk hlk her w
      have hck := checkKey_sound (P := P) (x := x) hkt f3 hk false w
      cases q' with
      | none => exact f2.elim
      | some q' =>
        obtain ⟨j, z⟩ := q'
        obtain ⟨rfl, _⟩ := f2
        obtain ⟨r, r1, r2, _⟩ := her.get hei
        have hres : res[i]? = some r := by rw [← Array.getElem?_toList]; exact r1
        -- whichever key stays, X knows it
        have hst : ∃ key w1, (Instr.keyThatStays (((res[i]?).map (·.key)).getD x) x).run P w = .ok key w1 ∧ VR ρ k key ∧ w1.heap = w.heap ∧ w1.os = w.os ∧ w1.output = w.output := by
          rw [hres]
          simp only [Option.map_some, Option.getD_some, Instr.keyThatStays]
          by_cases hsb : Instr.sameBits 10000 r.key x = true
          · rw [if_pos hsb]; exact ⟨x, w, rfl, hk, rfl, rfl, rfl⟩
          · rw [if_neg hsb]
            have hq : (Question.extern "map.whichKeyStays" 2).forced = false := rfl
            simp only [Sem.run_bind, run_choose, hq, Bool.false_eq_true, if_false, Result.andThen_ok, Sem.run_pure]
            by_cases h0 : (Question.extern "map.whichKeyStays" 2).cut (w.tape w.drawn (Question.extern "map.whichKeyStays" 2)) = 0
            · rw [if_pos h0]; exact ⟨x, _, rfl, hk, rfl, rfl, rfl⟩
            · rw [if_neg h0]; exact ⟨r.key, _, rfl, by rw [hsame]; exact r2, rfl, rfl, rfl⟩
        obtain ⟨key, w1, k1, k2, k3, k4, k5⟩ := hst
        have hh1 := hh.world k3
        have her2 : ER ρ (mput k u es i) (res.modify i fun e => { e with key, val := y }).toList := by
          rw [Array.toList_modify]; exact ER.put k2 hu her i
        obtain ⟨g1, g2⟩ := obj_write (o' := .mp (mput k u es i) rclock) (obj := .map (res.modify i fun e => { e with key, val := y }) rclock) hh1 hwb hpb hL (show OR CR ρ (.mp _ _) L (.map _ _) from ⟨rfl, her2⟩) (by rw [k3]; exact hlt) lo
        refine ⟨_, ?_, rfl, rfl, g1, g2.world0 k3.symm k4.symm k5.symm⟩
        have hso := run_setObj' (P := P) (w := w1) (r := L.blk) (o' := .map (res.modify i fun e => { e with key, val := y }) rclock) (by rw [k3]; exact ho) hcell
        simp only [Instr.mapUpdate, Sem.run_bind, run_und ht, Result.andThen_ok, hg, hck, f1, k1, hso]
    · cases hx
  · rename_i hlk
    cases hx
    obtain ⟨q', f1, f2, f3⟩ := find_sound (P := P) hkt hk hlk her w
    have hck := checkKey_sound (P := P) (x := x) hkt f3 hk false w
    cases q' with
    | some q' => exact f2.elim
    | none =>
      have her2 : ER ρ (es ++ [(k, u, rclock)]) (res.push { key := x, val := y, born := rclock }).toList := by
        rw [Array.toList_push]; exact ER.push (e := { key := x, val := y, born := rclock }) hk hu her
      obtain ⟨g1, g2⟩ := obj_write (o' := .mp (es ++ [(k, u, rclock)]) (Nat.add rclock 1)) (obj := .map (res.push { key := x, val := y, born := rclock }) (rclock + 1)) hh hwb hpb hL (show OR CR ρ (.mp _ _) L (.map _ _) from ⟨rfl, her2⟩) hlt lo
      refine ⟨_, ?_, rfl, rfl, g1, g2⟩
      have hso := run_setObj' (P := P) (w := w) (r := L.blk) (o' := .map (res.push { key := x, val := y, born := rclock }) (rclock + 1)) ho hcell
      simp only [Instr.mapUpdate, Sem.run_bind, run_und ht, Result.andThen_ok, hg, hck, f1, hso]
  · cases hx
end
end Go.X
/- All operations of the chain that are no calls. -/
namespace Go.X
set_option linter.unusedVariables false
set_option linter.unusedSimpArgs false
section
variable {CR : Nat → Nat → Code → XCode → Prop}
variable {P : Program} {ok : Operand → XE → Bool} {ev : Operand → Value} {ρ : Rho} {T : Tr XV} {S : List XV} {H : Tr XO} {nx : Nat} {w : World}

theorem mapup_sound (hh : HR CR ρ H nx w) (hE : ∀ x e, ok x e = true → VR ρ (e.ev T S) (ev x)) {o : Oper} {xt : XT} {m k u : XE} {v : XV} {H' : Tr XO} {nx' : Nat} (h : chkF P ok o.op (.mapup xt m k u) = true) (hx : xeff T S H nx (.mapup xt m k u) = .ok v H' nx') {lo : Nat} (hlo : lo ≤ nx) :
    EffOk P CR lo ρ H nx w (execOp ev o) v H' nx' := by
  obtain ⟨dst, op, type, pos, after, guard⟩ := o
  have main : ∀ t x y z kt et, P.underlying t = some (.map kt et) → keyT P kt xt = true → ok x m = true → ok y k = true → ok z u = true → ∃ w', (Instr.mapUpdate t (ev x) (ev y) (ev z)).run P w = .ok () w' ∧ v = unit ∧ nx' = nx ∧ HR CR ρ H' nx w' ∧ Ext lo ρ H w ρ H' nx w' := by
    intro t x y z kt et ht hkt h1 h2 h3
    simp only [xeff] at hx
    split at hx
    · rename_i b hb
      have hp := hE _ _ h1
      rw [hb] at hp
      simp only [VR] at hp
      obtain ⟨L, hL, hp⟩ := hp
      split at hx
      · rename_i es clock hm
        rw [hp]
        exact mapUpdate_sound hh ht hkt hm hL (hE _ _ h2) (hE _ _ h3) hx hlo
      · cases hx
    · cases hx
  simp only [chkF] at h
  split at h
  · rename_i t x y z
    split at h
    · rename_i kt et ht
      simp only [Bool.and_eq_true] at h
      obtain ⟨⟨⟨h1, h2⟩, h3⟩, h4⟩ := h
      obtain ⟨w', g1, rfl, rfl, g2, g3⟩ := main t x y z kt et ht h1 h2 h3 h4
      exact ⟨.skip, w', ρ, by simp [execOp, g1], .inl ⟨rfl, rfl⟩, g2, g3, Nat.le_refl _⟩
    · cases h
  · rename_i t x y z
    split at h
    · rename_i kt et ht
      simp only [Bool.and_eq_true] at h
      obtain ⟨⟨⟨h1, h2⟩, h3⟩, h4⟩ := h
      obtain ⟨w', g1, rfl, rfl, g2, g3⟩ := main t x y z kt et ht h1 h2 h3 h4
      exact ⟨.skip, w', ρ, by simp [execOp, g1], .inl ⟨rfl, rfl⟩, g2, g3, Nat.le_refl _⟩
    · cases h
  · cases h

theorem delete_sound (hh : HR CR ρ H nx w) (hE : ∀ x e, ok x e = true → VR ρ (e.ev T S) (ev x)) {o : Oper} {xt : XT} {m k : XE} {v : XV} {H' : Tr XO} {nx' : Nat} (h : chkF P ok o.op (.delete xt m k) = true) (hx : xeff T S H nx (.delete xt m k) = .ok v H' nx') {lo : Nat} (hlo : lo ≤ nx) :
    EffOk P CR lo ρ H nx w (execOp ev o) v H' nx' := by
  obtain ⟨dst, op, type, pos, after, guard⟩ := o
  have hun : VR ρ unit (.tuple #[]) := by simp only [unit, VR]; exact ⟨[], rfl, trivial⟩
  simp only [chkF] at h
  split at h
  · rename_i args argTypes
    split at h
    · rename_i x y t hargs hty
      split at h
      · rename_i kt et ht
        obtain rfl : args = #[x, y] := by apply Array.ext'; simpa using hargs
        simp only [Bool.and_eq_true] at h
        obtain ⟨⟨hkt, h1⟩, h2⟩ := h
        simp only [xeff] at hx
        split at hx
        · rename_i b hb
          have hp := hE _ _ h1
          rw [hb] at hp
          simp only [VR] at hp
          obtain ⟨L, hL, hp⟩ := hp
          split at hx
          · rename_i es clock hm
            have hk := hE _ _ h2
            obtain ⟨obj, ho, hor, hlt⟩ := hh.objAt (b := b) (by rw [hm]; simp) hL
            rw [hm] at hor
            cases obj <;> simp only [OR] at hor
            rename_i res rclock
            obtain ⟨rfl, her⟩ := hor
            have hg := run_getObj (P := P) ho (by intros; simp)
            have hwb : wrt (hget H b) := by rw [hm]; trivial
            have hpb : parOf (hget H b) = [] := by rw [hm]; rfl
            have hcell : ∀ c e f, Obj.map res rclock ≠ .cells c e f := by intros; simp
            split at hx
            · rename_i i v0 hlk
              cases hx
              obtain ⟨q', f1, f2, f3⟩ := find_sound (P := P) hkt hk hlk her w
              have hck := checkKey_sound (P := P) hkt f3 hk res.isEmpty w
              cases q' with
              | none => exact f2.elim
              | some q' =>
                obtain ⟨j, z⟩ := q'
                obtain ⟨rfl, _⟩ := f2
                have her2 : ER ρ (mdel es i) (res.eraseIdxIfInBounds i).toList := by
                  rw [Array.toList_eraseIdxIfInBounds]; exact her.del i
                obtain ⟨g1, g2⟩ := obj_write (o' := .mp (mdel es i) rclock) (obj := .map (res.eraseIdxIfInBounds i) rclock) hh hwb hpb hL (show OR CR ρ (.mp _ _) L (.map _ _) from ⟨rfl, her2⟩) hlt lo
                refine ⟨.value (.tuple #[]), _, ρ, ?_, .inr ⟨_, rfl, hun⟩, g1, g2, Nat.le_refl _⟩
                have hso := run_setObj' (P := P) (w := w) (r := L.blk) (o' := .map (res.eraseIdxIfInBounds i) rclock) ho hcell
                simp [execOp, resolve, invoke, builtin, Builtin.delete_, hty, hp, run_und ht, hg, hck, f1, hso]
            · rename_i hlk
              cases hx
              obtain ⟨q', f1, f2, f3⟩ := find_sound (P := P) hkt hk hlk her w
              have hck := checkKey_sound (P := P) hkt f3 hk res.isEmpty w
              cases q' with
              | some q' => exact f2.elim
              | none =>
                have hso := run_setObj' (P := P) (w := w) (r := L.blk) (o' := .map res rclock) ho hcell
                have hw : ({ w with heap := w.heap.setIfInBounds L.blk (.map res rclock) } : World) = w := by
                  have : w.heap.setIfInBounds L.blk (.map res rclock) = w.heap := by
                    apply Array.ext_getElem?
                    intro B
                    rw [Array.getElem?_setIfInBounds]
                    by_cases e : L.blk = B
                    · subst e; rw [if_pos rfl, if_pos hlt, ho]
                    · rw [if_neg e]
                  rw [this]
                rw [hw] at hso
                refine ⟨.value (.tuple #[]), w, ρ, ?_, .inr ⟨_, rfl, hun⟩, hh, Ext.refl _ _ _ _ _, Nat.le_refl _⟩
                simp [execOp, resolve, invoke, builtin, Builtin.delete_, hty, hp, run_und ht, hg, hck, f1, hso]
            · cases hx
          · cases hx
        · cases hx
      · cases h
    · cases h
  · cases h

theorem new_eff {lo : Nat} (hh : HR CR ρ H nx w) {o : XO} {f : Nat → XV} {v : XV} {H' : Tr XO} {nx' : Nat} (hx : newObj o (f nx) H nx = .ok v H' nx') {s : Sem Next} (hn : NewOk P CR ρ s o f w) (hlo : lo ≤ nx) : EffOk P CR lo ρ H nx w s v H' nx' := by
  obtain ⟨hnx, rfl, rfl, rfl⟩ := newObj_ok hx
  obtain ⟨obj, cap, x, h1, h2⟩ := hn
  have hdead : hget H nx = .dead := hh.fresh nx (Nat.le_refl _)
  have hnone : ρ nx = none := hh.nul nx (Nat.le_refl _)
  obtain ⟨h3, h4⟩ := h2 nx (ρ.put nx ⟨w.heap.size, 0, cap⟩) (Rho.le_put hnone) (by simp [Rho.put])
  exact ⟨_, _, _, h1, .inr ⟨x, rfl, h4⟩, hh.new hdead hnone (by omega) (by omega) (by omega) rfl rfl h3, Ext.new hnone hlo (by omega) rfl rfl rfl rfl, by omega⟩

theorem range_sound (hh : HR CR ρ H nx w) (hE : ∀ x e, ok x e = true → VR ρ (e.ev T S) (ev x)) {o : Oper} {m : XE} {v : XV} {H' : Tr XO} {nx' : Nat} (h : chkF P ok o.op (.range m) = true) (hx : xeff T S H nx (.range m) = .ok v H' nx') {lo : Nat} (hlo : lo ≤ nx) :
    EffOk P CR lo ρ H nx w (execOp ev o) v H' nx' := by
  obtain ⟨dst, op, type, pos, after, guard⟩ := o
  simp only [chkF] at h
  split at h
  · rename_i t x
    split at h
    · rename_i kt et ht
      have hp := hE _ _ h
      simp only [xeff] at hx
      split at hx
      · rename_i hm
        rw [hm] at hp
        simp only [VR] at hp
        refine new_eff (f := fun i => .ptr i 0) hh hx ⟨.mapIter none 0 #[] 0, 0, .pointer (some ⟨w.heap.size, 0, none⟩), ?_, fun i ρ' _ hi => ⟨?_, ?_⟩⟩ hlo
        · simp [execOp, Instr.range, run_und ht, hp]
        · simp [OR]
        · simp only [VR]; exact ⟨_, hi, rfl⟩
      · rename_i b hm
        rw [hm] at hp
        simp only [VR] at hp
        obtain ⟨L, hL, hp⟩ := hp
        split at hx
        · rename_i es clock hb
          obtain ⟨res, h1, h2⟩ := hh.map hb hL
          have hg := run_getObj (P := P) h1 (by intros; simp)
          refine new_eff (f := fun i => .ptr i 0) hh hx ⟨.mapIter (some L.blk) clock #[] clock, 0, .pointer (some ⟨w.heap.size, 0, none⟩), ?_, fun i ρ' hle hi => ⟨?_, ?_⟩⟩ hlo
          · simp [execOp, Instr.range, run_und ht, hp, hg]
          · show OR CR ρ' (.iter (some b) clock [] clock) _ (.mapIter (some L.blk) clock #[] clock)
            exact ⟨rfl, rfl, rfl, rfl, L, hle _ _ hL, rfl⟩
          · simp only [VR]; exact ⟨_, hi, rfl⟩
        · cases hx
      · cases hx
    · cases h
  · cases h

theorem filter_er (seen : List Nat) : ∀ {es : List (XV × XV × Nat)} {res : List MapEntry}, ER ρ es res → ER ρ (es.filter fun e => !seen.contains e.2.2) (res.filter fun e => !seen.contains e.born)
  | [], [], _ => trivial
  | (a, u, n) :: es, r :: res, ⟨h1, h2, h3, h4⟩ => by
    subst h3
    simp only [List.filter_cons]
    split
    · exact ⟨h1, h2, rfl, filter_er seen h4⟩
    · exact filter_er seen h4
  | [], _ :: _, h => h.elim
  | _ :: _, [], h => h.elim

theorem er_born {p : Nat → Bool} : ∀ {es : List (XV × XV × Nat)} {res : List MapEntry}, ER ρ es res → res.all (fun e => p e.born) = es.all (fun e => p e.2.2)
  | [], [], _ => rfl
  | (a, u, n) :: es, r :: res, ⟨h1, h2, h3, h4⟩ => by
    subst h3
    simp only [List.all_cons, er_born h4]
  | [], _ :: _, h => h.elim
  | _ :: _, [], h => h.elim

theorem next_sound (hh : HR CR ρ H nx w) (hE : ∀ x e, ok x e = true → VR ρ (e.ev T S) (ev x)) {o : Oper} {it : XE} {v : XV} {H' : Tr XO} {nx' : Nat} (h : chkF P ok o.op (.next it) = true) (hx : xeff T S H nx (.next it) = .ok v H' nx') {lo : Nat} (hlo : lo ≤ nx) :
    EffOk P CR lo ρ H nx w (execOp ev o) v H' nx' := by
  obtain ⟨dst, op, type, pos, after, guard⟩ := o
  simp only [chkF] at h
  split at h
  · rename_i x
    have hp := hE _ _ h
    have hov : VR ρ (.tup [.bool false]) (.tuple #[.bool false]) := by simp only [VR]; exact ⟨[.bool false], rfl, rfl, trivial⟩
    simp only [xeff] at hx
    split at hx
    · rename_i r hr
      rw [hr] at hp
      simp only [VR] at hp
      obtain ⟨L, hL, hp⟩ := hp
      split at hx
      · rename_i since seen last hb
        cases hx
        obtain ⟨obj, ho, hor, hlt⟩ := hh.objAt (b := r) (by rw [hb]; simp) hL
        rw [hb] at hor
        cases obj <;> simp only [OR] at hor
        obtain ⟨h0, _, _, _, rfl⟩ := hor
        have hg := run_getObj (P := P) ho (by intros; simp)
        refine ⟨_, w, ρ, ?_, .inr ⟨_, rfl, hov⟩, hh, Ext.refl _ _ _ _ _, Nat.le_refl _⟩
        simp [execOp, Instr.next, hp, h0, hg]
      · rename_i m since seen last hb
        split at hx
        · rename_i es clock hm
          obtain ⟨hc, hy⟩ := bif_ok hx
          clear hx
          simp only [Bool.and_eq_true, beq_iff] at hc
          obtain ⟨⟨rfl, rfl⟩, hall⟩ := hc
          obtain ⟨obj, ho, hor, hlt⟩ := hh.objAt (b := r) (by rw [hb]; simp) hL
          rw [hb] at hor
          cases obj <;> simp only [OR] at hor
          rename_i rm rsince rseen rlast
          obtain ⟨h0, rfl, rfl, rfl, L2, hL2, rfl⟩ := hor
          have hg := run_getObj (P := P) ho (by intros; simp)
          obtain ⟨res, h1, her⟩ := hh.map hm hL2
          have hg2 := run_getObj (P := P) h1 (by intros; simp)
          have hnot : (!rseen.isEmpty && !res.isEmpty && res.all (fun e => decide (e.born ≥ clock))) = false := by
            cases hre : res.toList with
            | nil =>
              have : res = #[] := by apply Array.ext'; simpa using hre
              subst this; simp
            | cons e l =>
              have hb2 := er_born (p := fun n => Nat.blt n clock) her
              rw [hall, hre] at hb2
              simp only [List.all_cons, Bool.and_eq_true, blt_iff] at hb2
              have : res.all (fun e => decide (e.born ≥ clock)) = false := by
                rw [← Array.all_toList, hre, List.all_cons]
                have : decide (e.born ≥ clock) = false := by simp; omega
                rw [this]; rfl
              rw [this]; simp
          have hfl := filter_er rseen.toList her
          have hleft : (res.filter fun e => !rseen.contains e.born).toList = res.toList.filter fun e => !rseen.toList.contains e.born := by
            rw [Array.toList_filter]
            congr 1
            funext e
            simp
          have hq : (Question.mapNext 1).forced = true := rfl
          have hbo : ∀ e ∈ res.toList, e.born < clock := by
            have hb2 := er_born (p := fun n => Nat.blt n clock) her
            rw [hall, List.all_eq_true] at hb2
            intro e he
            have := hb2 e he
            rwa [blt_iff] at this
          split at hy
          · rename_i hf
            cases hy
            rw [hf] at hfl
            have hnil : res.toList.filter (fun e => !rseen.toList.contains e.born) = [] := by
              cases hq : res.toList.filter (fun e => !rseen.toList.contains e.born) with
              | nil => rfl
              | cons _ _ => rw [hq] at hfl; exact hfl.elim
            have hL0 : (res.filter fun e => !rseen.contains e.born) = #[] := by apply Array.ext'; rw [hleft, hnil]
            refine ⟨_, w, ρ, ?_, .inr ⟨_, rfl, hov⟩, hh, Ext.refl _ _ _ _ _, Nat.le_refl _⟩
            simp only [execOp, Instr.next, hp, h0, Nat.add_zero, Sem.run_bind, hg, Result.andThen_ok, hg2, hnot, hL0]
            simp [hq]
          · rename_i e hf
            cases hy
            rw [hf] at hfl
            obtain ⟨ek, ev', en⟩ := e
            have hone : ∃ e', res.toList.filter (fun e => !rseen.toList.contains e.born) = [e'] ∧ VR ρ ek e'.key ∧ VR ρ ev' e'.val ∧ e'.born = en := by
              cases hq : res.toList.filter (fun e => !rseen.toList.contains e.born) with
              | nil => rw [hq] at hfl; exact hfl.elim
              | cons a l =>
                rw [hq] at hfl
                obtain ⟨a1, a2, a3, a4⟩ := hfl
                cases l with
                | nil => exact ⟨a, rfl, a1, a2, a3⟩
                | cons _ _ => exact a4.elim
            obtain ⟨e', q1, q2, q3, rfl⟩ := hone
            have hL1 : (res.filter fun e => !rseen.contains e.born) = #[e'] := by apply Array.ext'; rw [hleft, q1]
            have hborn : e'.born < clock := hbo e' (by
              have : e' ∈ res.toList.filter (fun e => !rseen.toList.contains e.born) := by rw [q1]; simp
              exact (List.mem_filter.1 this).1)
            have hwb : wrt (hget H r) := by rw [hb]; trivial
            have hpb : parOf (hget H r) = [] := by rw [hb]; rfl
            obtain ⟨g1, g2⟩ := obj_write (o' := .iter (some m) clock (rseen.toList ++ [e'.born]) clock) (obj := .mapIter (some L2.blk) clock (rseen.push e'.born) clock) hh hwb hpb hL
              (show OR CR ρ (.iter _ _ _ _) L (.mapIter _ _ _ _) from ⟨h0, rfl, by simp, rfl, L2, hL2, rfl⟩) hlt lo
            have hso := run_setObj' (P := P) (w := w) (r := L.blk) (o' := .mapIter (some L2.blk) clock (rseen.push e'.born) clock) ho (by intros; simp)
            refine ⟨.value (.tuple #[.bool true, e'.key, e'.val]), _, ρ, ?_, .inr ⟨_, rfl, by simp only [VR]; exact ⟨[.bool true, e'.key, e'.val], rfl, rfl, q2, q3, trivial⟩⟩, g1, g2, Nat.le_refl _⟩
            simp only [execOp, Instr.next, hp, h0, Nat.add_zero, Sem.run_bind, hg, Result.andThen_ok, hg2, hnot, hL1]
            have d1 : decide (e'.born < clock) = true := by simpa using hborn
            have d2 : decide (e'.born ≥ clock) = false := by simp; omega
            simp [hq, d1, d2, hborn, hso]
          · cases hy
        · cases hx
      · cases hx
    · cases hx
  · cases h

theorem ofList_lt {cs : List XV} {c : XC} (h : XC.ofList cs = some c) : cs.length < 16383 := by
  unfold XC.ofList at h
  cases h1 : Nat.blt cs.length 24 with
  | true => rw [blt_iff] at h1; omega
  | false =>
    rw [h1] at h
    cases h2 : Nat.blt cs.length trMax with
    | true => rw [blt_iff] at h2; exact h2
    | false => rw [h2] at h; cases h

theorem s2b_sound (hh : HR CR ρ H nx w) (hE : ∀ x e, ok x e = true → VR ρ (e.ev T S) (ev x)) {o : Oper} {a : XE} {v : XV} {H' : Tr XO} {nx' : Nat} (h : chkF P ok o.op (.s2b a) = true) (hx : xeff T S H nx (.s2b a) = .ok v H' nx') {lo : Nat} (hlo : lo ≤ nx) :
    EffOk P CR lo ρ H nx w (execOp ev o) v H' nx' := by
  obtain ⟨dst, op, type, pos, after, guard⟩ := o
  simp only [chkF] at h
  split at h
  · rename_i s d x
    split at h
    · rename_i e hs hd
      split at h
      · rename_i hu
        have hp := hE _ _ h
        simp only [xeff] at hx
        split at hx
        · rename_i n p ha
          rw [ha] at hp
          simp only [VR] at hp
          obtain ⟨str, hp, h1, h2⟩ := hp
          split at hx
          · rename_i c hc
            obtain ⟨hnx, rfl, rfl, rfl⟩ := newObj_ok hx
            have hdead : hget H nx = .dead := hh.fresh nx (Nat.le_refl _)
            have hnone : ρ nx = none := hh.nul nx (Nat.le_refl _)
            obtain ⟨hw, hr⟩ := XC.ofList_rep hc
            have hb : sbytes n p = str.data.toList.map (·.toNat) := by rw [← h1, ← h2]; exact sbytes_eq _
            rw [hb] at hr
            let cap := grownCap w str.size 0 e
            have hcap : str.size ≤ cap := cut_ge _ _ _ _
            have hcl : cap ≤ 9223372036854775807 := by
              refine cut_le _ _ _ _ ?_
              have h3 := ofList_lt hc
              rw [hb] at h3
              simp only [List.length_map] at h3
              rw [size_list]; omega
            let cells : Array Value := str.data.map (fun b => Value.int .u8 b.toNat) ++ Array.replicate (cap - str.size) (.int .u8 0)
            have hcs : cells.size = cap := by simp only [cells, Array.size_append, Array.size_map, Array.size_replicate]; show str.size + _ = _; omega
            let obj : Obj := .cells cells e (cap, cap + 1)
            have hstr : str.size = n := by rw [← h1]; exact size_list str
            have hrun : (execOp ev ⟨dst, .convert s d x, type, pos, after, guard⟩).run P w = .ok (.value (.slice (some ⟨w.heap.size, 0, none⟩) str.size cap)) { w.drew with heap := w.heap.push obj } := by
              have hmod : (w.heap.push (.cells cells e (0, 0))).modify w.heap.size (fun o => match o with
                  | .cells c elem (lo, hi) => .cells c elem (if lo == hi then (cells.size, cells.size + 1) else (min lo cells.size, max hi (cells.size + 1)))
                  | o => o) = w.heap.push obj := by
                apply Array.ext_getElem?
                intro B
                rw [Array.getElem?_modify, Array.getElem?_push, Array.getElem?_push]
                by_cases e1 : w.heap.size = B
                · subst e1; simp [obj, hcs]
                · rw [if_neg e1]
                  rw [if_neg (fun h => e1 h.symm), if_neg (fun h => e1 h.symm)]
              have hsh : (w.drew.alloc (.cells cells e)).shape? w.heap.size = some (e, cells.size) := by
                have : (w.drew.alloc (.cells cells e)).heap[w.heap.size]? = some (.cells cells e) := by
                  show (w.heap.push (.cells cells e))[w.heap.size]? = _
                  simp
                simp only [World.shape?, this]
              have hfr : (w.drew.alloc (.cells cells e)).freeze { block := w.heap.size, off := cells.size } 1 = { w.drew with heap := w.heap.push obj } := by
                simp only [World.freeze]
                rw [if_neg (by omega)]
                exact congrArg (fun h => ({ w.drew with heap := h } : World)) hmod
              have hms : (markStringish ⟨w.heap.size, 0, none⟩).run P (w.drew.alloc (.cells cells e)) = .ok () { w.drew with heap := w.heap.push obj } := by
                simp only [markStringish, Sem.run_bind, run_shape, hsh, Result.andThen_ok, run_freeze, hfr]
              have hch : (choose (.appendCap str.size 0 e)).run P w = .ok cap w.drew := rfl
              have hnr : (newRow e (str.data.map (fun b => Value.int .u8 b.toNat) ++ Array.replicate (cap - str.size) (.int .u8 0))).run P w.drew = .ok ⟨w.heap.size, 0, none⟩ (w.drew.alloc (.cells cells e)) := rfl
              simp only [execOp, convert, Sem.run_bind, run_und hs, run_und hd, run_und hu, Result.andThen_ok, hp, Conv.stringToBytes, hch, hnr, hms, Sem.run_pure]
            refine ⟨_, _, ρ.put nx ⟨w.heap.size, 0, cap⟩, hrun, .inr ⟨_, rfl, ?_⟩, ?_, ?_, by omega⟩
            · simp only [VR]
              refine ⟨⟨w.heap.size, 0, cap⟩, by simp [Rho.put], ⟨w.heap.size, 0, none⟩, cap, by rw [hstr], .inl ⟨by simp, by simp, hcl⟩⟩
            · refine hh.new hdead hnone (by omega) (by omega) (by omega) rfl rfl ?_
              simp only [OR, obj]
              refine ⟨hw, by rw [hcs]; omega, by rw [hr]; simp; rw [Array.length_toList] at h1; have := hstr; omega, fun i v hv => ?_, fun i hi => by omega, fun h => by cases h⟩
              rw [hr] at hv
              have hbv := bytes_vrl (ρ := ρ.put nx ⟨w.heap.size, 0, cap⟩) str.data.toList
              obtain ⟨u, u1, u2⟩ := VRL.get hbv hv
              refine ⟨?_, u, ?_, u2⟩
              · simp only [List.map_map, List.getElem?_map, Option.map_eq_some_iff] at hv
                obtain ⟨z, _, rfl⟩ := hv
                rfl
              · have hil := (List.getElem?_eq_some_iff.1 u1).1
                rw [Nat.zero_add, Array.getElem?_append_left (by simpa using hil)]
                simpa using u1
            · exact Ext.new hnone hlo (by omega) rfl rfl rfl rfl
          · cases hx
        · cases hx
      · cases h
    · cases h
  · cases h

/-- Every operation that writes, or asks what Go leaves open. -/
theorem eff_sound (hh : HR CR ρ H nx w) (hE : ∀ x e, ok x e = true → VR ρ (e.ev T S) (ev x)) {o : Oper} {xf : XF} {v : XV} {H' : Tr XO} {nx' : Nat} (h : chkF P ok o.op xf = true) (hx : xeff T S H nx xf = .ok v H' nx') {lo : Nat} (hlo : lo ≤ nx) :
    EffOk P CR lo ρ H nx w (execOp ev o) v H' nx' := by
  cases xf
  case store => exact store_sound hh hE h hx hlo
  case mapup => exact mapup_sound hh hE h hx hlo
  case range => exact range_sound hh hE h hx hlo
  case next => exact next_sound hh hE h hx hlo
  case append => exact append_sound hh hE h hx hlo
  case appendz => exact appendz_sound hh hE h hx hlo
  case copy => exact copy_sound hh hE h hx hlo
  case clear => exact clear_sound hh hE h hx hlo
  case delete => exact delete_sound hh hE h hx hlo
  case s2b => exact s2b_sound hh hE h hx hlo
end
end Go.X
/- The checker of code; regions in their own order. -/
namespace Go.X
set_option linter.unusedVariables false
set_option linter.unusedSimpArgs false

/-- An unguarded move: no operation of X's. -/
def plainMove (o : Oper) : Option Operand :=
  match o.guard with
  | none => (match o.op with
    | .move x => some x
    | .assign x => some x
    | _ => none)
  | some _ => none

def putA (dst : Option Tmp) (a : Al) (al : List (Nat × Al)) : List (Nat × Al) :=
  match dst with
  | some d => (d, a) :: al
  | none => al

def dstOk (nt : Nat) (dst : Option Tmp) : Bool :=
  match dst with
  | some d => Nat.blt d nt
  | none => true

def chkG (K n : Nat) (al : List (Nat × Al)) (all : Array Oper) (g : Option (Nat × Bool)) (x : Option (XE × Bool)) : Bool :=
  match g with
  | none => (match x with | none => true | some _ => false)
  | some (j, want) => (match x with
    | none => false
    | some (e, want') => (want == want') && (match all[j]? with
      | some o => (match o.dst with
        | some d => alOk K n (alOf al (.tmp d)) e
        | none => false)
      | none => false))

def selfA (al : List (Nat × Al)) (t : Nat) : Bool :=
  match findA al t with
  | some (.l t') => Nat.beq t t'
  | some _ => false
  | none => true

def hasU : List (Nat × XE) → Nat → Bool
  | [], _ => false
  | (t', _) :: r, t => Nat.beq t' t || hasU r t

def updOk (K n : Nat) (al : List (Nat × Al)) : List (Nat × XE) → Bool
  | [] => true
  | (t, e) :: r => alOk K n (alOf al (.tmp t)) e && updOk K n al r

/-- Every followed slot that was written is laid anew. -/
def coverOk (K : Nat) (al : List (Nat × Al)) (upd : List (Nat × XE)) : List (Nat × Al) → Bool
  | [] => true
  | (t, _) :: r => (!K.testBit t || hasU upd t || selfA al t) && coverOk K al upd r

def chkOps (P : Program) (K nt : Nat) (all : Array Oper) (upd : List (Nat × XE)) : List Oper → List XOper → List (Nat × Al) → Nat → Bool
  | [], xs, al, n => (match xs with | [] => updOk K n al upd && coverOk K al upd al | _ :: _ => false)
  | o :: os, xs, al, n =>
    dstOk nt o.dst && (match plainMove o with
    | some x => chkOps P K nt all upd os xs (putA o.dst (alOf al x) al) n
    | none => (match xs with
      | [] => false
      | x :: xs => chkG K n al all o.guard x.guard && chkOp P (fun y e => alOk K n (alOf al y) e) o.op x.op && chkOps P K nt all upd os xs (putA o.dst (.s n) al) (n + 1)))

section
variable (P : Program) (D : Nat → Nat → Array Oper → Nat → List XDop → List (Nat × XE) → Bool) (K nt : Nat)
def chkCode : XCode → Code → Bool
  | .skip, c => (match c with | .skip => true | _ => false)
  | .reg xs upd, c => (match c with
    | .region _ ops false => chkOps P K nt ops upd ops.toList xs [] 0
    | _ => false)
  | .dreg news xs upd, c => (match c with
    | .region _ ops true => D K nt ops news xs upd
    | _ => false)
  | .seq a b, c => (match c with | .seq a' b' => chkCode a a' && chkCode b b' | _ => false)
  | .cond e a b, c => (match c with | .cond x a' b' => alOk K 0 (alOf [] x) e && chkCode a a' && chkCode b b' | _ => false)
  | .block i b, c => (match c with | .block j b' => Nat.beq i j && chkCode b b' | _ => false)
  | .loop b, c => (match c with | .loop b' => chkCode b b' | _ => false)
  | .rangeFunc e ps a b, c => (match c with
    | .rangeFunc f qs a' b' => alOk K 0 (alOf [] f) e && (ps == qs.toList) && ps.all (fun t => Nat.blt t nt) && chkCode a a' && chkCode b b'
    | _ => false)
  | .exit i, c => (match c with | .exit j => Nat.beq i j | _ => false)
  | .scope b, c => (match c with | .scope b' => chkCode b b' | _ => false)
  | .scopeAt _ _, _ => false
  | .label l, c => (match c with | .label l' => Nat.beq l l' | _ => false)
  | .goto l, c => (match c with | .goto l' => Nat.beq l l' | _ => false)
  | .ret, c => (match c with | .ret => true | _ => false)
end

/-- X's code c stands for code. -/
def CRel (P : Program) (D : Nat → Nat → Array Oper → Nat → List XDop → List (Nat × XE) → Bool) : Nat → Nat → Code → XCode → Prop :=
  fun K nt code c => chkCode P D K nt c code = true

/-! ### What holds within a region -/
section
variable {P : Program} {ρ : Rho} {K nt : Nat}

def AlR (ρ : Rho) (S : List XV) (n : Nat) (t0 : Array Value) (v : Value) : Al → Prop
  | .s p => p < n ∧ VR ρ (evs S (n - 1 - p)) v
  | .l t => v = t0.getD t undef
  | .k c => v = c
  | .f f => v = .func (.func f) #[] #[]
  | .no => True

theorem AlR.mono {ρ ρ' : Rho} (h : ρ.le ρ') {S : List XV} {n : Nat} {t0 : Array Value} {v : Value} : ∀ {a : Al}, AlR ρ S n t0 v a → AlR ρ' S n t0 v a
  | .s _, ⟨h1, h2⟩ => ⟨h1, VR.mono h h2⟩
  | .l _, h => h
  | .k _, h => h
  | .f _, h => h
  | .no, h => h

theorem AlR.push {S : List XV} {n : Nat} {t0 : Array Value} {v : Value} {u : XV} : ∀ {a : Al}, AlR ρ S n t0 v a → AlR ρ (u :: S) (n + 1) t0 v a
  | .s p, ⟨h1, h2⟩ => ⟨by omega, by
      have e : n + 1 - 1 - p = (n - 1 - p) + 1 := by omega
      rw [e]; exact h2⟩
  | .l _, h => h
  | .k _, h => h
  | .f _, h => h
  | .no, h => h

/-- The temporaries amid a region. -/
def RegR (ρ : Rho) (S : List XV) (n : Nat) (t0 : Array Value) (al : List (Nat × Al)) (tmps : Array Value) : Prop :=
  ∀ t, match findA al t with
    | some a => AlR ρ S n t0 (tmps.getD t undef) a
    | none => tmps.getD t undef = t0.getD t undef

theorem RegR.al {S : List XV} {n : Nat} {t0 : Array Value} {al : List (Nat × Al)} {a : Act} (h : RegR ρ S n t0 al a.tmps) (x : Operand) : AlR ρ S n t0 (a.eval x) (alOf al x) := by
  cases x with
  | tmp t =>
    have := h t
    simp only [alOf, Act.eval]
    cases hf : findA al t with
    | some b => rw [hf] at this; exact this
    | none => rw [hf] at this; exact this
  | const v => rfl
  | func f => rfl
  | global g => trivial

theorem AlR.ok {S : List XV} {n : Nat} {t0 : Array Value} {T : Tr XV} (ht : TR ρ K T t0) {v : Value} {e : XE} : ∀ {a : Al}, AlR ρ S n t0 v a → alOk K n a e = true → VR ρ (e.ev T S) v
  | .s p, ⟨h1, h2⟩, h => by
    cases e <;> simp only [alOk, Bool.false_eq_true, beq_iff] at h
    rename_i k
    have e : Nat.add p (Nat.add k 1) = p + (k + 1) := rfl
    rw [e] at h
    have : n - 1 - p = k := by omega
    rw [this] at h2
    exact h2
  | .l t, h0, h => by
    cases e <;> simp only [alOk, Bool.false_eq_true, Bool.and_eq_true, beq_iff] at h
    obtain ⟨rfl, h⟩ := h
    rw [h0]
    exact ht t h
  | .k c, h0, h => by
    cases e <;> simp only [alOk, Bool.false_eq_true] at h
    rw [h0]
    exact cok_sound ρ h
  | .f f, h0, h => by
    simp only [alOk] at h
    split at h
    · rw [beq_iff] at h
      subst h
      rw [h0]
      simp only [XE.ev, VR]
      exact ⟨[], [], rfl, trivial, trivial⟩
    · cases h
  | .no, _, h => by simp [alOk] at h

theorem RegR.ev {S : List XV} {n : Nat} {t0 : Array Value} {T : Tr XV} {al : List (Nat × Al)} {a : Act} (h : RegR ρ S n t0 al a.tmps) (ht : TR ρ K T t0) : ∀ x e, alOk K n (alOf al x) e = true → VR ρ (XE.ev T S e) (a.eval x) :=
  fun x e he => (h.al x).ok ht he

theorem RegR.mono {ρ ρ' : Rho} (hle : ρ.le ρ') {S : List XV} {n : Nat} {t0 : Array Value} {al : List (Nat × Al)} {tmps : Array Value} (h : RegR ρ S n t0 al tmps) : RegR ρ' S n t0 al tmps := fun t => by
  have := h t
  cases hf : findA al t with
  | some b => rw [hf] at this; exact this.mono hle
  | none => rw [hf] at this; exact this

theorem getD_set {A : Array Value} {d t : Nat} {v : Value} (hd : d < A.size) : (A.setIfInBounds d v).getD t undef = if d = t then v else A.getD t undef := by
  simp only [Array.getD_eq_getD_getElem?, Array.getElem?_setIfInBounds]
  by_cases e : d = t
  · subst e; simp [hd]
  · simp [e]

theorem findA_put (d t : Nat) (a : Al) (al : List (Nat × Al)) : findA ((d, a) :: al) t = if d = t then some a else findA al t := by
  simp only [findA]
  by_cases e : d = t
  · rw [if_pos e, (beq_iff d t).2 e]; rfl
  · rw [if_neg e, (beq_false d t).2 e]; rfl

/-- A move. -/
theorem RegR.move {S : List XV} {n : Nat} {t0 : Array Value} {al : List (Nat × Al)} {a : Act} (h : RegR ρ S n t0 al a.tmps) {dst : Option Tmp} (hd : dstOk nt dst = true) (hs : nt ≤ a.tmps.size) (x : Operand) :
    RegR ρ S n t0 (putA dst (alOf al x) al) (a.put dst (a.eval x)).tmps := by
  cases dst with
  | none => exact h
  | some d =>
    simp only [dstOk, blt_iff] at hd
    intro t
    simp only [putA, findA_put, Act.put]
    rw [getD_set (by omega)]
    by_cases e : d = t
    · rw [if_pos e, if_pos e]; exact h.al x
    · rw [if_neg e, if_neg e]; exact h t

/-- A value. -/
theorem RegR.push {S : List XV} {n : Nat} {t0 : Array Value} {al : List (Nat × Al)} {a : Act} (h : RegR ρ S n t0 al a.tmps) {dst : Option Tmp} (hd : dstOk nt dst = true) (hs : nt ≤ a.tmps.size) {v : XV} {x : Value} (hv : VR ρ v x) :
    RegR ρ (v :: S) (n + 1) t0 (putA dst (.s n) al) (a.put dst x).tmps := by
  have h' : RegR ρ (v :: S) (n + 1) t0 al a.tmps := fun t => by
    have := h t
    cases hf : findA al t with
    | some b => rw [hf] at this; exact this.push
    | none => rw [hf] at this; exact this
  cases dst with
  | none => exact h'
  | some d =>
    simp only [dstOk, blt_iff] at hd
    intro t
    simp only [putA, findA_put, Act.put]
    rw [getD_set (by omega)]
    by_cases e : d = t
    · rw [if_pos e, if_pos e]
      refine ⟨by omega, ?_⟩
      have : n + 1 - 1 - n = 0 := by omega
      rw [this]; exact hv
    · rw [if_neg e, if_neg e]; exact h' t

theorem put_size (a : Act) (dst : Option Tmp) (v : Value) : (a.put dst v).tmps.size = a.tmps.size := by cases dst <;> simp [Act.put]
theorem put_defers (a : Act) (dst : Option Tmp) (v : Value) : (a.put dst v).defers = a.defers := by cases dst <;> simp [Act.put]

/-- The slots behind a region. -/
theorem get_set_or {T : Tr XV} {x : XV} (k j : Nat) : Tr.get .unk (Tr.set x T k) j = Tr.get .unk T j ∨ Tr.get .unk (Tr.set x T k) j = x ∧ j = k := by
  by_cases e : j = k
  · subst e
    induction T generalizing j with
    | e => exact .inl rfl
    | nd l v r ihl ihr =>
      cases j with
      | zero => exact .inr ⟨rfl, rfl⟩
      | succ j =>
        simp only [Tr.set]
        cases hm : Nat.mod j 2 with
        | zero =>
          simp only [Tr.get, hm]
          rcases ihl (Nat.div j 2) with h | h
          · exact .inl h
          · exact .inr ⟨h.1, trivial⟩
        | succ m =>
          simp only [Tr.get, hm]
          rcases ihr (Nat.div j 2) with h | h
          · exact .inl h
          · exact .inr ⟨h.1, trivial⟩
  · exact .inl (Tr.get_set_ne _ _ _ _ _ e)
end
end Go.X
/- Regions in their own order: the walk. -/
namespace Go.X
set_option linter.unusedVariables false
set_option linter.unusedSimpArgs false
section
variable {CR : Nat → Nat → Code → XCode → Prop}
variable {P : Program} {ρ : Rho} {K nt : Nat}

theorem get_set_same {x : XV} : ∀ (T : Tr XV) (k : Nat), Tr.get .unk (Tr.set x T k) k = x ∨ Tr.get .unk (Tr.set x T k) k = .unk := by
  intro T
  induction T with
  | e => intro k; exact .inr rfl
  | nd l v r ihl ihr =>
    intro k
    cases k with
    | zero => exact .inl rfl
    | succ j =>
      simp only [Tr.set]
      cases hm : Nat.mod j 2 with
      | zero => simp only [Tr.get, hm]; exact ihl _
      | succ m => simp only [Tr.get, hm]; exact ihr _

theorem upds_get {T0 : Tr XV} {S : List XV} (j : Nat) : ∀ (upd : List (Nat × XE)) (T : Tr XV),
    (hasU upd j = false → Tr.get .unk (upds T T0 S upd) j = Tr.get .unk T j) ∧
    (hasU upd j = true → Tr.get .unk (upds T T0 S upd) j = .unk ∨ ∃ e, (j, e) ∈ upd ∧ Tr.get .unk (upds T T0 S upd) j = e.ev T0 S)
  | [], T => ⟨fun _ => rfl, fun h => by simp [hasU] at h⟩
  | (t, e) :: r, T => by
    obtain ⟨h1, h2⟩ := upds_get j r (Tr.set (e.ev T0 S) T t)
    refine ⟨fun h => ?_, fun h => ?_⟩
    · simp only [hasU, Bool.or_eq_false_iff, beq_false] at h
      simp only [upds]
      rw [h1 h.2, Tr.get_set_ne _ _ _ _ _ (fun e => h.1 e.symm)]
    · simp only [upds]
      cases hr : hasU r j with
      | true =>
        rcases h2 hr with h3 | ⟨e', h3, h4⟩
        · exact .inl h3
        · exact .inr ⟨e', List.mem_cons_of_mem _ h3, h4⟩
      | false =>
        simp only [hasU, hr, Bool.or_false, beq_iff] at h
        subst h
        rw [h1 hr]
        rcases get_set_same (x := e.ev T0 S) T t with h3 | h3
        · exact .inr ⟨e, by simp, h3⟩
        · exact .inl h3

theorem updOk_mem {n : Nat} {al : List (Nat × Al)} : ∀ {upd : List (Nat × XE)}, updOk K n al upd = true → ∀ {t e}, (t, e) ∈ upd → alOk K n (alOf al (.tmp t)) e = true
  | [], _, t, e, h => by simp at h
  | (t', e') :: r, h, t, e, hm => by
    simp only [updOk, Bool.and_eq_true] at h
    rcases List.mem_cons.1 hm with h1 | h1
    · cases h1; exact h.1
    · exact updOk_mem h.2 h1

theorem coverOk_mem {al : List (Nat × Al)} {upd : List (Nat × XE)} : ∀ {l : List (Nat × Al)}, coverOk K al upd l = true → ∀ {t a}, (t, a) ∈ l → K.testBit t = false ∨ hasU upd t = true ∨ selfA al t = true
  | [], _, t, a, h => by simp at h
  | (t', a') :: r, h, t, a, hm => by
    simp only [coverOk, Bool.and_eq_true, Bool.or_eq_true, Bool.not_eq_true'] at h
    rcases List.mem_cons.1 hm with h1 | h1
    · cases h1; rcases h.1 with (h2 | h2) | h2
      · exact .inl h2
      · exact .inr (.inl h2)
      · exact .inr (.inr h2)
    · exact coverOk_mem h.2 h1

theorem findA_mem {al : List (Nat × Al)} {t : Nat} {a : Al} (h : findA al t = some a) : (t, a) ∈ al := by
  induction al with
  | nil => simp [findA] at h
  | cons p r ih =>
    obtain ⟨d, b⟩ := p
    rw [findA_put] at h
    by_cases e : d = t
    · rw [if_pos e] at h; cases h; subst e; simp
    · rw [if_neg e] at h; exact List.mem_cons_of_mem _ (ih h)

theorem upds_sound {S : List XV} {n : Nat} {al : List (Nat × Al)} {T : Tr XV} {a : Act} {t0 : Array Value} {upd : List (Nat × XE)} (ht : TR ρ K T t0) (hr : RegR ρ S n t0 al a.tmps) (h1 : updOk K n al upd = true) (h2 : coverOk K al upd al = true) :
    TR ρ K (upds T T S upd) a.tmps := by
  intro j hj
  obtain ⟨g1, g2⟩ := upds_get (T0 := T) (S := S) j upd T
  cases hu : hasU upd j with
  | true =>
    rcases g2 hu with h | ⟨e, h, h'⟩
    · rw [h]; simp [VR]
    · rw [h']
      exact hr.ev ht (.tmp j) e (updOk_mem h1 h)
  | false =>
    rw [g1 hu]
    have hkeep : a.tmps.getD j undef = t0.getD j undef := by
      have := hr j
      cases hf : findA al j with
      | none => rw [hf] at this; exact this
      | some b =>
        rw [hf] at this
        rcases coverOk_mem h2 (findA_mem hf) with h | h | h
        · rw [hj] at h; cases h
        · rw [hu] at h; cases h
        · unfold selfA at h
          rw [hf] at h
          cases b <;> simp only [Bool.false_eq_true, beq_iff] at h
          subst h
          exact this
    rw [hkeep]
    exact ht j hj

/-! ### Operations -/
def RetR (CR : Nat → Nat → Code → XCode → Prop) (ρ : Rho) (H : Tr XO) (nx : Nat) (w : World) (v : XV) (H' : Tr XO) (nx' : Nat) : Ending → World → Prop :=
  fun e w' => ∃ x ρ', e = .returned x ∧ VR ρ' v x ∧ HR CR ρ' H' nx' w' ∧ Ext nx ρ H w ρ' H' nx' w' ∧ nx ≤ nx'

/-- What an operation does: at once, or by an activation. -/
def OpRes (P : Program) (CR : Nat → Nat → Code → XCode → Prop) (ρ : Rho) (H : Tr XO) (nx : Nat) (w : World) (s : Sem Next) (v : XV) (H' : Tr XO) (nx' : Nat) : Prop :=
  EffOk P CR nx ρ H nx w s v H' nx' ∨
  (∃ f args, s.run P w = .ok (.enter f args) w ∧ CallsIn Fence.wide 0 P f args w (RetR CR ρ H nx w v H' nx')) ∨
  (∃ l f tmps assign body, s.run P w = .ok (.round l f tmps assign body) w ∧ RoundIn Fence.wide 0 P l f tmps assign body w (RetR CR ρ H nx w v H' nx'))

def CallOk (P : Program) (CR : Nat → Nat → Code → XCode → Prop) (F : FT) (ih : Option Nat → XCode → Tr XV → Tr XO → Nat → List Nat → XS) : Prop :=
  ∀ f as H nx v H' nx', enter F ih f as H nx = .ok v H' nx' → ∀ ρ w args, HR CR ρ H nx w → VRL ρ as args → OpRes P CR ρ H nx w (callFunc f ⟨args⟩) v H' nx'

def RoundOk (P : Program) (CR : Nat → Nat → Code → XCode → Prop) (ih : Option Nat → XCode → Tr XV → Tr XO → Nat → List Nat → XS) : Prop :=
  ∀ l as H nx v H' nx', round ih l as H nx = .ok v H' nx' → ∀ ρ w args L, HR CR ρ H nx w → ρ l = some L → VRL ρ as args → OpRes P CR ρ H nx w (Instr.yield L.blk ⟨args⟩) v H' nx'

theorem OpRes.of_run {H : Tr XO} {nx : Nat} {w : World} {s s' : Sem Next} {v : XV} {H' : Tr XO} {nx' : Nat} (h : OpRes P CR ρ H nx w s v H' nx') (e : s'.run P w = s.run P w) : OpRes P CR ρ H nx w s' v H' nx' := by
  rcases h with h | ⟨f, args, h1, h2⟩ | ⟨l, f, t, a, b, h1, h2⟩
  · exact .inl (h.of_run e)
  · exact .inr (.inl ⟨f, args, e.trans h1, h2⟩)
  · exact .inr (.inr ⟨l, f, t, a, b, e.trans h1, h2⟩)

theorem yields_eff {H : Tr XO} {nx : Nat} {w : World} (hh : HR CR ρ H nx w) {s : Sem Next} {v : XV} (h : ∃ x, s.run P w = .ok (.value x) w ∧ VR ρ v x) : EffOk P CR nx ρ H nx w s v H nx := by
  obtain ⟨x, h1, h2⟩ := h
  exact ⟨_, w, ρ, h1, .inr ⟨x, rfl, h2⟩, hh, Ext.refl _ _ _ _ _, Nat.le_refl _⟩

theorem op_sound {F : FT} {ih : Option Nat → XCode → Tr XV → Tr XO → Nat → List Nat → XS} (hC : CallOk P CR F ih) (hR : RoundOk P CR ih) {ok : Operand → XE → Bool} {ev : Operand → Value} {T : Tr XV} {S : List XV} {H : Tr XO} {nx : Nat} {w : World}
    (hh : HR CR ρ H nx w) (hE : ∀ x e, ok x e = true → VR ρ (XE.ev T S e) (ev x)) (hF : ∀ g, ev (.func g) = .func (.func g) #[] #[]) {o : Oper} {xo : XOp} (h : chkOp P ok o.op xo = true) {v : XV} {H' : Tr XO} {nx' : Nat} (hx : xop F ih T S H nx xo = .ok v H' nx') :
    OpRes P CR ρ H nx w (execOp ev o) v H' nx' := by
  cases xo with
  | p op =>
    simp only [chkOp] at h
    simp only [xop] at hx
    cases hv : xpure T S op with
    | none => rw [hv] at hx; cases hx
    | some u =>
      rw [hv] at hx
      cases hx
      exact .inl (yields_eff hh (pure_sound hE h hv w))
  | q op =>
    simp only [chkOp] at h
    simp only [xop] at hx
    cases hv : xread T S H op with
    | none => rw [hv] at hx; cases hx
    | some u =>
      rw [hv] at hx
      cases hx
      exact .inl (yields_eff hh (read_sound hh hE h hv))
  | n op =>
    simp only [chkOp] at h
    simp only [xop] at hx
    cases hv : xnew T S op with
    | none => rw [hv] at hx; cases hx
    | some p =>
      obtain ⟨ob, f⟩ := p
      rw [hv] at hx
      exact .inl (new_eff hh hx (new_sound hE h hv w) (Nat.le_refl _))
  | f op =>
    simp only [chkOp] at h
    exact .inl (eff_sound hh hE h hx (Nat.le_refl _))
  | call f as =>
    simp only [chkOp] at h
    split at h
    · rename_i g args argTypes heq
      simp only [Bool.and_eq_true, beq_iff] at h
      obtain ⟨rfl, h⟩ := h
      obtain ⟨dst, op, type, pos, after, guard⟩ := o
      simp only at heq
      subst heq
      have hargs := oks_sound hE h
      refine (hC _ _ _ _ _ _ _ hx ρ w (args.toList.map ev) hh hargs).of_run ?_
      have : (⟨args.toList.map ev⟩ : Array Value) = args.map ev := by apply Array.ext'; simp
      rw [this]
      simp [execOp, resolve, hF, Deferred.ofValue, invoke]
    · cases h
  | calld g as =>
    simp only [chkOp] at h
    split at h
    · rename_i hf args argTypes heq
      simp only [Bool.and_eq_true] at h
      obtain ⟨h1, h⟩ := h
      obtain ⟨dst, op, type, pos, after, guard⟩ := o
      simp only at heq
      subst heq
      have hargs := oks_sound hE h
      have hg := hE _ _ h1
      simp only [xop, callv] at hx
      split at hx
      · rename_i f first captured hgv
        rw [hgv] at hg
        simp only [VR] at hg
        obtain ⟨l, m, hg, hl, hm⟩ := hg
        refine (hC _ _ _ _ _ _ _ hx ρ w (l ++ (args.toList.map ev ++ m)) hh (VRL.append hl (VRL.append hargs hm))).of_run ?_
        have : (⟨l ++ (args.toList.map ev ++ m)⟩ : Array Value) = (⟨l⟩ ++ args.map ev) ++ ⟨m⟩ := by apply Array.ext'; simp
        rw [this]
        simp only [execOp, resolve, hg, Deferred.ofValue, invoke, Sem.run_bind, Sem.run_pure, Result.andThen_ok]
      · rename_i l hgv
        rw [hgv] at hg
        simp only [VR] at hg
        obtain ⟨L, hL, hg⟩ := hg
        refine (hR _ _ _ _ _ _ _ hx ρ w (args.toList.map ev) L hh hL hargs).of_run ?_
        have : (⟨args.toList.map ev⟩ : Array Value) = args.map ev := by apply Array.ext'; simp
        rw [this]
        simp [execOp, resolve, hg, Deferred.ofValue, invoke]
      · cases hx
    · cases h

/-! ### The walk of a region -/
def Fr (ro : Option Nat) : Fence := { Fence.wide with round := ro }

def DR (ρ : Rho) : List Nat → List Deferred → Prop
  | [], [] => True
  | b :: r, d :: ds => (∃ L, ρ b = some L ∧ d.target = .collected L.blk) ∧ DR ρ r ds
  | _, _ => False

theorem DR.mono {ρ ρ' : Rho} (h : ρ.le ρ') : ∀ {l : List Nat} {ds : List Deferred}, DR ρ l ds → DR ρ' l ds
  | [], [], _ => trivial
  | _ :: _, _ :: _, ⟨⟨L, h1, h2⟩, h3⟩ => ⟨⟨L, h _ _ h1, h2⟩, DR.mono h h3⟩
  | [], _ :: _, hv => hv.elim
  | _ :: _, [], hv => hv.elim

def ExR : XExit → Exit → Prop
  | .normal, .normal => True
  | .exit i, .exit j => i = j
  | .goto i, .goto j => i = j
  | .ret, .ret => True
  | _, _ => False

/-- What code leaves. -/
def Post (CR : Nat → Nat → Code → XCode → Prop) (K nt : Nat) (ρ : Rho) (H : Tr XO) (nx : Nat) (w : World) (e : XExit) (T' : Tr XV) (H' : Tr XO) (nx' : Nat) (dl' : List Nat) : Exit → Act → World → Prop :=
  fun x a' w' => ∃ ρ', ExR e x ∧ HR CR ρ' H' nx' w' ∧ Ext nx ρ H w ρ' H' nx' w' ∧ TR ρ' K T' a'.tmps ∧ nt ≤ a'.tmps.size ∧ DR ρ' dl' a'.defers ∧ nx ≤ nx'

theorem chkOp_defer {ok : Operand → XE → Bool} {o : Op} {xo : XOp} (h : chkOp P ok o xo = true) : ∀ c, o ≠ .defer c := by
  rintro c rfl
  cases xo with
  | p op => cases op <;> simp [chkOp, chkP] at h
  | q op => cases op <;> simp [chkOp, chkQ] at h
  | n op => cases op <;> simp [chkOp, chkN] at h
  | f op => cases op <;> simp [chkOp, chkF] at h
  | call f as => simp [chkOp] at h
  | calld g as => simp [chkOp] at h

theorem plainMove_some {o : Oper} {x : Operand} (h : plainMove o = some x) : o.guard = none ∧ (o.op = .move x ∨ o.op = .assign x) := by
  unfold plainMove at h
  split at h
  · rename_i hg
    refine ⟨hg, ?_⟩
    split at h
    · rename_i y hy; cases h; exact .inl hy
    · rename_i y hy; cases h; exact .inr hy
    · cases h
  · cases h

/-- Is it wanted? -/
theorem guard_sound {S : List XV} {n : Nat} {t0 : Array Value} {T : Tr XV} {al : List (Nat × Al)} {a : Act} (hr : RegR ρ S n t0 al a.tmps) (ht : TR ρ K T t0) {all : Array Oper} {o : Oper} {x : Option (XE × Bool)} (h : chkG K n al all o.guard x = true) {b : Bool} (hl : lets T S x = some b) :
    Region.wanted o (yielded all a.tmps) = b := by
  unfold chkG at h
  unfold Region.wanted
  cases hg : o.guard with
  | none =>
    rw [hg] at h
    cases x with
    | none => simp [lets] at hl; subst hl; rfl
    | some _ => simp at h
  | some p =>
    obtain ⟨j, want⟩ := p
    rw [hg] at h
    cases x with
    | none => simp at h
    | some q =>
      obtain ⟨e, want'⟩ := q
      simp only [Bool.and_eq_true, beq_iff_eq] at h
      obtain ⟨rfl, h⟩ := h
      split at h
      · rename_i oj hoj
        split at h
        · rename_i d hd
          have hv := hr.ev ht (.tmp d) e h
          simp only [lets] at hl
          have hy : yielded all a.tmps j = match a.tmps[d]? with | some (.bool b) => some b | _ => none := by
            simp only [yielded, hoj, Option.bind_some, hd]
            rfl
          simp only [Act.eval, Array.getD_eq_getD_getElem?] at hv
          split at hl
          · rename_i c hc
            cases hl
            rw [hc] at hv
            simp only [VR] at hv
            show (yielded all a.tmps j == some want) = _
            rw [hy]
            cases hq : a.tmps[d]? with
            | none => rw [hq] at hv; simp [undef] at hv
            | some v =>
              rw [hq] at hv
              simp only [Option.getD_some] at hv
              subst hv
              cases c <;> cases want <;> rfl
          · rename_i c hc
            cases hl
            rw [hc] at hv
            simp only [VR] at hv
            obtain ⟨l, hv, _⟩ := hv
            show (yielded all a.tmps j == some want) = _
            rw [hy]
            cases hq : a.tmps[d]? with
            | none => cases want <;> rfl
            | some v =>
              rw [hq] at hv
              simp only [Option.getD_some] at hv
              subst hv
              cases want <;> rfl
          · cases hl
        · cases h
      · cases h

theorem ops_sound {F : FT} {ih : Option Nat → XCode → Tr XV → Tr XO → Nat → List Nat → XS} (hC : CallOk P CR F ih) (hR : RoundOk P CR ih) {all : Array Oper} {upd : List (Nat × XE)} {T : Tr XV} {dl : List Nat} {t0 : Array Value} {rl : Option Nat}
    {ρ0 : Rho} {H0 : Tr XO} {nx0 : Nat} {w0 : World} {e : XExit} {T' : Tr XV} {H' : Tr XO} {nx' : Nat} {dl' : List Nat} :
    ∀ (os : List Oper) (k : Nat) (xs : List XOper) (al : List (Nat × Al)) (n : Nat) (S : List XV) (a : Act) (w : World) (ρ : Rho) (H : Tr XO) (nx : Nat),
      all.toList.drop k = os → chkOps P K nt all upd os xs al n = true → ops F ih T upd dl xs S H nx = .ok e T' H' nx' dl' →
      RegR ρ S n t0 al a.tmps → TR ρ K T t0 → nt ≤ a.tmps.size → DR ρ dl a.defers → HR CR ρ H nx w → Ext nx0 ρ0 H0 w0 ρ H nx w → nx0 ≤ nx →
      wpOpsIn (Fr rl) 0 P all (Post CR K nt ρ0 H0 nx0 w0 e T' H' nx' dl') (List.range' k os.length) a w := by
  intro os
  induction os with
  | nil =>
    intro k xs al n S a w ρ H nx hk hc hx hr ht hs hd hh he hn
    simp only [chkOps] at hc
    cases xs with
    | cons _ _ => simp at hc
    | nil =>
      simp only [Bool.and_eq_true] at hc
      simp only [ops] at hx
      cases hx
      simp only [List.length_nil, List.range'_zero, wpOpsIn]
      exact ⟨ρ, trivial, hh, he, upds_sound ht hr hc.1 hc.2, hs, hd, hn⟩
  | cons o os ih' =>
    intro k xs al n S a w ρ H nx hk hc hx hr ht hs hd hh he hn
    simp only [chkOps, Bool.and_eq_true] at hc
    obtain ⟨hdst, hc⟩ := hc
    have hko : all[k]? = some o := by
      rw [← Array.getElem?_toList]
      have := List.getElem?_drop (xs := all.toList) (i := k) (j := 0)
      rw [hk] at this
      simpa using this.symm
    have hk1 : all.toList.drop (k + 1) = os := by
      rw [← List.tail_drop, hk]; rfl
    simp only [List.length_cons, List.range'_succ, wpOpsIn, hko]
    have habout : ∀ f, o.about P w a.eval = some f → (Fr rl).fn f := fun _ _ => trivial
    cases hp : plainMove o with
    | some x =>
      rw [hp] at hc
      obtain ⟨hg, hop⟩ := plainMove_some hp
      have hw : Region.wanted o (yielded all a.tmps) = true := by simp [Region.wanted, hg]
      rw [if_pos hw]
      have hsem : o.semAt (Fr rl).round a.eval = execOp a.eval o := Oper.semAt_eq _ _ _ (by rcases hop with h | h <;> (rw [h]; intro c; simp))
      have hrun : (execOp a.eval o).run P w = .ok (.value (a.eval x)) w := by
        rcases hop with h | h <;> simp [execOp, h]
      refine ⟨habout, ?_⟩
      rw [hsem, hrun]
      simp only [Oper.uponIn]
      exact ih' (k + 1) xs _ n S (a.put o.dst (a.eval x)) w ρ H nx hk1 hc hx (hr.move hdst hs x) ht (by rw [put_size]; exact hs) (by rw [put_defers]; exact hd) hh he hn
    | none =>
      rw [hp] at hc
      cases xs with
      | nil => simp at hc
      | cons x xs =>
        simp only [Bool.and_eq_true] at hc
        obtain ⟨⟨hcg, hco⟩, hcr⟩ := hc
        simp only [ops] at hx
        split at hx
        · rename_i hlt
          have hw := guard_sound hr ht hcg hlt
          rw [if_pos hw]
          split at hx
          · rename_i v H1 nx1 hxo
            have hsem : o.semAt (Fr rl).round a.eval = execOp a.eval o := Oper.semAt_eq _ _ _ (chkOp_defer hco)
            have hres := op_sound hC hR hh (ok := fun y e => alOk K n (alOf al y) e) (ev := a.eval) (fun y e hy => hr.ev ht y e hy) (fun _ => rfl) hco hxo
            refine ⟨habout, ?_⟩
            rw [hsem]
            have next : ∀ (u : Value) (w1 : World) (ρ1 : Rho), VR ρ1 v u → HR CR ρ1 H1 nx1 w1 → Ext nx ρ H w ρ1 H1 nx1 w1 → nx ≤ nx1 →
                wpOpsIn (Fr rl) 0 P all (Post CR K nt ρ0 H0 nx0 w0 e T' H' nx' dl') (List.range' (k + 1) os.length) (a.put o.dst u) w1 := by
              intro u w1 ρ1 hu hh1 he1 hn1
              exact ih' (k + 1) xs _ (n + 1) (v :: S) (a.put o.dst u) w1 ρ1 H1 nx1 hk1 hcr hx ((hr.mono he1.le).push hdst hs hu) (ht.mono he1.le) (by rw [put_size]; exact hs)
                (by rw [put_defers]; exact hd.mono he1.le) hh1 (he.trans he1 hn hn1) (by omega)
            rcases hres with ⟨nn, w1, ρ1, g1, g2, g3, g4, g5⟩ | ⟨f, args, g1, g2⟩ | ⟨l, f, tm, as, bo, g1, g2⟩
            · rw [g1]
              rcases g2 with ⟨rfl, rfl⟩ | ⟨u, rfl, g2⟩
              · simp only [Oper.uponIn]
                exact next undef w1 ρ1 (by simp only [unit, VR]; exact ⟨[], rfl, trivial⟩) g3 g4 g5
              · simp only [Oper.uponIn]
                exact next u w1 ρ1 g2 g3 g4 g5
            · rw [g1]
              simp only [Oper.uponIn]
              refine ⟨fun h => by simp [Fr, Fence.wide] at h, ?_⟩
              have g2' : CallsIn (Fr rl) 0 P f args w (RetR CR ρ H nx w v H1 nx1) := g2
              refine CallsIn.mono g2' (fun e' w' hret => ?_)
              obtain ⟨u, ρ1, rfl, q1, q2, q3, q4⟩ := hret
              exact next u w' ρ1 q1 q2 q3 q4
            · rw [g1]
              simp only [Oper.uponIn]
              refine ⟨fun h => by simp [Fr, Fence.wide] at h, ?_⟩
              have g2' : RoundIn (Fr rl) 0 P l f tm as bo w (RetR CR ρ H nx w v H1 nx1) := g2
              refine RoundIn.mono g2' (fun e' w' hret => ?_)
              obtain ⟨u, ρ1, rfl, q1, q2, q3, q4⟩ := hret
              exact next u w' ρ1 q1 q2 q3 q4
          · cases hx
        · rename_i hlt
          have hw := guard_sound hr ht hcg hlt
          rw [if_neg (by rw [hw]; simp)]
          refine ⟨habout, ?_⟩
          exact ih' (k + 1) xs _ (n + 1) (unit :: S) (a.put o.dst undef) w ρ H nx hk1 hcr hx (hr.push hdst hs (by simp only [unit, VR]; exact ⟨[], rfl, trivial⟩)) ht (by rw [put_size]; exact hs)
            (by rw [put_defers]; exact hd) hh he hn
        · cases hx
end
end Go.X
/- Before the walk of code: what code leaves, put together; labels; arguments, results, marks. -/
namespace Go.X
set_option linter.unusedVariables false
set_option linter.unusedSimpArgs false
section
variable {CR : Nat → Nat → Code → XCode → Prop}
variable {P : Program} {ρ : Rho} {K nt : Nat}

theorem Post.trans {ρ ρ1 : Rho} {H H1 : Tr XO} {nx nx1 : Nat} {w w1 : World} {e : XExit} {T' : Tr XV} {H' : Tr XO} {nx' : Nat} {dl' : List Nat} (he : Ext nx ρ H w ρ1 H1 nx1 w1) (hn : nx ≤ nx1) {x : Exit} {a' : Act} {w' : World}
    (h : Post CR K nt ρ1 H1 nx1 w1 e T' H' nx' dl' x a' w') : Post CR K nt ρ H nx w e T' H' nx' dl' x a' w' := by
  obtain ⟨ρ', h1, h2, h3, h4, h5, h6, h7⟩ := h
  exact ⟨ρ', h1, h2, he.trans h3 hn h7, h4, h5, h6, by omega⟩

theorem RetR.trans {ρ ρ1 : Rho} {H H1 : Tr XO} {nx nx1 : Nat} {w w1 : World} {v : XV} {H' : Tr XO} {nx' : Nat} (he : Ext nx ρ H w ρ1 H1 nx1 w1) (hn : nx ≤ nx1) {x : Ending} {w' : World}
    (h : RetR CR ρ1 H1 nx1 w1 v H' nx' x w') : RetR CR ρ H nx w v H' nx' x w' := by
  obtain ⟨u, ρ', h1, h2, h3, h4, h5⟩ := h
  exact ⟨u, ρ', h1, h2, h3, he.trans h4 hn h5, by omega⟩

/-! ### Items -/
def Arr (P : Program) (rl : Option Nat) (items : List Item) (Q : Exit → Act → World → Prop) (a : Act) (w : World) : Prop :=
  ∀ (b : Frame) (k : List Item) (cs : List Frame), b.roundOf = rl → ∃ e a' w', Q e a' w' ∧ ArrivesIn (Machine.fenced P (Fr rl)) P (lone (b.atR a (items ++ k)) cs w) b k cs e a' w'

theorem Fr_room (rl : Option Nat) (n : Nat) : (Fr rl).room n := fun _ h => by simp [Fr, Fence.wide] at h

theorem Arr.wp {rl : Option Nat} {c : Code} {Q : Exit → Act → World → Prop} {a : Act} {w : World} (h : Arr P rl [.code c] Q a w) : c.wpIn (Fr rl) 0 P Q a w :=
  fun b k cs hb _ _ => h b k cs hb

theorem Arr.of_wp {rl : Option Nat} {c : Code} {Q : Exit → Act → World → Prop} {a : Act} {w : World} (h : c.wpIn (Fr rl) 0 P Q a w) : Arr P rl [.code c] Q a w :=
  fun b k cs hb => h b k cs hb trivial (Fr_room _ _)

theorem Arr.mono {rl : Option Nat} {items : List Item} {Q Q' : Exit → Act → World → Prop} {a : Act} {w : World} (h : Arr P rl items Q a w) (hq : ∀ e a w, Q e a w → Q' e a w) : Arr P rl items Q' a w :=
  fun b k cs hb => let ⟨e, a', w', q, r⟩ := h b k cs hb; ⟨e, a', w', hq _ _ _ q, r⟩

theorem fr_calm {rl : Option Nat} {m : Machine} : m.fenced P (Fr rl) := fenced_wide P m

section items
variable {b : Frame} {a : Act} {k : List Item} {cs : List Frame} {w : World}
theorem stepR_scope {c : Code} : step P (lone (b.atR a (.code (.scope c) :: k)) cs w) = .next (lone (b.atR a (.code c :: .inScope c :: k)) cs w) :=
  step_lone_go (by simp [stepG, stepG.exec, Frame.atR])
theorem stepR_inScope {c : Code} : step P (lone (b.atR a (.inScope c :: k)) cs w) = .next (lone (b.atR a k) cs w) :=
  step_lone_go (by simp [stepG, stepG.exec, Frame.atR])
end items

/-- A loop's round, and what comes behind it. -/
theorem arr_loop {rl : Option Nat} {c : Code} {Q Q1 : Exit → Act → World → Prop} {a : Act} {w : World} (h : Arr P rl [.code c] Q1 a w)
    (hn : ∀ a1 w1, Q1 .normal a1 w1 → Arr P rl [.inLoop c] Q a1 w1) (hq : ∀ e a1 w1, e ≠ .normal → Q1 e a1 w1 → Q e a1 w1) : Arr P rl [.code c, .inLoop c] Q a w := by
  intro b k cs hb
  obtain ⟨e, a1, w1, q, harr⟩ := h b (.inLoop c :: k) cs hb
  cases e with
  | normal =>
    obtain ⟨e2, a2, w2, q2, harr2⟩ := hn a1 w1 q b k cs hb
    exact ⟨e2, a2, w2, q2, .of_steps harr harr2⟩
  | exit id => exact ⟨_, a1, w1, hq _ _ _ (by simp) q, .pass (x := .inLoop c) rfl (fun _ _ => .inl (by simp)) harr⟩
  | goto l => exact ⟨_, a1, w1, hq _ _ _ (by simp) q, .pass (x := .inLoop c) rfl (fun _ _ => .inl (by simp)) harr⟩
  | ret => exact ⟨_, a1, w1, hq _ _ _ (by simp) q, .pass (x := .inLoop c) rfl (fun _ _ => .inl (by simp)) harr⟩
  | panic ch => exact ⟨_, a1, w1, hq _ _ _ (by simp) q, .pass (x := .inLoop c) rfl (fun _ _ => .inl (by simp)) harr⟩
  | outgrown => exact ⟨_, a1, w1, hq _ _ _ (by simp) q, .pass (x := .inLoop c) rfl (fun _ _ => .inl (by simp)) harr⟩

theorem arr_inLoop {rl : Option Nat} {c : Code} {Q : Exit → Act → World → Prop} {a : Act} {w : World} (h : Arr P rl [.code c, .inLoop c] Q a w) : Arr P rl [.inLoop c] Q a w := by
  intro b k cs hb
  obtain ⟨e, a1, w1, q, harr⟩ := h b k cs hb
  exact ⟨e, a1, w1, q, .of_steps (.one fr_calm stepR_inLoop) harr⟩

theorem arr_loop0 {rl : Option Nat} {c : Code} {Q : Exit → Act → World → Prop} {a : Act} {w : World} (h : Arr P rl [.code c, .inLoop c] Q a w) : Arr P rl [.code (.loop c)] Q a w := by
  intro b k cs hb
  obtain ⟨e, a1, w1, q, harr⟩ := h b k cs hb
  exact ⟨e, a1, w1, q, .of_steps (.one fr_calm stepR_loop) harr⟩

theorem arr_scope0 {rl : Option Nat} {c : Code} {Q : Exit → Act → World → Prop} {a : Act} {w : World} (h : Arr P rl [.code c, .inScope c] Q a w) : Arr P rl [.code (.scope c)] Q a w := by
  intro b k cs hb
  obtain ⟨e, a1, w1, q, harr⟩ := h b k cs hb
  exact ⟨e, a1, w1, q, .of_steps (.one fr_calm stepR_scope) harr⟩

/-- A scope: what its code leaves; a jump to a label of its own goes on there. -/
theorem arr_scope {rl : Option Nat} {body cur : Code} {Q Q1 : Exit → Act → World → Prop} {a : Act} {w : World} (h : Arr P rl [.code cur] Q1 a w)
    (hg : ∀ l a1 w1 r, Q1 (.goto l) a1 w1 → findLabel body l = some r → Arr P rl [.code r, .inScope body] Q a1 w1)
    (hq : ∀ e a1 w1, (∀ l, e = .goto l → findLabel body l = none) → Q1 e a1 w1 → Q e a1 w1) : Arr P rl [.code cur, .inScope body] Q a w := by
  intro b k cs hb
  obtain ⟨e, a1, w1, q, harr⟩ := h b (.inScope body :: k) cs hb
  cases e with
  | normal => exact ⟨.normal, a1, w1, hq _ _ _ (by simp) q, StepsIn.trans harr (.one fr_calm stepR_inScope)⟩
  | exit id =>
    have hx : exitTo id (.inScope body :: k) = exitTo id k := by simp [exitTo]
    exact ⟨_, a1, w1, hq _ _ _ (by simp) q, fun k' hk => harr.1 k' (by rw [hx]; exact hk), fun hr hk => harr.2 hr (by rw [hx]; exact hk)⟩
  | goto l =>
    cases hf : findLabel body l with
    | none =>
      have hx : gotoIn l (.inScope body :: k) = gotoIn l k := by simp [gotoIn, hf]
      exact ⟨_, a1, w1, hq _ _ _ (fun l' h => by cases h; exact hf) q, fun k' hk => harr.1 k' (by rw [hx]; exact hk), fun hr hk => harr.2 hr (by rw [hx]; exact hk)⟩
    | some r =>
      obtain ⟨e2, a2, w2, q2, harr2⟩ := hg l a1 w1 r q hf b k cs hb
      exact ⟨e2, a2, w2, q2, .of_steps (harr.1 (.code r :: .inScope body :: k) (by simp [gotoIn, hf])) harr2⟩
  | ret => exact ⟨_, a1, w1, hq _ _ _ (by simp) q, harr⟩
  | panic ch => exact ⟨_, a1, w1, hq _ _ _ (by simp) q, harr⟩
  | outgrown => exact ⟨_, a1, w1, hq _ _ _ (by simp) q, harr⟩

theorem wpOpsIn_mono' {F : Fence} {n : Nat} {ops : Array Oper} {Q Q' : Exit → Act → World → Prop} (hq : ∀ e a w, Q e a w → Q' e a w) : ∀ (l : List Nat) (a : Act) (w : World), wpOpsIn F n P ops Q l a w → wpOpsIn F n P ops Q' l a w
  | [], a, w, h => hq _ _ _ h
  | i :: rest, a, w, h => by
    simp only [wpOpsIn] at h ⊢
    cases ho : ops[i]? with
    | none => rw [ho] at h; exact wpOpsIn_mono' hq rest a w h
    | some o =>
      rw [ho] at h
      simp only at h ⊢
      split
      · rename_i hw
        rw [if_pos hw] at h
        refine ⟨h.1, ?_⟩
        have h2 := h.2
        generalize (o.semAt F.round a.eval).run P w = r at h2
        have lets : LetsOut Q → LetsOut Q' := fun ⟨a, w, h⟩ => ⟨a, w, hq _ _ _ h⟩
        unfold Oper.uponIn at h2 ⊢
        split <;> simp only at h2
        · exact wpOpsIn_mono' hq rest _ _ h2
        · exact wpOpsIn_mono' hq rest _ _ h2
        · exact wpOpsIn_mono' hq rest _ _ h2
        · refine ⟨h2.1, CallsIn.mono h2.2 fun e w'' he => ?_⟩
          cases e with
          | returned v => exact wpOpsIn_mono' hq rest _ _ he
          | panicked c => exact hq _ _ _ he
          | outgrown => exact lets he
        · exact ⟨h2.1, RowsIn.mono h2.2 fun v w'' he => wpOpsIn_mono' hq rest _ _ he⟩
        · refine ⟨h2.1, RoundIn.mono h2.2 fun e w'' he => ?_⟩
          cases e with
          | returned v => exact wpOpsIn_mono' hq rest _ _ he
          | panicked c => exact hq _ _ _ he
          | outgrown => exact lets he
        · exact hq _ _ _ h2
      · rename_i hw
        rw [if_neg hw] at h
        exact ⟨h.1, wpOpsIn_mono' hq rest _ _ h.2⟩

theorem DR.append {ρ : Rho} : ∀ {l l' : List Nat} {ds ds' : List Deferred}, DR ρ l ds → DR ρ l' ds' → DR ρ (l ++ l') (ds ++ ds')
  | [], _, [], _, _, h => h
  | _ :: _, _, _ :: _, _, ⟨h1, h2⟩, h => ⟨h1, DR.append h2 h⟩
  | [], _, _ :: _, _, hv, _ => hv.elim
  | _ :: _, _, [], _, hv, _ => hv.elim

/-! ### Labels -/
variable {D : Nat → Nat → Array Oper → Nat → List XDop → List (Nat × XE) → Bool}

theorem findL_sound (l : Nat) : ∀ (c : XCode) (code : Code), CRel P D K nt code c →
    (∀ r, findL c l = some r → ∃ r', findLabel code l = some r' ∧ CRel P D K nt r' r) ∧ (findL c l = none → findLabel code l = none) := by
  intro c
  induction c with
  | seq a b iha ihb =>
    intro code h
    simp only [CRel, chkCode] at h
    split at h
    · rename_i a' b'
      simp only [Bool.and_eq_true] at h
      obtain ⟨ha1, ha2⟩ := iha a' h.1
      obtain ⟨hb1, hb2⟩ := ihb b' h.2
      simp only [findL, findLabel]
      cases hf : findL a l with
      | some r =>
        obtain ⟨r', h1, h2⟩ := ha1 r hf
        rw [h1]
        refine ⟨fun r0 h0 => ?_, fun h0 => by simp at h0⟩
        simp only [Option.some.injEq] at h0
        subst h0
        exact ⟨_, rfl, by simp only [CRel, chkCode, Bool.and_eq_true]; exact ⟨h2, h.2⟩⟩
      | none =>
        rw [ha2 hf]
        exact ⟨hb1, hb2⟩
    · cases h
  | label l' =>
    intro code h
    simp only [CRel, chkCode] at h
    split at h
    · rename_i l2
      rw [beq_iff] at h
      subst h
      simp only [findL, findLabel]
      by_cases e : l' = l
      · subst e
        rw [(beq_iff l' l').2 rfl]
        simp only [cond_true, beq_self_eq_true, if_true]
        exact ⟨fun r h => by simp only [Option.some.injEq] at h; subst h; exact ⟨_, rfl, rfl⟩, fun h => by simp at h⟩
      · rw [(beq_false l' l).2 e]
        have : (l' == l) = false := by simpa using e
        simp [this]
    · cases h
  | _ =>
    intro code h
    simp only [CRel, chkCode] at h
    try (split at h)
    all_goals first
      | (cases h; done)
      | (simp [findL, findLabel]; done)

/-! ### Slots -/
theorem TR.set {T : Tr XV} {tmps : Array Value} (h : TR ρ K T tmps) {v : XV} {x : Value} (hv : VR ρ v x) {t : Nat} (ht : t < tmps.size) : TR ρ K (Tr.set v T t) (tmps.setIfInBounds t x) := by
  intro j hj
  rw [getD_set ht]
  by_cases e : t = j
  · subst e
    rw [if_pos rfl]
    rcases get_set_same (x := v) T t with h1 | h1
    · rw [h1]; exact hv
    · rw [h1]; simp [VR]
  · rw [if_neg e, Tr.get_set_ne _ _ _ _ _ (fun h => e h.symm)]
    exact h j hj

theorem setps_sound : ∀ (ps : List Nat) (as : List XV) (args : List Value) (T : Tr XV) (tmps : Array Value), as.length = ps.length → VRL ρ as args → (∀ t ∈ ps, t < tmps.size) → TR ρ K T tmps →
    TR ρ K (setps T ps as) ((ps.zip args).foldl (fun tmps (p : Nat × Value) => tmps.setIfInBounds p.1 p.2) tmps) ∧ ((ps.zip args).foldl (fun tmps (p : Nat × Value) => tmps.setIfInBounds p.1 p.2) tmps).size = tmps.size
  | [], [], [], T, tmps, _, _, _, h => ⟨h, rfl⟩
  | p :: ps, a :: as, x :: args, T, tmps, hl, ⟨h1, h2⟩, hb, h => by
    simp only [List.zip_cons_cons, List.foldl_cons, setps]
    have := setps_sound ps as args (Tr.set a T p) (tmps.setIfInBounds p x) (by simpa using hl) h2 (fun t ht => by simpa using hb t (List.mem_cons_of_mem _ ht)) (h.set h1 (hb p (by simp)))
    exact ⟨this.1, by rw [this.2]; simp⟩
  | [], _ :: _, _, _, _, hl, _, _, _ => by simp at hl
  | _ :: _, [], _, _, _, hl, _, _, _ => by simp at hl
  | [], [], _ :: _, _, _, _, hv, _, _ => hv.elim
  | _ :: _, _ :: _, [], _, _, _, hv, _, _ => hv.elim

theorem args_sound : ∀ (as : List XV) (i : Nat) (T : Tr XV) (j : Nat), Tr.get .unk (args as i T) j = Tr.get .unk T j ∨ Tr.get .unk (args as i T) j = .unk ∨ (i ≤ j ∧ as[j - i]? = some (Tr.get .unk (args as i T) j))
  | [], i, T, j => .inl rfl
  | a :: as, i, T, j => by
    simp only [args]
    have e : Nat.add i 1 = i + 1 := rfl
    rw [e]
    rcases args_sound as (i + 1) (Tr.set a T i) j with h | h | ⟨h1, h2⟩
    · rw [h]
      by_cases e : j = i
      · subst e
        rcases get_set_same (x := a) T j with h1 | h1
        · right; right; rw [h1]; simp
        · right; left; exact h1
      · left; exact Tr.get_set_ne _ _ _ _ _ e
    · exact .inr (.inl h)
    · refine .inr (.inr ⟨by omega, ?_⟩)
      have : j - i = (j - (i + 1)) + 1 := by omega
      rw [this, List.getElem?_cons_succ]
      exact h2

theorem enter_slots {as : List XV} {l : List Value} (h : VRL ρ as l) {blank : Tr XV} (hb : ∀ t, Tr.get .unk blank t = .unk) (n : Nat) : TR ρ K (args as 0 blank) ((⟨l⟩ : Array Value) ++ Array.replicate (n - (⟨l⟩ : Array Value).size) undef) := by
  intro j _
  rcases args_sound as 0 blank j with h1 | h1 | ⟨_, h1⟩
  · rw [h1, hb]; simp [VR]
  · rw [h1]; simp [VR]
  · rw [Nat.sub_zero] at h1
    obtain ⟨x, h2, h3⟩ := VRL.get h h1
    have hl : j < l.length := (List.getElem?_eq_some_iff.1 h2).1
    rw [Array.getD_eq_getD_getElem?, Array.getElem?_append_left (by simpa using hl)]
    have : (⟨l⟩ : Array Value)[j]? = some x := by simpa using h2
    rw [this]
    exact h3

/-! ### Results -/
def resOk (P : Program) (K : Nat) : List XRes → List ResultVar → Bool
  | [], [] => true
  | .t t :: r, .tmp t' :: r' => Nat.beq t t' && K.testBit t && resOk P K r r'
  | .cell t n ag :: r, .cell t' ty :: r' => Nat.beq t t' && K.testBit t && szIs P ty n && aggIs P ty ag && (ag || Nat.beq n 1) && resOk P K r r'
  | _, _ => false

theorem ress_sound {T : Tr XV} {H : Tr XO} {tmps : Array Value} {nx : Nat} {w : World} (hh : HR CR ρ H nx w) (ht : TR ρ K T tmps) :
    ∀ (rs : List XRes) (vs : List ResultVar) (us : List XV), resOk P K rs vs = true → ress T H rs = some us → ∃ l, (∀ (f : ResultVar → Sem Value) (hf1 : ∀ t, f (.tmp t) = pure (tmps.getD t undef)) (hf2 : ∀ t ty, f (.cell t ty) = (do loadVar ty (← asAddr (tmps.getD t undef)))), (vs.mapM f).run P w = .ok l w) ∧ VRL ρ us l
  | [], [], us, _, h => by
    simp only [ress, Option.some.injEq] at h
    subst h
    exact ⟨[], fun _ _ _ => rfl, trivial⟩
  | r :: rs, v :: vs, us, hc, h => by
    simp only [ress] at h
    split at h
    · rename_i u us' hu hus
      cases h
      have key : ∃ x, (∀ (f : ResultVar → Sem Value) (hf1 : ∀ t, f (.tmp t) = pure (tmps.getD t undef)) (hf2 : ∀ t ty, f (.cell t ty) = (do loadVar ty (← asAddr (tmps.getD t undef)))), (f v).run P w = .ok x w) ∧ VR ρ u x ∧ resOk P K rs vs = true := by
        cases r with
        | t t =>
          cases v with
          | tmp t' =>
            simp only [resOk, Bool.and_eq_true, beq_iff] at hc
            obtain ⟨⟨rfl, h1⟩, h2⟩ := hc
            simp only [res1, Option.some.injEq] at hu
            subst hu
            exact ⟨_, fun f hf1 hf2 => by rw [hf1]; rfl, ht t h1, h2⟩
          | cell _ _ => simp [resOk] at hc
        | cell t n ag =>
          cases v with
          | tmp _ => simp [resOk] at hc
          | cell t' ty =>
            simp only [resOk, Bool.and_eq_true, beq_iff] at hc
            obtain ⟨⟨⟨⟨⟨rfl, h1⟩, h2⟩, h3⟩, h4⟩, h5⟩ := hc
            simp only [res1] at hu
            obtain ⟨b, o, y, he, ⟨A, hA, hl⟩, hy⟩ := xload_sound (P := P) hh hu (ht t h1) h2 h3 h4
            refine ⟨y, fun f hf1 hf2 => ?_, hy, h5⟩
            rw [hf2, hA]
            simp [asAddr, hl]
      obtain ⟨x, h1, h2, h3⟩ := key
      obtain ⟨l, h4, h5⟩ := ress_sound hh ht rs vs us' h3 hus
      exact ⟨x :: l, fun f hf1 hf2 => by simp only [List.mapM_cons, Sem.run_bind, h1 f hf1 hf2, Result.andThen_ok, h4 f hf1 hf2, Sem.run_pure], h2, h5⟩
    · cases h
  | [], _ :: _, _, hc, _ => by simp [resOk] at hc
  | r :: _, [], _, hc, _ => by cases r <;> simp [resOk] at hc

theorem results_sound {T : Tr XV} {H : Tr XO} {tmps : Array Value} {nx : Nat} {w : World} (hh : HR CR ρ H nx w) (ht : TR ρ K T tmps) {fn : Func} {rs : List XRes} (hc : resOk P K rs fn.results.toList = true) {v : XV} (h : resv T H rs = some v) :
    ∃ x, (results fn tmps).run P w = .ok x w ∧ VR ρ v x := by
  unfold resv at h
  split at h
  · rename_i us hus
    simp only [Option.some.injEq] at h
    subst h
    unfold results
    simp only [Sem.run_bind]
    rw [Array.mapM_eq_mapM_toList, Sem.run_map]
    obtain ⟨l, h1, h2⟩ := ress_sound (P := P) hh ht rs fn.results.toList us hc hus
    rw [h1 _ (fun _ => rfl) (fun _ _ => rfl)]
    simp only [Result.andThen_ok, Sem.run_pure]
    refine ⟨_, rfl, ?_⟩
    cases us with
    | nil =>
      cases l with
      | nil => simp only [tupOf, VR]; exact ⟨[], rfl, trivial⟩
      | cons _ _ => exact h2.elim
    | cons u us =>
      cases l with
      | nil => exact h2.elim
      | cons x l =>
        obtain ⟨h3, h4⟩ := h2
        cases us with
        | nil =>
          cases l with
          | nil => exact h3
          | cons _ _ => exact h4.elim
        | cons u2 us =>
          cases l with
          | nil => exact h4.elim
          | cons x2 l =>
            simp only [tupOf, VR]
            refine ⟨x :: x2 :: l, ?_, h3, h4⟩
            rw [dif_neg (by simp)]
  · cases h

/-! ### The marks of loops over functions -/
/-- A block that X no longer knows is changed. -/
theorem HR.killWrite {H : Tr XO} {nx : Nat} {w : World} (hh : HR CR ρ H nx w) {b : Nat} {L : Loc} (hb : wrt (hget H b)) (hp : parOf (hget H b) = []) (hL : ρ b = some L) (obj : Obj) (lo : Nat) :
    HR CR ρ (Tr.set .dead H b) nx { w with heap := w.heap.setIfInBounds L.blk obj } ∧ Ext lo ρ H w ρ (Tr.set .dead H b) nx { w with heap := w.heap.setIfInBounds L.blk obj } := by
  have hbt : b < trMax := Nat.lt_of_lt_of_le (hh.lt (wrt_alive hb)) hh.lim
  have hg : ∀ x, hget (Tr.set XO.dead H b) x = if x = b then .dead else hget H x := fun x => hget_set hh.full hbt x
  have hwo : ∀ B, B ≠ L.blk → (w.heap.setIfInBounds L.blk obj)[B]? = w.heap[B]? := fun B hB => by
    rw [Array.getElem?_setIfInBounds, if_neg (fun e => hB e.symm)]
  constructor
  · refine ⟨Tr.full_set _ _ _ _ hh.full, hh.lim, fun x hx => ?_, hh.nul, fun x hx => ?_, fun x y L1 L2 hne hw1 ha h1 h2 he => ?_⟩
    · rw [hg x]; split
      · rfl
      · exact hh.fresh x hx
    · rw [hg x] at hx ⊢
      by_cases e : x = b
      · simp [e] at hx
      · rw [if_neg e] at hx ⊢
        obtain ⟨L0, o0, q1, q2, q3⟩ := hh.objs x hx
        refine ⟨L0, o0, q1, ?_, q3⟩
        show (w.heap.setIfInBounds L.blk obj)[L0.blk]? = _
        rw [hwo _ ?_]
        · exact q2
        · intro he
          have := (hh.sep b x L L0 (fun h => e h.symm) hb hx hL q1 he.symm).2
          rw [hp] at this; simp at this
    · rw [hg x] at hw1 ⊢
      rw [hg y] at ha ⊢
      by_cases e : x = b
      · rw [if_pos e] at hw1; exact hw1.elim
      · rw [if_neg e] at hw1 ⊢
        by_cases e' : y = b
        · rw [if_pos e'] at ha; exact absurd rfl ha
        · rw [if_neg e'] at ha ⊢
          exact hh.sep x y L1 L2 hne hw1 ha h1 h2 he
  · refine ⟨Rho.le_refl _, fun _ _ h => .inl h, by simp, fun B _ hn => hwo B (fun e => hn b L hb hL e.symm), fun x L0 hx h0 => ?_, fun x L0 hx h0 => ?_, rfl, rfl⟩
    · rw [hg x] at hx
      by_cases e : x = b
      · rw [if_pos e] at hx; exact hx.elim
      · rw [if_neg e] at hx; exact .inr ⟨x, L0, hx, h0, rfl⟩
    · rw [hg x] at hx
      by_cases e : x = b
      · rw [if_pos e] at hx; exact absurd rfl hx
      · rw [if_neg e] at hx; exact .inr ⟨x, L0, hx, h0, rfl⟩

theorem leaves_sound' {fn : Func} {rs : List XRes} {T' : Tr XV} {tmps : Array Value} {v : XV} {H' : Tr XO} {nx0 nx : Nat} {ρ0 : Rho} {H0 : Tr XO} {w0 : World} (hc : resOk P K rs fn.results.toList = true) (ht : TR ρ K T' tmps) (hn : nx0 ≤ nx)
    (hv : resv T' H' rs = some v) :
    ∀ (dl : List Nat) (ds : List Deferred) (H : Tr XO) (w : World), shuts H dl = some H' → DR ρ dl ds → HR CR ρ H nx w → Ext nx0 ρ0 H0 w0 ρ H nx w →
      LeavesInM Fence.wide 0 P fn tmps (RetR CR ρ0 H0 nx0 w0 v H' nx) ds .returning w
  | [], [], H, w, hs, _, hh, he => by
    simp only [shuts, Option.some.injEq] at hs
    subst hs
    obtain ⟨x, h1, h2⟩ := results_sound (P := P) hh ht hc hv
    exact ⟨x, h1, x, ρ, rfl, h2, hh, he, hn⟩
  | b :: dl, d :: ds, H, w, hs, ⟨⟨L, hL, hd⟩, hds⟩, hh, he => by
    simp only [shuts] at hs
    split at hs
    · rename_i hb
      obtain ⟨obj, ho, hor, hlt⟩ := hh.objAt (b := b) (by rw [hb]; simp) hL
      rw [hb] at hor
      cases obj <;> simp only [OR] at hor
      subst hor
      have hwb : wrt (hget H b) := by rw [hb]; trivial
      have hpb : parOf (hget H b) = [] := by rw [hb]; rfl
      obtain ⟨k1, k2⟩ := hh.killWrite hwb hpb hL (.deferred none) nx
      have hg := run_getObj (P := P) ho (by intros; simp)
      have hso := run_setObj' (P := P) (w := w) (r := L.blk) (o' := .deferred none) ho (by intros; simp)
      refine ⟨by simp, .inl ⟨L.blk, _, hd, ?_, leaves_sound' hc ht hn hv dl ds _ _ hs hds k1 (he.trans k2 hn (Nat.le_refl _))⟩⟩
      simp only [Instr.takeDeferred, Sem.run_bind, hg, Result.andThen_ok, hso, Sem.run_pure]
    · cases hs
  | [], _ :: _, _, _, _, hv, _, _ => hv.elim
  | _ :: _, [], _, _, _, hv, _, _ => hv.elim
end
end Go.X
/- The walk of code: X's answer is the model's. -/
namespace Go.X
set_option linter.unusedVariables false
set_option linter.unusedSimpArgs false
section
variable {P : Program} {D : Nat → Nat → Array Oper → Nat → List XDop → List (Nat × XE) → Bool}

abbrev Ih := Option Nat → XCode → Tr XV → Tr XO → Nat → List Nat → XS

def RO (ρ : Rho) : Option Nat → Option Nat → Prop
  | none, none => True
  | some l, some B => ∃ L, ρ l = some L ∧ L.blk = B
  | _, _ => False

theorem RO.mono {ρ ρ' : Rho} (h : ρ.le ρ') : ∀ {ro rl : Option Nat}, RO ρ ro rl → RO ρ' ro rl
  | none, none, _ => trivial
  | some _, some _, ⟨L, h1, h2⟩ => ⟨L, h _ _ h1, h2⟩
  | none, some _, hv => hv.elim
  | some _, none, hv => hv.elim

/-- What is shown of each level. -/
def ExecOk (P : Program) (D : Nat → Nat → Array Oper → Nat → List XDop → List (Nat × XE) → Bool) (ih : Ih) : Prop :=
  ∀ ro c T H nx dl e T' H' nx' dl', ih ro c T H nx dl = .ok e T' H' nx' dl' →
    ∀ K nt ρ w (a : Act) rl, RO ρ ro rl → HR (CRel P D) ρ H nx w → TR ρ K T a.tmps → nt ≤ a.tmps.size → DR ρ dl a.defers →
      (∀ code, CRel P D K nt code c → Arr P rl [.code code] (Post (CRel P D) K nt ρ H nx w e T' H' nx' dl') a w) ∧
      (∀ code b, c = .loop b → CRel P D K nt code b → Arr P rl [.inLoop code] (Post (CRel P D) K nt ρ H nx w e T' H' nx' dl') a w) ∧
      (∀ body cur b cr, c = .scopeAt b cr → CRel P D K nt body b → CRel P D K nt cur cr → Arr P rl [.code cur, .inScope body] (Post (CRel P D) K nt ρ H nx w e T' H' nx' dl') a w)

/-- A function's code. -/
def FnOk (P : Program) (D : Nat → Nat → Array Oper → Nat → List XDop → List (Nat × XE) → Bool) (f : Nat) (fn : XFunc) : Prop :=
  ∃ fn' body, P.funcs[f]? = some fn' ∧ fn'.body = some body ∧ (fn'.name == "runtime.NumGoroutine") = false ∧ fn'.ntmps = fn.nt ∧ CRel P D fn.keep fn.nt body fn.body ∧
    (∀ t, Tr.get .unk fn.blank t = .unk) ∧ resOk P fn.keep fn.res fn'.results.toList = true

/-- The functions without such code. -/
def ExtOk (P : Program) (D : Nat → Nat → Array Oper → Nat → List XDop → List (Nat × XE) → Bool) (F : FT) : Prop :=
  ∀ (ih : Ih) f as H nx v H' nx', (∀ fn, F f ≠ some (.code fn)) → enter F ih f as H nx = .ok v H' nx' → ∀ ρ w args, HR (CRel P D) ρ H nx w → VRL ρ as args → OpRes P (CRel P D) ρ H nx w (callFunc f ⟨args⟩) v H' nx'

/-- Regions whose order is drawn. -/
def DrawOk (P : Program) (D : Nat → Nat → Array Oper → Nat → List XDop → List (Nat × XE) → Bool) (F : FT) : Prop :=
  ∀ (ih : Ih), CallOk P (CRel P D) F ih → RoundOk P (CRel P D) ih → ∀ K nt all news xs upd, D K nt all news xs upd = true → ∀ T dl H nx e T' H' nx' dl', Nat.add nx news < trMax →
    dops F ih T upd dl nx xs [] H (Nat.add nx news) [H] = .ok e T' H' nx' dl' → ∀ ρ w (a : Act) rl, HR (CRel P D) ρ H nx w → TR ρ K T a.tmps → nt ≤ a.tmps.size → DR ρ dl a.defers →
      ∀ t, wpOpsIn (Fr rl) 0 P all (Post (CRel P D) K nt ρ H nx w e T' H' nx' dl') (Region.schedule (P.follows .mixedOrders) all t) a w

theorem enterc_sound {ih : Ih} (hI : ExecOk P D ih) {f : Nat} {fn : XFunc} (hf : FnOk P D f fn) {as : List XV} {H : Tr XO} {nx : Nat} {v : XV} {H' : Tr XO} {nx' : Nat} (hx : enterc ih fn as H nx = .ok v H' nx') {ρ : Rho} {w : World} {args : List Value}
    (hh : HR (CRel P D) ρ H nx w) (ha : VRL ρ as args) : CallsIn Fence.wide 0 P f ⟨args⟩ w (RetR (CRel P D) ρ H nx w v H' nx') := by
  obtain ⟨fn', body, h1, h2, h3, h4, h5, h6, h7⟩ := hf
  unfold enterc at hx
  obtain ⟨hlen, hx⟩ := bif_ok hx
  rw [ble_iff] at hlen
  have hal := VRL.length ha
  split at hx
  · rename_i e T1 H1 nx1 dl1 hex
    refine callsIn_of_wp_marks h1 h2 trivial ?_ rfl
    have hsz : fn.nt ≤ ((⟨args⟩ : Array Value) ++ Array.replicate (fn'.ntmps - (⟨args⟩ : Array Value).size) undef).size := by
      simp only [Array.size_append, Array.size_replicate, List.size_toArray, h4]; omega
    have := ((hI none fn.body _ H nx [] e T1 H1 nx1 dl1 hex fn.keep fn.nt ρ w { tmps := (⟨args⟩ : Array Value) ++ Array.replicate (fn'.ntmps - (⟨args⟩ : Array Value).size) undef, defers := [] } none trivial hh
      (enter_slots ha h6 _) hsz trivial).1 body h5).wp
    refine wpIn_mono this ?_
    rintro e' a' w' ⟨ρ', g1, g2, g3, g4, g5, g6, g7⟩
    have fin : (e = .normal ∨ e = .ret) → LeavesInM Fence.wide 0 P fn' a'.tmps (RetR (CRel P D) ρ H nx w v H' nx') a'.defers .returning w' := by
      intro he
      have hx' : (match shuts H1 dl1 with | some H => XR.of (resv T1 H fn.res) H nx1 | none => .no) = .ok v H' nx' := by
        rcases he with rfl | rfl <;> exact hx
      split at hx'
      · rename_i H2 hs
        cases hv : resv T1 H2 fn.res with
        | none => rw [hv] at hx'; cases hx'
        | some u =>
          rw [hv] at hx'
          cases hx'
          exact leaves_sound' h7 g4 g7 hv dl1 a'.defers H1 w' hs g6 g2 g3
      · cases hx'
    cases e <;> cases e' <;> simp only [ExR] at g1
    · exact fin (.inl rfl)
    · cases hx
    · cases hx
    · exact fin (.inr rfl)
  · cases hx

theorem callOk_of {F : FT} {ih : Ih} (hI : ExecOk P D ih) (hF : ∀ f fn, F f = some (.code fn) → FnOk P D f fn) (hX : ExtOk P D F) : CallOk P (CRel P D) F ih := by
  intro f as H nx v H' nx' hx ρ w args hh ha
  cases hf : F f with
  | none => exact hX ih f as H nx v H' nx' (by simp [hf]) hx ρ w args hh ha
  | some x =>
    cases x with
    | code fn =>
      have hx' : enterc ih fn as H nx = .ok v H' nx' := by simpa [enter, hf] using hx
      have hfn := hF f fn hf
      refine .inr (.inl ⟨f, ⟨args⟩, ?_, enterc_sound hI hfn hx' hh ha⟩)
      obtain ⟨fn', body, h1, h2, h3, _⟩ := hfn
      have h3' : ¬ fn'.name = "runtime.NumGoroutine" := by simpa using h3
      simp [callFunc, h1, h2, h3']
    | ins sz => exact hX ih f as H nx v H' nx' (by simp [hf]) hx ρ w args hh ha
    | f64bits => exact hX ih f as H nx v H' nx' (by simp [hf]) hx ρ w args hh ha

theorem loop_at {ρ : Rho} {H : Tr XO} {nx : Nat} {w : World} (hh : HR (CRel P D) ρ H nx w) {l : Nat} {r : XLoop} (hl : hget H l = .loop r) {L : Loc} (hL : ρ l = some L) :
    ∃ rr, w.heap[L.blk]? = some (.loop rr) ∧ OR (CRel P D) ρ (.loop r) L (.loop rr) ∧ L.blk < w.heap.size ∧ (Instr.getLoop L.blk).run P w = .ok rr w ∧
      (∀ o', (setObj L.blk o').run P w = .ok () { w with heap := w.heap.setIfInBounds L.blk o' }) := by
  obtain ⟨obj, ho, hor, hlt⟩ := hh.objAt (b := l) (by rw [hl]; simp) hL
  rw [hl] at hor
  cases obj <;> try (simp only [OR] at hor; done)
  rename_i rr
  refine ⟨rr, ho, hor, hlt, ?_, fun o' => run_setObj' ho (by intros; simp)⟩
  have hg := run_getObj (P := P) ho (by intros; simp)
  simp [Instr.getLoop, hg]

theorem setLoop_sound {ρ : Rho} {H : Tr XO} {nx : Nat} {w : World} (hh : HR (CRel P D) ρ H nx w) {l : Nat} {r : XLoop} (hl : hget H l = .loop r) {L : Loc} (hL : ρ l = some L) {rr : Loop} (hor : OR (CRel P D) ρ (.loop r) L (.loop rr)) (hlt : L.blk < w.heap.size)
    {st : LoopState} {p : Option XExit} {q : Option Code} (hp : PR p q) (lo : Nat) :
    HR (CRel P D) ρ (Tr.set (.loop { r with state := st, pend := p }) H l) nx { w with heap := w.heap.setIfInBounds L.blk (.loop { rr with state := st, pending := q }) } ∧
    Ext lo ρ H w ρ (Tr.set (.loop { r with state := st, pend := p }) H l) nx { w with heap := w.heap.setIfInBounds L.blk (.loop { rr with state := st, pending := q }) } := by
  refine obj_write hh (by rw [hl]; trivial) (by rw [hl]; rfl) hL ?_ hlt lo
  simp only [OR] at hor ⊢
  obtain ⟨h1, h2, h3, h4, h5⟩ := hor
  exact ⟨trivial, hp, h3, h4, h5⟩

theorem roundOk_of {ih : Ih} (hI : ExecOk P D ih) : RoundOk P (CRel P D) ih := by
  intro l as H nx v H' nx' hx ρ w args L hh hL ha
  unfold round at hx
  split at hx
  · rename_i r hl
    obtain ⟨hlen, hx⟩ := bif_ok hx
    rw [beq_iff] at hlen
    obtain ⟨rr, hw, hor, hlt, hget, hset⟩ := loop_at hh hl hL
    have hor' := hor
    simp only [OR] at hor'
    obtain ⟨_, _, hps, _, K, nt, hnt, htr, hca, hcb, hpl⟩ := hor'
    have hal := VRL.length ha
    have hfold : (rr.params.zip (⟨args⟩ : Array Value)).foldl (fun tmps (x : Tmp × Value) => tmps.setIfInBounds x.1 x.2) rr.tmps = (r.ps.zip args).foldl (fun tmps (p : Nat × Value) => tmps.setIfInBounds p.1 p.2) rr.tmps := by
      rw [← Array.foldl_toList, Array.toList_zip, hps]
    obtain ⟨s1, s2⟩ := setps_sound (K := K) r.ps as args r.T rr.tmps hlen ha (fun t ht => by have := hpl t ht; omega) htr
    refine .inr (.inr ⟨L.blk, rr.fn, _, rr.assign, rr.body, ?_, roundIn_of_wpIn (F := Fence.wide) (tmps := (r.ps.zip args).foldl (fun tmps (p : Nat × Value) => tmps.setIfInBounds p.1 p.2) rr.tmps) trivial ?_⟩)
    · have hsz : (⟨args⟩ : Array Value).size = rr.params.size := by
        rw [List.size_toArray, hal, hlen, ← hps, Array.length_toList]
      simp only [Instr.yield, Sem.run_bind, hget, Result.andThen_ok]
      rw [if_neg (by rw [hsz]; simp)]
      simp only [Sem.run_pure]
      rw [← hfold]
    · split at hx
      · rename_i T1 H1 nx1 hex
        have hw1 := ((hI (some l) r.a _ H nx [] .normal T1 H1 nx1 [] hex K nt ρ w { tmps := (r.ps.zip args).foldl (fun tmps (p : Nat × Value) => tmps.setIfInBounds p.1 p.2) rr.tmps, defers := [] } (some L.blk) ⟨L, hL, rfl⟩ hh s1
          (by rw [s2]; exact hnt) trivial).1 rr.assign hca).wp
        refine wpIn_mono hw1 ?_
        rintro e1 a1 w1 ⟨ρ1, g1, g2, g3, g4, g5, g6, g7⟩
        cases e1 <;> simp only [ExR] at g1
        split at hx
        · rename_i r1 hl1
          split at hx
          · rename_i hst
            have hL1 := g3.le l L hL
            obtain ⟨rr1, hw1', hor1, hlt1, hget1, hset1⟩ := loop_at g2 hl1 hL1
            have hst1 : rr1.state = .ready := by
              have := hor1; simp only [OR] at this; rw [← this.1]; exact hst
            have hpend1 : PR r1.pend rr1.pending := by
              have := hor1; simp only [OR] at this; exact this.2.1
            obtain ⟨k1, k2⟩ := setLoop_sound g2 hl1 hL1 hor1 hlt1 (st := .busy) hpend1 nx
            split at hx
            · rename_i e T2 H2 nx2 hex2
              have hbegin : (Instr.beginRound L.blk).run P w1 = .ok () { w1 with heap := w1.heap.setIfInBounds L.blk (.loop { rr1 with state := .busy, pending := rr1.pending }) } := by
                simp only [Instr.beginRound, Sem.run_bind, hget1, Result.andThen_ok, hset1, hst1, Sem.run_pure]
              refine ⟨_, hbegin, ?_⟩
              have hx2 : Ext nx ρ H w ρ1 (setLoop H1 l r1 .busy r1.pend) nx1 { w1 with heap := w1.heap.setIfInBounds L.blk (.loop { rr1 with state := .busy, pending := rr1.pending }) } := g3.trans k2 (Nat.le_refl _) (Nat.le_refl _)
              have hw2 := ((hI (some l) r.b T1 (setLoop H1 l r1 .busy r1.pend) nx1 [] e T2 H2 nx2 [] hex2 K nt ρ1 _ a1 (some L.blk) ⟨L, hL1, rfl⟩ k1 g4 g5 g6).1 rr.body hcb).wp
              refine wpIn_mono hw2 ?_
              rintro e2 a2 w2 ⟨ρ2, q1, q2, q3, q4, q5, q6, q7⟩
              have hL2 := q3.le l L hL1
              split at hx
              · rename_i r3 hl3
                obtain ⟨rr3, hw3, hor3, hlt3, hget3, hset3⟩ := loop_at q2 hl3 hL2
                have hx3 := hx2.trans q3 g7 q7
                have fin : ∀ (st : LoopState) (p : Option XExit) (q : Option Code) (bb : Bool), PR p q → XR.ok (.bool bb) (setLoop H2 l r3 st p) nx2 = .ok v H' nx' → st = (if q.isNone then .ready else .done) → bb = q.isNone →
                    ∃ u w', (Instr.endRound L.blk q).run P w2 = .ok u w' ∧ RetR (CRel P D) ρ H nx w v H' nx' (.returned u) w' := by
                  intro st p q bb hp hv hst' hbb
                  cases hv
                  obtain ⟨m1, m2⟩ := setLoop_sound q2 hl3 hL2 hor3 hlt3 (st := st) hp nx
                  refine ⟨.bool q.isNone, _, ?_, .bool q.isNone, ρ2, rfl, by simp only [VR]; rw [hbb], m1, hx3.trans m2 (Nat.le_refl _) (Nat.le_refl _), by omega⟩
                  simp only [Instr.endRound, Sem.run_bind, hget3, Result.andThen_ok, hset3, Sem.run_pure, hst']
                cases e with
                | normal => cases e2 <;> simp only [ExR] at q1; exact fin .ready none none true trivial hx rfl rfl
                | exit i => cases e2 <;> simp only [ExR] at q1; subst q1; exact fin .done (some (.exit i)) (some (.exit i)) false rfl hx rfl rfl
                | goto i => cases e2 <;> simp only [ExR] at q1; subst q1; exact fin .done (some (.goto i)) (some (.goto i)) false rfl hx rfl rfl
                | ret => cases e2 <;> simp only [ExR] at q1; exact fin .done (some .ret) (some .ret) false trivial hx rfl rfl
              · cases hx
            · cases hx
          · cases hx
        · cases hx
      · cases hx
  · cases hx
end
end Go.X
/- The walk of code: every level. -/
namespace Go.X
set_option linter.unusedVariables false
set_option linter.unusedSimpArgs false
section
variable {P : Program} {D : Nat → Nat → Array Oper → Nat → List XDop → List (Nat × XE) → Bool}

theorem xs_ok {e e' : XExit} {T T' : Tr XV} {H H' : Tr XO} {nx nx' : Nat} {dl dl' : List Nat} (h : XS.ok e T H nx dl = .ok e' T' H' nx' dl') : e = e' ∧ T = T' ∧ H = H' ∧ nx = nx' ∧ dl = dl' := by
  cases h; exact ⟨rfl, rfl, rfl, rfl, rfl⟩

theorem op_ev {ρ : Rho} {K : Nat} {T : Tr XV} {a : Act} (ht : TR ρ K T a.tmps) {x : Operand} {e : XE} (h : alOk K 0 (alOf [] x) e = true) : VR ρ (e.ev T []) (a.eval x) := by
  have hr : RegR ρ [] 0 a.tmps [] a.tmps := fun t => by simp [findA]
  exact hr.ev ht x e h

/-- What a loop over a function needs laid. -/
theorem enterLoop_sound {ρ : Rho} {ro rl : Option Nat} (hro : RO ρ ro rl) {H : Tr XO} {nx : Nat} {w : World} (hh : HR (CRel P D) ρ H nx w) {T : Tr XV} {K nt : Nat} {tmps : Array Value} (ht : TR ρ K T tmps) (hs : nt ≤ tmps.size) {ps : List Nat} {qs : Array Tmp} (hps : ps = qs.toList) (hp : ∀ t ∈ ps, t < nt)
    {a b : XCode} {assign body : Code} (ha : CRel P D K nt assign a) (hb : CRel P D K nt body b) {l : Nat} {mk : List Nat} {H1 : Tr XO} {nx1 : Nat} (hx : enterLoop ro T ps a b H nx = some (l, mk, H1, nx1)) (fn : FuncId) :
    ∃ B mark w1 ρ1, (Instr.enterLoop fn tmps qs assign body rl).run P w = .ok (B, mark) w1 ∧ HR (CRel P D) ρ1 H1 nx1 w1 ∧ Ext nx ρ H w ρ1 H1 nx1 w1 ∧ nx ≤ nx1 ∧ (∃ L, ρ1 l = some L ∧ L.blk = B) ∧ DR ρ1 mk mark := by
  unfold enterLoop at hx
  obtain ⟨hlim, hx⟩ := bif_some hx
  rw [blt_iff] at hlim
  have hlim' : nx + 1 < trMax := hlim
  have hdead : hget H nx = .dead := hh.fresh nx (Nat.le_refl _)
  have hnone : ρ nx = none := hh.nul nx (Nat.le_refl _)
  cases ro with
  | some l0 =>
    cases rl with
    | none => exact hro.elim
    | some B0 =>
      obtain ⟨L0, hL0, rfl⟩ := hro
      simp only at hx
      split at hx
      · rename_i r hr
        simp only [Option.some.injEq, Prod.mk.injEq] at hx
        obtain ⟨rfl, rfl, rfl, rfl⟩ := hx
        obtain ⟨rr, hw, hor, hlt, hget, hset⟩ := loop_at hh hr hL0
        simp only [OR] at hor
        obtain ⟨_, _, _, ⟨Ld, hLd, hrd⟩, _⟩ := hor
        let rec' : Loop := { state := .ready, pending := none, fn, tmps, params := qs, assign, body, defers := rr.defers }
        have hle := Rho.le_put (L := ⟨w.heap.size, 0, 0⟩) hnone
        refine ⟨w.heap.size, [], { w with heap := w.heap.push (.loop rec') }, ρ.put nx ⟨w.heap.size, 0, 0⟩, ?_, ?_, ?_, Nat.le_succ _, ⟨⟨w.heap.size, 0, 0⟩, by simp [Rho.put], rfl⟩, trivial⟩
        · simp only [Instr.enterLoop, Sem.run_bind, hget, Result.andThen_ok, Sem.run_pure, run_newObj]; rfl
        · refine hh.new hdead hnone (Nat.le_succ _) (Nat.lt_succ_self _) (Nat.le_of_lt hlim') rfl rfl ?_
          simp only [OR]
          exact ⟨rfl, trivial, hps.symm, ⟨Ld, hle _ _ hLd, hrd⟩, K, nt, hs, ht.mono hle, ha, hb, hp⟩
        · exact Ext.new hnone (Nat.le_refl _) (Nat.lt_succ_self _) rfl rfl rfl rfl
      · cases hx
  | none =>
    cases rl with
    | some _ => exact hro.elim
    | none =>
      simp only [Option.some.injEq, Prod.mk.injEq] at hx
      obtain ⟨rfl, rfl, rfl, rfl⟩ := hx
      have hle := Rho.le_put (L := ⟨w.heap.size, 0, 0⟩) hnone
      have h1 : HR (CRel P D) (ρ.put nx ⟨w.heap.size, 0, 0⟩) (Tr.set .dfr H nx) (nx + 1) { w with heap := w.heap.push (.deferred (some [])) } :=
        hh.new hdead hnone (Nat.le_succ _) (Nat.lt_succ_self _) (by omega) rfl rfl rfl
      have e1 : Ext nx ρ H w (ρ.put nx ⟨w.heap.size, 0, 0⟩) (Tr.set .dfr H nx) (nx + 1) { w with heap := w.heap.push (.deferred (some [])) } :=
        Ext.new hnone (Nat.le_refl _) (Nat.lt_succ_self _) rfl rfl rfl rfl
      have hdead1 := h1.fresh (nx + 1) (Nat.le_refl _)
      have hnone1 := h1.nul (nx + 1) (Nat.le_refl _)
      have hle1 := Rho.le_put (L := ⟨w.heap.size + 1, 0, 0⟩) hnone1
      let rec' : Loop := { state := .ready, pending := none, fn, tmps, params := qs, assign, body, defers := w.heap.size }
      refine ⟨w.heap.size + 1, [{ target := .collected w.heap.size, args := #[] }], { w with heap := (w.heap.push (.deferred (some []))).push (.loop rec') }, (ρ.put nx ⟨w.heap.size, 0, 0⟩).put (nx + 1) ⟨w.heap.size + 1, 0, 0⟩, ?_, ?_, ?_, by show nx ≤ nx + 2; omega,
        ⟨⟨w.heap.size + 1, 0, 0⟩, by simp [Rho.put], rfl⟩, ⟨⟨w.heap.size, 0, 0⟩, hle1 _ _ (by simp [Rho.put]), rfl⟩, trivial⟩
      · simp only [Instr.enterLoop, Sem.run_bind, Result.andThen_ok, Sem.run_pure, run_newObj]
        have : (w.heap.push (.deferred (some []))).size = w.heap.size + 1 := by rw [Array.size_push]
        rw [this]
      · refine h1.new hdead1 hnone1 (Nat.le_succ _) (Nat.lt_succ_self _) (by show nx + 1 + 1 ≤ trMax; omega) rfl (by simp) ?_
        simp only [OR]
        exact ⟨rfl, trivial, hps.symm, ⟨⟨w.heap.size, 0, 0⟩, hle1 _ _ (by simp [Rho.put]), rfl⟩, K, nt, hs, (ht.mono hle).mono hle1, ha, hb, hp⟩
      · exact e1.trans (Ext.new hnone1 (Nat.le_refl _) (Nat.lt_succ_self _) rfl (by simp) rfl rfl) (Nat.le_succ _) (Nat.le_succ _)

theorem level_sound {F : FT} (hF : ∀ f fn, F f = some (.code fn) → FnOk P D f fn) (hX : ExtOk P D F) (hD : DrawOk P D F) {ih : Ih} (hI : ExecOk P D ih) : ExecOk P D (level F ih) := by
  have hC := callOk_of hI hF hX
  have hR := roundOk_of hI
  intro ro c T H nx dl e T' H' nx' dl' hx K nt ρ w a rl hro hh ht hs hd
  have here : ∀ {x : Exit}, ExR e x → T = T' → H = H' → nx = nx' → dl = dl' → Post (CRel P D) K nt ρ H nx w e T' H' nx' dl' x a w := by
    rintro x hxe rfl rfl rfl rfl
    exact ⟨ρ, hxe, hh, Ext.refl _ _ _ _ _, ht, hs, hd, Nat.le_refl _⟩
  cases c with
  | skip =>
    refine ⟨fun code hc => ?_, fun _ _ h => (by cases h), fun _ _ _ _ h => (by cases h)⟩
    simp only [CRel, chkCode] at hc
    split at hc
    · simp only [level] at hx
      obtain ⟨rfl, h1, h2, h3, h4⟩ := xs_ok hx
      exact .of_wp (wpIn_skip (here trivial h1 h2 h3 h4))
    · cases hc
  | label l =>
    refine ⟨fun code hc => ?_, fun _ _ h => (by cases h), fun _ _ _ _ h => (by cases h)⟩
    simp only [CRel, chkCode] at hc
    split at hc
    · simp only [level] at hx
      obtain ⟨rfl, h1, h2, h3, h4⟩ := xs_ok hx
      exact .of_wp (wpIn_label (here trivial h1 h2 h3 h4))
    · cases hc
  | exit i =>
    refine ⟨fun code hc => ?_, fun _ _ h => (by cases h), fun _ _ _ _ h => (by cases h)⟩
    simp only [CRel, chkCode] at hc
    split at hc
    · rw [beq_iff] at hc
      subst hc
      simp only [level] at hx
      obtain ⟨rfl, h1, h2, h3, h4⟩ := xs_ok hx
      exact .of_wp (wpIn_exit (here rfl h1 h2 h3 h4))
    · cases hc
  | goto l =>
    refine ⟨fun code hc => ?_, fun _ _ h => (by cases h), fun _ _ _ _ h => (by cases h)⟩
    simp only [CRel, chkCode] at hc
    split at hc
    · rw [beq_iff] at hc
      subst hc
      simp only [level] at hx
      obtain ⟨rfl, h1, h2, h3, h4⟩ := xs_ok hx
      exact .of_wp (wpIn_goto (here rfl h1 h2 h3 h4))
    · cases hc
  | ret =>
    refine ⟨fun code hc => ?_, fun _ _ h => (by cases h), fun _ _ _ _ h => (by cases h)⟩
    simp only [CRel, chkCode] at hc
    split at hc
    · simp only [level] at hx
      obtain ⟨rfl, h1, h2, h3, h4⟩ := xs_ok hx
      exact .of_wp (wpIn_ret (here trivial h1 h2 h3 h4))
    · cases hc
  | reg xs upd =>
    refine ⟨fun code hc => ?_, fun _ _ h => (by cases h), fun _ _ _ _ h => (by cases h)⟩
    simp only [CRel, chkCode] at hc
    split at hc
    · rename_i id all
      simp only [level] at hx
      refine .of_wp (wpIn_region ?_)
      have := ops_sound (CR := CRel P D) (K := K) (nt := nt) (rl := rl) (t0 := a.tmps) (T := T) (ρ0 := ρ) (H0 := H) (nx0 := nx) (w0 := w) hC hR (all := all) all.toList 0 xs [] 0 [] a w ρ H nx rfl hc hx (fun t => by simp [findA]) ht hs hd hh (Ext.refl _ _ _ _ _) (Nat.le_refl _)
      rw [List.range_eq_range']
      simpa using this
    · cases hc
  | dreg news xs upd =>
    refine ⟨fun code hc => ?_, fun _ _ h => (by cases h), fun _ _ _ _ h => (by cases h)⟩
    simp only [CRel, chkCode] at hc
    split at hc
    · rename_i id all
      simp only [level] at hx
      have hb : Nat.blt (Nat.add nx news) trMax = true ∧ dops F ih T upd dl nx xs [] H (Nat.add nx news) [H] = .ok e T' H' nx' dl' := by
        cases hq : Nat.blt (Nat.add nx news) trMax with
        | true => rw [hq] at hx; exact ⟨rfl, hx⟩
        | false => rw [hq] at hx; cases hx
      refine .of_wp (wpIn_region_draw fun t => ?_)
      have hw : ({ w with drawn := w.drawn + 1 } : World).heap = w.heap := rfl
      have := hD ih hC hR K nt all news xs upd hc T dl H nx e T' H' nx' dl' ((blt_iff _ _).1 hb.1) hb.2 ρ { w with drawn := w.drawn + 1 } a rl (hh.world hw) ht hs hd t
      refine wpOpsIn_mono' ?_ _ a _ this
      rintro x a' w' ⟨ρ', h1, h2, h3, h4⟩
      exact ⟨ρ', h1, h2, h3.world0 rfl rfl rfl, h4⟩
    · cases hc
  | seq x y =>
    refine ⟨fun code hc => ?_, fun _ _ h => (by cases h), fun _ _ _ _ h => (by cases h)⟩
    simp only [CRel, chkCode] at hc
    split at hc
    · rename_i x' y'
      simp only [Bool.and_eq_true] at hc
      simp only [level] at hx
      split at hx
      · rename_i e1 T1 H1 nx1 dl1 hex
        have h1 := ((hI ro x T H nx dl e1 T1 H1 nx1 dl1 hex K nt ρ w a rl hro hh ht hs hd).1 x' hc.1).wp
        refine .of_wp (wpIn_seq (wpIn_mono h1 ?_))
        intro e' a' w' hp
        have hp' := hp
        obtain ⟨ρ1, g1, g2, g3, g4, g5, g6, g7⟩ := hp
        cases e1 with
        | normal =>
          cases e' <;> simp only [ExR] at g1
          have h2 := ((hI ro y T1 H1 nx1 dl1 e T' H' nx' dl' hx K nt ρ1 w' a' rl (hro.mono g3.le) g2 g4 g5 g6).1 y' hc.2).wp
          exact wpIn_mono h2 fun _ _ _ h => Post.trans g3 g7 h
        | exit i => obtain ⟨rfl, rfl, rfl, rfl, rfl⟩ := xs_ok hx; cases e' <;> simp only [ExR] at g1; exact hp'
        | goto i => obtain ⟨rfl, rfl, rfl, rfl, rfl⟩ := xs_ok hx; cases e' <;> simp only [ExR] at g1; exact hp'
        | ret => obtain ⟨rfl, rfl, rfl, rfl, rfl⟩ := xs_ok hx; cases e' <;> simp only [ExR] at g1; exact hp'
      · cases hx
    · cases hc
  | cond ce x y =>
    refine ⟨fun code hc => ?_, fun _ _ h => (by cases h), fun _ _ _ _ h => (by cases h)⟩
    simp only [CRel, chkCode] at hc
    split at hc
    · rename_i o x' y'
      simp only [Bool.and_eq_true] at hc
      simp only [level] at hx
      have hv := op_ev ht hc.1.1
      split at hx
      · rename_i r hr
        rw [hr] at hv
        simp only [VR] at hv
        cases r with
        | true => exact .of_wp (wpIn_cond_true hv ((hI ro x T H nx dl e T' H' nx' dl' hx K nt ρ w a rl hro hh ht hs hd).1 x' hc.1.2).wp)
        | false => exact .of_wp (wpIn_cond_false hv ((hI ro y T H nx dl e T' H' nx' dl' hx K nt ρ w a rl hro hh ht hs hd).1 y' hc.2).wp)
      · cases hx
    · cases hc
  | block i x =>
    refine ⟨fun code hc => ?_, fun _ _ h => (by cases h), fun _ _ _ _ h => (by cases h)⟩
    simp only [CRel, chkCode] at hc
    split at hc
    · rename_i j x'
      simp only [Bool.and_eq_true, beq_iff] at hc
      obtain ⟨rfl, hc⟩ := hc
      simp only [level] at hx
      split at hx
      · rename_i e1 T1 H1 nx1 dl1 hex
        have h1 := ((hI ro x T H nx dl e1 T1 H1 nx1 dl1 hex K nt ρ w a rl hro hh ht hs hd).1 x' hc).wp
        refine .of_wp (wpIn_block (wpIn_mono h1 ?_))
        intro e' a' w' hp
        have hp' := hp
        obtain ⟨ρ1, g1, g2, g3, g4, g5, g6, g7⟩ := hp
        cases e1 with
        | exit i' =>
          cases e' <;> simp only [ExR] at g1
          subst g1
          simp only [Exit.inBlock]
          by_cases hi : i' = i
          · subst hi
            rw [if_pos rfl]
            simp only [(beq_iff i' i').2 rfl, cond_true] at hx
            obtain ⟨rfl, rfl, rfl, rfl, rfl⟩ := xs_ok hx
            exact ⟨ρ1, trivial, g2, g3, g4, g5, g6, g7⟩
          · rw [if_neg hi]
            simp only [(beq_false i' i).2 hi, cond_false] at hx
            obtain ⟨rfl, rfl, rfl, rfl, rfl⟩ := xs_ok hx
            exact hp'
        | normal => obtain ⟨rfl, rfl, rfl, rfl, rfl⟩ := xs_ok hx; cases e' <;> simp only [ExR] at g1; exact hp'
        | goto i => obtain ⟨rfl, rfl, rfl, rfl, rfl⟩ := xs_ok hx; cases e' <;> simp only [ExR] at g1; exact hp'
        | ret => obtain ⟨rfl, rfl, rfl, rfl, rfl⟩ := xs_ok hx; cases e' <;> simp only [ExR] at g1; exact hp'
      · cases hx
    · cases hc
  | loop x =>
    have both : ∀ x', CRel P D K nt x' x → Arr P rl [.code x', .inLoop x'] (Post (CRel P D) K nt ρ H nx w e T' H' nx' dl') a w := by
      intro x' hc
      simp only [level] at hx
      split at hx
      · rename_i e1 T1 H1 nx1 dl1 hex
        refine arr_loop ((hI ro x T H nx dl e1 T1 H1 nx1 dl1 hex K nt ρ w a rl hro hh ht hs hd).1 x' hc) (fun a1 w1 hp => ?_) (fun e' a1 w1 hne hp => ?_)
        · obtain ⟨ρ1, g1, g2, g3, g4, g5, g6, g7⟩ := hp
          cases e1 <;> simp only [ExR] at g1
          exact ((hI ro (.loop x) T1 H1 nx1 dl1 e T' H' nx' dl' hx K nt ρ1 w1 a1 rl (hro.mono g3.le) g2 g4 g5 g6).2.1 x' x rfl hc).mono fun _ _ _ h => Post.trans g3 g7 h
        · have hp' := hp
          obtain ⟨ρ1, g1, g2, g3, g4, g5, g6, g7⟩ := hp
          cases e1 with
          | normal => cases e' <;> simp only [ExR] at g1; exact absurd rfl hne
          | exit i => obtain ⟨rfl, rfl, rfl, rfl, rfl⟩ := xs_ok hx; exact hp'
          | goto i => obtain ⟨rfl, rfl, rfl, rfl, rfl⟩ := xs_ok hx; exact hp'
          | ret => obtain ⟨rfl, rfl, rfl, rfl, rfl⟩ := xs_ok hx; exact hp'
      · cases hx
    refine ⟨fun code hc => ?_, fun x' b hb hc => ?_, fun _ _ _ _ h => (by cases h)⟩
    · simp only [CRel, chkCode] at hc
      split at hc
      · exact arr_loop0 (both _ hc)
      · cases hc
    · cases hb
      exact arr_inLoop (both _ hc)
  | scope x =>
    refine ⟨fun code hc => ?_, fun _ _ h => (by cases h), fun _ _ _ _ h => (by cases h)⟩
    simp only [CRel, chkCode] at hc
    split at hc
    · simp only [level] at hx
      exact arr_scope0 ((hI ro (.scopeAt x x) T H nx dl e T' H' nx' dl' hx K nt ρ w a rl hro hh ht hs hd).2.2 _ _ x x rfl hc hc)
    · cases hc
  | scopeAt x y =>
    refine ⟨fun code hc => by simp [CRel, chkCode] at hc, fun _ _ h => (by cases h), fun body cur b cr hbc hb hcr => ?_⟩
    cases hbc
    simp only [level] at hx
    split at hx
    · rename_i e1 T1 H1 nx1 dl1 hex
      refine arr_scope ((hI ro y T H nx dl e1 T1 H1 nx1 dl1 hex K nt ρ w a rl hro hh ht hs hd).1 cur hcr) (fun l a1 w1 r hp hf => ?_) (fun e' a1 w1 hne hp => ?_)
      · obtain ⟨ρ1, g1, g2, g3, g4, g5, g6, g7⟩ := hp
        cases e1 <;> simp only [ExR] at g1
        subst g1
        rename_i l
        obtain ⟨f1, f2⟩ := findL_sound (P := P) (D := D) (K := K) (nt := nt) l x body hb
        simp only at hx
        split at hx
        · rename_i rest hrest
          obtain ⟨r', q1, q2⟩ := f1 rest hrest
          rw [hf] at q1; cases q1
          exact ((hI ro (.scopeAt x rest) T1 H1 nx1 dl1 e T' H' nx' dl' hx K nt ρ1 w1 a1 rl (hro.mono g3.le) g2 g4 g5 g6).2.2 body r x rest rfl hb q2).mono fun _ _ _ h => Post.trans g3 g7 h
        · rename_i hrest
          rw [f2 hrest] at hf; cases hf
      · have hp' := hp
        obtain ⟨ρ1, g1, g2, g3, g4, g5, g6, g7⟩ := hp
        cases e1 with
        | normal => obtain ⟨rfl, rfl, rfl, rfl, rfl⟩ := xs_ok hx; exact hp'
        | exit i => obtain ⟨rfl, rfl, rfl, rfl, rfl⟩ := xs_ok hx; exact hp'
        | ret => obtain ⟨rfl, rfl, rfl, rfl, rfl⟩ := xs_ok hx; exact hp'
        | goto l =>
          cases e' <;> simp only [ExR] at g1
          subst g1
          have hnone := hne l rfl
          obtain ⟨f1, f2⟩ := findL_sound (P := P) (D := D) (K := K) (nt := nt) l x body hb
          simp only at hx
          split at hx
          · rename_i rest hrest
            obtain ⟨r', q1, q2⟩ := f1 rest hrest
            rw [hnone] at q1; cases q1
          · obtain ⟨rfl, rfl, rfl, rfl, rfl⟩ := xs_ok hx; exact hp'
    · cases hx
  | rangeFunc fe ps x y =>
    refine ⟨fun code hc => ?_, fun _ _ h => (by cases h), fun _ _ _ _ h => (by cases h)⟩
    simp only [CRel, chkCode] at hc
    split at hc
    · rename_i g qs x' y'
      simp only [Bool.and_eq_true, beq_iff_eq] at hc
      obtain ⟨⟨⟨⟨hc1, hc2⟩, hc3⟩, hc4⟩, hc5⟩ := hc
      simp only [level] at hx
      split at hx
      · rename_i l mk H1 nx1 hel
        split at hx
        · rename_i u H2 nx2 hcall
          refine .of_wp (wpIn_rangeFunc fun fn _ => ?_)
          have hpl : ∀ t ∈ ps, t < nt := fun t htp => by
            have := List.all_eq_true.1 hc3 t htp
            rwa [blt_iff] at this
          obtain ⟨B, mark, w1, ρ1, k1, k2, k3, k4, ⟨L, kL, kB⟩, k6⟩ := enterLoop_sound hro hh ht hs hc2 hpl hc4 hc5 hel fn
          have hv := (op_ev ht hc1).mono k3.le
          unfold callc at hcall
          split at hcall
          · rename_i f first captured hfe
            rw [hfe] at hv
            simp only [VR] at hv
            obtain ⟨fl, cl, hv, hfl, hcl⟩ := hv
            split at hcall
            · rename_i xf hFf
              cases xf with
              | code xfn =>
                simp only at hcall
                have hfn := hF f xfn hFf
                have hargs : VRL ρ1 (first ++ ([.yld l] ++ captured)) (fl ++ ([.func (.yield B) #[] #[]] ++ cl)) :=
                  VRL.append hfl (VRL.append ⟨by simp only [VR]; exact ⟨L, kL, by rw [kB]⟩, trivial⟩ hcl)
                have hcs := enterc_sound hI hfn hcall k2 hargs
                obtain ⟨fn', body, q1, q2, q3, _⟩ := hfn
                have q3' : ¬ fn'.name = "runtime.NumGoroutine" := by simpa using q3
                refine ⟨B, mark, w1, { target := .fn (.func f) ⟨cl⟩, args := ⟨fl⟩ ++ #[.func (.yield B) #[] #[]] }, w1, f, ⟨fl ++ ([.func (.yield B) #[] #[]] ++ cl)⟩, w1, k1, ?_, fun _ _ => trivial, ?_, fun h => by simp [Fr, Fence.wide] at h, ?_⟩
                · have e0 : a.eval (.const (.func (.yield B) #[] #[])) = .func (.yield B) #[] #[] := rfl
                  simp [resolve, rangeCall, hv, Deferred.ofValue, e0]
                · have : (⟨fl⟩ ++ #[Value.func (.yield B) #[] #[]] ++ ⟨cl⟩ : Array Value) = ⟨fl ++ ([.func (.yield B) #[] #[]] ++ cl)⟩ := by apply Array.ext'; simp
                  simp only [invoke]
                  rw [this]
                  simp [callFunc, q1, q2, q3']
                · have hcs' : CallsIn (Fr rl) 0 P f ⟨fl ++ ([.func (.yield B) #[] #[]] ++ cl)⟩ w1 (RetR (CRel P D) ρ1 H1 nx1 w1 u H2 nx2) := hcs
                  refine CallsIn.mono hcs' ?_
                  rintro e' w3 ⟨uv, ρ3, rfl, m1, m2, m3, m4⟩
                  simp only [rangePost]
                  split at hx
                  · rename_i r hl3
                    have hL3 := m3.le l L kL
                    obtain ⟨rr, hw3, hor3, hlt3, hget3, hset3⟩ := loop_at m2 hl3 hL3
                    have hor3' := hor3
                    simp only [OR] at hor3'
                    obtain ⟨hst, hpend, _⟩ := hor3'
                    have hxx : r.state ≠ .busy ∧ XS.ok (pendExit r.pend) T (Tr.set (.loop { r with state := .exhausted }) H2 l) nx2 (mk ++ dl) = .ok e T' H' nx' dl' := by
                      split at hx
                      · cases hx
                      · rename_i hnb; exact ⟨hnb, hx⟩
                    obtain ⟨hnb, hx'⟩ := hxx
                    obtain ⟨rfl, rfl, rfl, rfl, rfl⟩ := xs_ok hx'
                    obtain ⟨g1, g2⟩ := setLoop_sound m2 hl3 hL3 hor3 hlt3 (st := .exhausted) hpend nx
                    have hnb' : (rr.state == .busy) = false := by
                      rw [← hst]
                      cases hq : r.state <;> first | rfl | (exact absurd hq hnb)
                    refine ⟨rr.pending, { w3 with heap := w3.heap.setIfInBounds L.blk (.loop { rr with state := .exhausted, pending := rr.pending }) }, ?_, ?_⟩
                    · rw [← kB]
                      simp only [Instr.endLoop, Sem.run_bind, hget3, Result.andThen_ok, hnb', Bool.false_eq_true, if_false, hset3, Sem.run_pure]
                    · have hdr : DR ρ3 (mk ++ dl) (mark ++ a.defers) := DR.append (k6.mono m3.le) ((hd.mono k3.le).mono m3.le)
                      have hE : Ext nx ρ H w ρ3 (Tr.set (.loop { r with state := .exhausted, pend := r.pend }) H2 l) nx2 { w3 with heap := w3.heap.setIfInBounds L.blk (.loop { rr with state := .exhausted, pending := rr.pending }) } :=
                        (k3.trans m3 k4 m4).trans g2 (Nat.le_refl _) (Nat.le_refl _)
                      have hfin : ∀ x, ExR (pendExit r.pend) x → Post (CRel P D) K nt ρ H nx w (pendExit r.pend) T (Tr.set (.loop { r with state := .exhausted }) H2 l) nx2 (mk ++ dl) x { a with defers := mark ++ a.defers } { w3 with heap := w3.heap.setIfInBounds L.blk (.loop { rr with state := .exhausted, pending := rr.pending }) } :=
                        fun x hxr => ⟨ρ3, hxr, g1, hE, (ht.mono k3.le).mono m3.le, hs, hdr, by omega⟩
                      have key : ∀ (w4 : World) (q : Option Code), PR r.pend q → (∀ x, ExR (pendExit r.pend) x → Post (CRel P D) K nt ρ H nx w (pendExit r.pend) T (Tr.set (.loop { r with state := .exhausted }) H2 l) nx2 (mk ++ dl) x { a with defers := mark ++ a.defers } w4) →
                          (match q with
                           | none => Post (CRel P D) K nt ρ H nx w (pendExit r.pend) T (Tr.set (.loop { r with state := .exhausted }) H2 l) nx2 (mk ++ dl) .normal { a with defers := mark ++ a.defers } w4
                           | some c => c.wpIn (Fr rl) 0 P (Post (CRel P D) K nt ρ H nx w (pendExit r.pend) T (Tr.set (.loop { r with state := .exhausted }) H2 l) nx2 (mk ++ dl)) { a with defers := mark ++ a.defers } w4) := by
                        intro w4 q hpq hf4
                        cases hq : r.pend with
                        | none =>
                          rw [hq] at hpq hf4
                          cases q with
                          | none => exact hf4 .normal trivial
                          | some c => exact hpq.elim
                        | some p =>
                          rw [hq] at hpq hf4
                          cases q with
                          | none => cases p <;> exact hpq.elim
                          | some c =>
                            cases p with
                            | normal => cases c <;> exact hpq.elim
                            | exit i =>
                              cases c <;> first | (exact hpq.elim) | skip
                              have e : i = _ := hpq
                              exact wpIn_exit (hf4 _ e)
                            | goto i =>
                              cases c <;> first | (exact hpq.elim) | skip
                              have e : i = _ := hpq
                              exact wpIn_goto (hf4 _ e)
                            | ret =>
                              cases c <;> first | (exact hpq.elim) | skip
                              exact wpIn_ret (hf4 _ trivial)
                      exact key _ _ hpend hfin
                  · cases hx
              | ins sz => cases hcall
              | f64bits => cases hcall
            · cases hcall
          · cases hcall
        · cases hx
      · cases hx
    · cases hc

theorem exec_sound {F : FT} (hF : ∀ f fn, F f = some (.code fn) → FnOk P D f fn) (hX : ExtOk P D F) (hD : DrawOk P D F) : ∀ n, ExecOk P D (exec F n)
  | 0 => fun _ _ _ _ _ _ _ _ _ _ _ h => by cases h
  | n + 1 => level_sound hF hX hD (exec_sound hF hX hD n)
end
end Go.X
/- Regions whose order is drawn: the frame; X's run as a row of states. -/
namespace Go.X
set_option linter.unusedVariables false
set_option linter.unusedSimpArgs false
section
variable {CR : Nat → Nat → Code → XCode → Prop}
variable {P : Program}

/-- What an operation does not know of stays. -/
theorem frame {ρ ρ1 : Rho} {HE Hs H1 HE' : Tr XO} {nx nx1 : Nat} {w w1 : World} (hh : HR CR ρ HE nx w) (hsub : ∀ x, hget Hs x = hget HE x ∨ hget Hs x = .dead)
    (hex : ∀ x, hget Hs x = .dead → hget HE x ≠ .dead → wrt (hget HE x) ∧ parOf (hget HE x) = [])
    (h1 : HR CR ρ1 H1 nx1 w1) (he : Ext nx ρ Hs w ρ1 H1 nx1 w1) (hn : nx ≤ nx1) (hfull : Tr.full 14 HE')
    (ha : ∀ x, hget Hs x = .dead → hget HE x ≠ .dead → hget HE' x = hget HE x) (hb : ∀ x, ¬ (hget Hs x = .dead ∧ hget HE x ≠ .dead) → hget HE' x = hget H1 x) :
    HR CR ρ1 HE' nx1 w1 ∧ Ext nx ρ HE w ρ1 HE' nx1 w1 ∧ ∀ x, hget Hs x = .dead → hget HE x ≠ .dead → hget H1 x = .dead := by
  -- nobody comes to stand where such a one stands
  have apart : ∀ x L, hget Hs x = .dead → hget HE x ≠ .dead → ρ x = some L → ∀ b L', hget H1 b ≠ .dead → ρ1 b = some L' → L'.blk = L.blk → False := by
    intro x L hx1 hx2 hL b L' hb1 hb2 hbl
    obtain ⟨L0, o0, q1, q2, q3⟩ := hh.objs x hx2
    rw [hL] at q1; cases q1
    have hlt := (Array.getElem?_eq_some_iff.1 q2).1
    rcases he.alive b L' hb1 hb2 with h | ⟨b0, Lb, g1, g2, g3⟩
    · omega
    · have hbHE : hget HE b0 = hget Hs b0 := by
        rcases hsub b0 with h | h
        · exact h.symm
        · exact absurd h g1
      have hne : x ≠ b0 := by rintro rfl; exact g1 hx1
      have := (hh.sep x b0 L Lb hne (hex x hx1 hx2).1 (by rw [hbHE]; exact g1) hL g2 (by omega)).2
      rw [(hex x hx1 hx2).2] at this
      simp at this
  have hdead : ∀ x, hget Hs x = .dead → hget HE x ≠ .dead → hget H1 x = .dead := by
    intro x hx1 hx2
    cases hq : hget H1 x with
    | dead => rfl
    | _ =>
      exfalso
      have hx3 : hget H1 x ≠ .dead := by rw [hq]; simp
      obtain ⟨L, _, q1, _, _⟩ := hh.objs x hx2
      exact apart x L hx1 hx2 q1 x L hx3 (he.le _ _ q1) rfl
  have hcase : ∀ x, (hget Hs x = .dead ∧ hget HE x ≠ .dead) ∨ ¬ (hget Hs x = .dead ∧ hget HE x ≠ .dead) := fun x => Classical.em _
  refine ⟨⟨hfull, h1.lim, fun x hx => ?_, h1.nul, fun x hx => ?_, fun x y L1 L2 hne hw1 hy e1 e2 hbl => ?_⟩, ⟨he.le, he.dom, he.size, fun B hB hB2 => ?_, fun b L hw hL => ?_, fun b L hw hL => ?_, he.os, he.out⟩, hdead⟩
  · rcases hcase x with h | h
    · exact absurd (hh.fresh x (by omega)) h.2
    · rw [hb x h]; exact h1.fresh x hx
  · rcases hcase x with h | h
    · rw [ha x h.1 h.2]
      obtain ⟨L, o, q1, q2, q3⟩ := hh.objs x h.2
      refine ⟨L, o, he.le _ _ q1, ?_, OR.mono CR he.le q3⟩
      rw [he.frame L.blk (Array.getElem?_eq_some_iff.1 q2).1 (fun b L' hw hL' hbl => ?_)]
      · exact q2
      · have hb0 : hget Hs b ≠ .dead := wrt_alive hw
        have hbHE : hget HE b = hget Hs b := by
          rcases hsub b with h' | h'
          · exact h'.symm
          · exact absurd h' hb0
        have hne : x ≠ b := by rintro rfl; exact hb0 h.1
        have := (hh.sep x b L L' hne (hex x h.1 h.2).1 (by rw [hbHE]; exact hb0) q1 hL' hbl.symm).2
        rw [(hex x h.1 h.2).2] at this
        simp at this
    · rw [hb x h] at hx ⊢; exact h1.objs x hx
  · rcases hcase x with h | h
    · obtain ⟨Lx, _, q1, _, _⟩ := hh.objs x h.2
      have e1' := he.le _ _ q1
      rw [e1] at e1'; cases e1'
      rcases hcase y with g | g
      · obtain ⟨Ly, _, p1, _, _⟩ := hh.objs y g.2
        have e2' := he.le _ _ p1
        rw [e2] at e2'; cases e2'
        rw [ha x h.1 h.2] at hw1
        have := (hh.sep x y L1 L2 hne hw1 g.2 q1 p1 hbl).2
        rw [(hex x h.1 h.2).2] at this; simp at this
      · rw [hb y g] at hy
        exact (apart x L1 h.1 h.2 q1 y L2 hy e2 hbl.symm).elim
    · rw [hb x h] at hw1 ⊢
      rcases hcase y with g | g
      · obtain ⟨Ly, _, p1, _, _⟩ := hh.objs y g.2
        have e2' := he.le _ _ p1
        rw [e2] at e2'; cases e2'
        exact (apart y L2 g.1 g.2 p1 x L1 (wrt_alive hw1) e1 hbl).elim
      · rw [hb y g] at hy ⊢
        exact h1.sep x y L1 L2 hne hw1 hy e1 e2 hbl
  · refine he.frame B hB (fun b L hw hL => hB2 b L ?_ hL)
    rcases hsub b with h | h
    · rwa [← h]
    · rw [h] at hw; exact hw.elim
  · rcases hcase b with h | h
    · obtain ⟨Lx, _, q1, _, _⟩ := hh.objs b h.2
      have e1' := he.le _ _ q1
      rw [hL] at e1'; cases e1'
      exact .inr ⟨b, L, (hex b h.1 h.2).1, q1, rfl⟩
    · rw [hb b h] at hw
      rcases he.chg b L hw hL with h' | ⟨b0, L0, g1, g2, g3⟩
      · exact .inl h'
      · refine .inr ⟨b0, L0, ?_, g2, g3⟩
        rcases hsub b0 with h' | h'
        · rwa [← h']
        · rw [h'] at g1; exact g1.elim
  · rcases hcase b with h | h
    · obtain ⟨Lx, _, q1, _, _⟩ := hh.objs b h.2
      have e1' := he.le _ _ q1
      rw [hL] at e1'; cases e1'
      exact .inr ⟨b, L, h.2, q1, rfl⟩
    · rw [hb b h] at hw
      rcases he.alive b L hw hL with h' | ⟨b0, L0, g1, g2, g3⟩
      · exact .inl h'
      · refine .inr ⟨b0, L0, ?_, g2, g3⟩
        rcases hsub b0 with h' | h'
        · rwa [← h']
        · exact absurd h' g1

/-! ### X's run, state by state -/
structure DSt where
  S : List XV
  H : Tr XO
  nx : Nat
  hs : List (Tr XO)

def isChain (d : XDop) : Bool := match d.kind with | .chain => true | _ => false

/-- One operation. -/
def DStep (F : FT) (ih : Ih) (T : Tr XV) (base : Nat) (s : DSt) (d : XDop) (s' : DSt) : Prop :=
  (lets T s.S d.o.guard = some false ∧ s'.S = unit :: s.S ∧ s'.H = s.H ∧ s'.nx = s.nx ∧ s'.hs = (if isChain d then s.H :: s.hs else s.hs)) ∨
  (lets T s.S d.o.guard = some true ∧ ∃ v, s'.S = v :: s.S ∧ match d.kind, d.o.op with
    | .pure, .p op => xpure T s.S op = some v ∧ s'.H = s.H ∧ s'.nx = s.nx ∧ s'.hs = s.hs
    | .read back, .q op => (∃ H0 hs', s.hs = H0 :: hs' ∧ xread T s.S H0 op = some v ∧ elder T s.S op v back hs' = true) ∧ s'.H = s.H ∧ s'.nx = s.nx ∧ s'.hs = s.hs
    | .new i, .n op => (∃ o f, xnew T s.S op = some (o, f) ∧ v = f (base + i) ∧ s'.H = Tr.set o s.H (base + i)) ∧ s'.nx = s.nx ∧ s'.hs = s.hs
    | .chain, op => xop F ih T s.S s.H s.nx op = .ok v s'.H s'.nx ∧ s'.hs = s'.H :: s.hs
    | _, _ => False)

theorem dops_states {F : FT} {ih : Ih} {T : Tr XV} {upd : List (Nat × XE)} {dl : List Nat} {base : Nat} {e : XExit} {T' : Tr XV} {H' : Tr XO} {nx' : Nat} {dl' : List Nat} :
    ∀ (xs : List XDop) (s : DSt), dops F ih T upd dl base xs s.S s.H s.nx s.hs = .ok e T' H' nx' dl' →
      ∃ st : Nat → DSt, st 0 = s ∧ (∀ q d, xs[q]? = some d → DStep F ih T base (st q) d (st (q + 1))) ∧
        e = .normal ∧ T' = upds T T (st xs.length).S upd ∧ H' = (st xs.length).H ∧ nx' = (st xs.length).nx ∧ dl' = dl
  | [], s, h => by
    simp only [dops] at h
    obtain ⟨rfl, rfl, rfl, rfl, rfl⟩ := xs_ok h
    exact ⟨fun _ => s, rfl, fun q d hd => by simp at hd, rfl, rfl, rfl, rfl, rfl⟩
  | d :: r, s, h => by
    have go : ∀ s' : DSt, DStep F ih T base s d s' → dops F ih T upd dl base r s'.S s'.H s'.nx s'.hs = .ok e T' H' nx' dl' →
        ∃ st : Nat → DSt, st 0 = s ∧ (∀ q d', (d :: r)[q]? = some d' → DStep F ih T base (st q) d' (st (q + 1))) ∧
          e = .normal ∧ T' = upds T T (st (d :: r).length).S upd ∧ H' = (st (d :: r).length).H ∧ nx' = (st (d :: r).length).nx ∧ dl' = dl := by
      intro s' hs' hr
      obtain ⟨st, g0, g1, g2⟩ := dops_states r s' hr
      refine ⟨fun q => match q with | 0 => s | q + 1 => st q, rfl, fun q d' hd => ?_, g2⟩
      cases q with
      | zero =>
        simp only [List.getElem?_cons_zero, Option.some.injEq] at hd
        subst hd
        simp only [g0]
        exact hs'
      | succ q => exact g1 q d' (by simpa using hd)
    simp only [dops] at h
    split at h
    · rename_i hl
      split at h
      · rename_i op hk ho
        split at h
        · rename_i v hv
          exact go ⟨v :: s.S, s.H, s.nx, s.hs⟩ (.inr ⟨hl, v, rfl, by rw [hk, ho]; exact ⟨hv, rfl, rfl, rfl⟩⟩) h
        · cases h
      · rename_i back op hk ho
        split at h
        · cases h
        · rename_i H0 hs' hhs
          split at h
          · rename_i v hv
            have hb : elder T s.S op v back hs' = true ∧ dops F ih T upd dl base r (v :: s.S) s.H s.nx s.hs = .ok e T' H' nx' dl' := by
              cases hq : elder T s.S op v back hs' with
              | true => rw [hq] at h; exact ⟨rfl, h⟩
              | false => rw [hq] at h; cases h
            exact go ⟨v :: s.S, s.H, s.nx, s.hs⟩ (.inr ⟨hl, v, rfl, by rw [hk, ho]; exact ⟨⟨H0, hs', hhs, hv, hb.1⟩, rfl, rfl, rfl⟩⟩) hb.2
          · cases h
      · rename_i i op hk ho
        split at h
        · rename_i o f hv
          exact go ⟨f (Nat.add base i) :: s.S, Tr.set o s.H (Nat.add base i), s.nx, s.hs⟩ (.inr ⟨hl, _, rfl, by rw [hk, ho]; exact ⟨⟨o, f, hv, rfl, rfl⟩, rfl, rfl⟩⟩) h
        · cases h
      · rename_i hk
        split at h
        · rename_i v H1 nx1 hv
          exact go ⟨v :: s.S, H1, nx1, H1 :: s.hs⟩ (.inr ⟨hl, v, rfl, by rw [hk]; exact ⟨hv, rfl⟩⟩) h
        · cases h
      · cases h
    · rename_i hl
      refine go ⟨unit :: s.S, s.H, s.nx, if isChain d then s.H :: s.hs else s.hs⟩ (.inl ⟨hl, rfl, rfl, rfl, rfl⟩) ?_
      have : (match d.kind with | .chain => s.H :: s.hs | _ => s.hs) = (if isChain d then s.H :: s.hs else s.hs) := by
        unfold isChain
        cases d.kind <;> rfl
      rw [← this]
      exact h
    · cases h
end
end Go.X
/- Regions whose order is drawn: the checker, and what it says. -/
namespace Go.X
set_option linter.unusedVariables false
set_option linter.unusedSimpArgs false

/-! ### Who must come first -/
def ancOf (acc : List Nat) : List Edge → Nat → Nat
  | [], s => s
  | e :: r, s => ancOf acc r (bif Region.binds .any e then Nat.lor (Nat.lor s (Nat.pow 2 e.on)) (acc.getD e.on 0) else s)
def ancs : List Oper → List Nat → List Nat
  | [], acc => acc
  | o :: os, acc => ancs os (acc ++ [ancOf acc o.after.toList 0])
def has (A : List Nat) (j i : Nat) : Bool := (A.getD j 0).testBit i

/-- What has been done holds all that it needed. -/
def Closed (os : List Oper) (L : Nat → Prop) : Prop := ∀ j o, os[j]? = some o → L j → ∀ e ∈ o.after.toList, Region.binds .any e = true → L e.on

theorem ancOf_bit {acc : List Nat} {i : Nat} : ∀ (es : List Edge) (s : Nat), (ancOf acc es s).testBit i = true → s.testBit i = true ∨ ∃ e ∈ es, Region.binds .any e = true ∧ (i = e.on ∨ (acc.getD e.on 0).testBit i = true)
  | [], s, h => .inl h
  | e :: es, s, h => by
    simp only [ancOf] at h
    rcases ancOf_bit es _ h with h | ⟨e', h1, h2⟩
    · cases hb : Region.binds .any e with
      | false => rw [hb] at h; exact .inl h
      | true =>
        rw [hb] at h
        simp only [cond_true] at h
        have h' : ((s ||| 2 ^ e.on) ||| acc.getD e.on 0).testBit i = true := h
        rw [Nat.testBit_or, Nat.testBit_or, Nat.testBit_two_pow] at h'
        simp only [Bool.or_eq_true, decide_eq_true_eq] at h'
        rcases h' with (h' | h') | h'
        · exact .inl h'
        · exact .inr ⟨e, by simp, hb, .inl h'.symm⟩
        · exact .inr ⟨e, by simp, hb, .inr h'⟩
    · exact .inr ⟨e', List.mem_cons_of_mem _ h1, h2⟩

theorem ancs_sound (all : List Oper) : ∀ (os : List Oper) (acc : List Nat), all.drop acc.length = os →
    (∀ j i, (acc.getD j 0).testBit i = true → ∀ L, Closed all L → L j → L i) → ∀ j i, has (ancs os acc) j i = true → ∀ L, Closed all L → L j → L i
  | [], acc, _, h, j, i, hb => h j i hb
  | o :: os, acc, hd, h, j, i, hb => by
    have ho : all[acc.length]? = some o := by
      have := List.getElem?_drop (xs := all) (i := acc.length) (j := 0)
      rw [hd] at this
      simpa using this.symm
    refine ancs_sound all os (acc ++ [ancOf acc o.after.toList 0]) ?_ ?_ j i hb
    · rw [List.length_append, List.length_singleton, ← List.tail_drop, hd]; rfl
    · intro j i hb L hL hj
      rcases Nat.lt_trichotomy j acc.length with hlt | heq | hgt
      · rw [List.getD_eq_getElem?_getD, List.getElem?_append_left hlt, ← List.getD_eq_getElem?_getD] at hb
        exact h j i hb L hL hj
      · subst heq
        have e1 : (acc ++ [ancOf acc o.after.toList 0]).getD acc.length 0 = ancOf acc o.after.toList 0 := by simp [List.getD_eq_getElem?_getD]
        rw [e1] at hb
        rcases ancOf_bit _ _ hb with h0 | ⟨e, he, hbind, hi⟩
        · simp at h0
        · have hon := hL _ o ho hj e he hbind
          rcases hi with rfl | hi
          · exact hon
          · exact h _ i hi L hL hon
      · rw [List.getD_eq_getElem?_getD, List.getElem?_eq_none (by simp; omega)] at hb
        simp at hb

/-! ### Who has written a slot -/
def wlist : List Oper → Nat → List (Nat × Nat)
  | [], _ => []
  | o :: os, i => match o.dst with
    | some d => (i, d) :: wlist os (Nat.add i 1)
    | none => wlist os (Nat.add i 1)

/-- The last writer of t ahead of i; all of them in a row; those behind come behind i. -/
def chkW (A : List Nat) (i t : Nat) : List (Nat × Nat) → Option Nat → Option (Option Nat)
  | [], cur => some cur
  | (j, d) :: r, cur => bif Nat.beq d t then
      (bif Nat.blt j i then (match cur with
        | none => chkW A i t r (some j)
        | some c => bif Nat.blt c j && has A j c then chkW A i t r (some j) else none)
      else bif Nat.beq j i then chkW A i t r cur
      else bif has A j i then chkW A i t r cur else none)
    else chkW A i t r cur

def posOf : List XDop → Nat → Nat → Option Nat
  | [], _, _ => none
  | d :: r, i, q => bif Nat.beq d.j i then some q else posOf r i (Nat.add q 1)

section
variable (A : List Nat) (wl : List (Nat × Nat)) (xs : List XDop) (os : List Oper)
def infD : Nat → Nat → Al
  | 0, _ => .no
  | f + 1, i => match os[i]? with
    | some o => (match plainMove o with
      | some x => (match x with
        | .tmp t => (match chkW A i t wl none with
          | some (some c) => bif has A i c then infD f c else .no
          | some none => .l t
          | none => .no)
        | .const v => .k v
        | .func g => .f g
        | .global _ => .no)
      | none => (match posOf xs i 0 with
        | some q => .s q
        | none => .no))
    | none => .no

def alAt (i : Nat) (x : Operand) : Al :=
  match x with
  | .tmp t => (match chkW A i t wl none with
    | some (some c) => bif has A i c then infD A wl xs os 20 c else .no
    | some none => .l t
    | none => .no)
  | .const v => .k v
  | .func g => .f g
  | .global _ => .no

def chkGD (K q i : Nat) (g : Option (Nat × Bool)) (x : Option (XE × Bool)) : Bool :=
  match g with
  | none => (match x with | none => true | some _ => false)
  | some (j, want) => (match x with
    | none => false
    | some (e, want') => (want == want') && (match os[j]? with
      | some o => (match o.dst with
        | some d => alOk K q (alAt A wl xs os i (.tmp d)) e
        | none => false)
      | none => false))

def chkD1 (P : Program) (K nt : Nat) : List Oper → Nat → Bool
  | [], _ => true
  | o :: r, i => dstOk nt o.dst && (match plainMove o with
    | some _ => true
    | none => (match posOf xs i 0 with
      | some q => (match xs[q]? with
        | some d => chkGD A wl xs os K q i o.guard d.o.guard && chkOp P (fun y e => alOk K q (alAt A wl xs os i y) e) o.op d.o.op
        | none => false)
      | none => false)) && chkD1 P K nt r (Nat.add i 1)

def posD : List XDop → Nat → Bool
  | [], _ => true
  | d :: r, q => (match posOf xs d.j 0 with | some q' => Nat.beq q' q | none => false) && (match os[d.j]? with | some o => (match plainMove o with | none => true | some _ => false) | none => false) && posD r (Nat.add q 1)

def pairsD : List XDop → Bool
  | [] => true
  | d :: r => (match d.kind with | .pure => true | _ => r.all (fun d' => !isChain d' || has A d'.j d.j)) && pairsD r

def backOk (j : Nat) : Nat → List XDop → Bool
  | _, [] => true
  | b, d :: r => bif isChain d then (match b with
    | 0 => has A j d.j && backOk j 0 r
    | b + 1 => backOk j b r) else backOk j b r

/-- done: those ahead, the last one first. -/
def backsD : List XDop → List XDop → Bool
  | _, [] => true
  | done, d :: r => (match d.kind with | .read b => backOk A d.j b done | _ => true) && backsD (d :: done) r

def newsD (news : Nat) : Nat → List XDop → Bool
  | c, [] => Nat.ble c news
  | c, d :: r => (match d.kind with
    | .new i => Nat.beq i c && newsD news (Nat.add c 1) r
    | _ => newsD news c r)

def updD (K : Nat) : List (Nat × XE) → Bool
  | [] => true
  | (t, e) :: r => (match chkW A os.length t wl none with
    | some (some c) => alOk K xs.length (infD A wl xs os 20 c) e
    | _ => false) && updD K r

def coverD (K : Nat) (upd : List (Nat × XE)) : List (Nat × Nat) → Bool
  | [] => true
  | (_, d) :: r => (!K.testBit d || hasU upd d) && coverD K upd r
end

def edgesD : List Oper → Nat → Bool
  | [], _ => true
  | o :: r, i => o.after.toList.all (fun e => !Region.binds .any e || Nat.blt e.on i) && edgesD r (Nat.add i 1)

/-- The checker of a drawn region. -/
def drawD (P : Program) (K nt : Nat) (all : Array Oper) (news : Nat) (xs : List XDop) (upd : List (Nat × XE)) : Bool :=
  let os := all.toList
  let A := ancs os []
  let wl := wlist os 0
  P.follows .mixedOrders && edgesD os 0 && chkD1 A wl xs os P K nt os 0 && posD xs os xs 0 && pairsD A xs && backsD A [] xs && newsD news 0 xs && updD A wl xs os K upd && coverD K upd wl

/-! ### What they say -/
theorem wlist_mem : ∀ (os : List Oper) (i : Nat) (j d : Nat), (j, d) ∈ wlist os i ↔ i ≤ j ∧ ∃ o, os[j - i]? = some o ∧ o.dst = some d
  | [], i, j, d => by simp [wlist]
  | o :: os, i, j, d => by
    have ih := wlist_mem os (i + 1) j d
    have e1 : Nat.add i 1 = i + 1 := rfl
    have key : (i + 1 ≤ j ∧ ∃ o', os[j - (i + 1)]? = some o' ∧ o'.dst = some d) ∨ (j = i ∧ o.dst = some d) ↔ i ≤ j ∧ ∃ o', (o :: os)[j - i]? = some o' ∧ o'.dst = some d := by
      constructor
      · rintro (⟨h1, o', h2, h3⟩ | ⟨rfl, h⟩)
        · refine ⟨by omega, o', ?_, h3⟩
          have : j - i = (j - (i + 1)) + 1 := by omega
          rw [this, List.getElem?_cons_succ]; exact h2
        · exact ⟨Nat.le_refl _, o, by simp, h⟩
      · rintro ⟨h1, o', h2, h3⟩
        rcases Nat.eq_or_lt_of_le h1 with h | h
        · subst h
          simp at h2
          subst h2
          exact .inr ⟨rfl, h3⟩
        · have : j - i = (j - (i + 1)) + 1 := by omega
          rw [this, List.getElem?_cons_succ] at h2
          exact .inl ⟨by omega, o', h2, h3⟩
    rw [← key]
    simp only [wlist, e1]
    cases ho : o.dst with
    | none => simp [ih]
    | some d' =>
      simp only [List.mem_cons, Prod.mk.injEq, ih, Option.some.injEq]
      constructor
      · rintro (⟨rfl, rfl⟩ | h)
        · exact .inr ⟨rfl, rfl⟩
        · exact .inl h
      · rintro (h | ⟨rfl, rfl⟩)
        · exact .inr h
        · exact .inl ⟨rfl, rfl⟩

theorem wlist_sorted : ∀ (os : List Oper) (i : Nat), (wlist os i).Pairwise (fun a b => a.1 < b.1)
  | [], i => by simp [wlist]
  | o :: os, i => by
    have ih := wlist_sorted os (i + 1)
    have e1 : Nat.add i 1 = i + 1 := rfl
    simp only [wlist, e1]
    cases o.dst with
    | none => exact ih
    | some d =>
      refine List.pairwise_cons.2 ⟨fun p hp => ?_, ih⟩
      obtain ⟨j, d'⟩ := p
      have := (wlist_mem os (i + 1) j d').1 hp
      show i < j
      omega

/-- A row of writers: c is the last ahead of i among `l` and what came before (all of which c needs). -/
theorem chkW_sound {A : List Nat} {i t : Nat} (L : Nat → Prop) (hL : ∀ j k, has A j k = true → L j → L k) : ∀ (l : List (Nat × Nat)) (cur res : Option Nat), chkW A i t l cur = some res →
    -- those behind i have i among their needs
    (∀ j, (j, t) ∈ l → i < j → has A j i = true) ∧
    -- the result: the last ahead, if there is one
    (match res with
     | none => cur = none ∧ ∀ j, (j, t) ∈ l → ¬ j < i
     | some c => (cur = some c ∨ ((c, t) ∈ l ∧ c < i)) ∧
        -- all are done once c is; each but c is needed by another
        (L c → (∀ j, (j, t) ∈ l → j < i → L j) ∧ (∀ c0, cur = some c0 → L c0)) ∧
        (∀ j, ((j, t) ∈ l ∧ j < i ∨ cur = some j) → j ≠ c → ∃ j', (j', t) ∈ l ∧ j' < i ∧ j < j' ∧ has A j' j = true))
  | [], cur, res, h => by
    simp only [chkW, Option.some.injEq] at h
    subst h
    refine ⟨by simp, ?_⟩
    cases cur with
    | none => exact ⟨rfl, by simp⟩
    | some c => exact ⟨.inl rfl, fun hc => ⟨by simp, fun c0 h0 => by cases h0; exact hc⟩, fun j hj hne => by rcases hj with ⟨h, _⟩ | h <;> simp_all⟩
  | (j0, d) :: r, cur, res, h => by
    simp only [chkW] at h
    by_cases hd : d = t
    · subst hd
      simp only [(beq_iff d d).2 rfl, cond_true] at h
      by_cases hlt : j0 < i
      · simp only [(blt_iff j0 i).2 hlt, cond_true] at h
        have step : chkW A i d r (some j0) = some res ∧ (∀ c0, cur = some c0 → c0 < j0 ∧ has A j0 c0 = true) := by
          cases cur with
          | none => exact ⟨h, by simp⟩
          | some c =>
            simp only at h
            cases hq : (Nat.blt c j0 && has A j0 c) with
            | true =>
              rw [hq] at h
              rw [Bool.and_eq_true, blt_iff] at hq
              exact ⟨h, fun c0 h0 => by cases h0; exact hq⟩
            | false => rw [hq] at h; cases h
        obtain ⟨h, hcur⟩ := step
        obtain ⟨g1, g2⟩ := chkW_sound L hL r (some j0) res h
        refine ⟨fun j hj hij => ?_, ?_⟩
        · rcases List.mem_cons.1 hj with e | e
          · cases e; omega
          · exact g1 j e hij
        · cases res with
          | none => exact absurd g2.1 (by simp)
          | some c =>
            obtain ⟨k1, k2, k3⟩ := g2
            refine ⟨?_, fun hc => ?_, fun j hj hne => ?_⟩
            · rcases k1 with h' | ⟨h', h''⟩
              · cases h'; exact .inr ⟨by simp, hlt⟩
              · exact .inr ⟨List.mem_cons_of_mem _ h', h''⟩
            · obtain ⟨m1, m2⟩ := k2 hc
              have hj0 := m2 j0 rfl
              refine ⟨fun j hj hji => ?_, fun c0 h0 => hL _ _ (hcur c0 h0).2 hj0⟩
              rcases List.mem_cons.1 hj with e | e
              · cases e; exact hj0
              · exact m1 j e hji
            · rcases hj with ⟨hj, hji⟩ | hj
              · rcases List.mem_cons.1 hj with e | e
                · cases e
                  obtain ⟨j', q1, q2, q3⟩ := k3 j0 (.inr rfl) hne
                  exact ⟨j', List.mem_cons_of_mem _ q1, q2, q3⟩
                · obtain ⟨j', q1, q2, q3⟩ := k3 j (.inl ⟨e, hji⟩) hne
                  exact ⟨j', List.mem_cons_of_mem _ q1, q2, q3⟩
              · exact ⟨j0, by simp, hlt, hcur j hj⟩
      · have hb : Nat.blt j0 i = false := (blt_false j0 i).2 (by omega)
        simp only [hb, cond_false] at h
        have step : chkW A i d r cur = some res ∧ (i < j0 → has A j0 i = true) := by
          by_cases he : j0 = i
          · subst he
            simp only [(beq_iff j0 j0).2 rfl, cond_true] at h
            exact ⟨h, fun h => by omega⟩
          · simp only [(beq_false j0 i).2 he, cond_false] at h
            cases hq : has A j0 i with
            | true => rw [hq] at h; exact ⟨h, fun _ => rfl⟩
            | false => rw [hq] at h; cases h
        obtain ⟨h, hbeh⟩ := step
        obtain ⟨g1, g2⟩ := chkW_sound L hL r cur res h
        refine ⟨fun j hj hij => ?_, ?_⟩
        · rcases List.mem_cons.1 hj with e | e
          · cases e; exact hbeh hij
          · exact g1 j e hij
        · cases res with
          | none =>
            refine ⟨g2.1, fun j hj => ?_⟩
            rcases List.mem_cons.1 hj with e | e
            · cases e; exact hlt
            · exact g2.2 j e
          | some c =>
            obtain ⟨k1, k2, k3⟩ := g2
            refine ⟨?_, fun hc => ?_, fun j hj hne => ?_⟩
            · rcases k1 with h' | ⟨h', h''⟩
              · exact .inl h'
              · exact .inr ⟨List.mem_cons_of_mem _ h', h''⟩
            · obtain ⟨m1, m2⟩ := k2 hc
              refine ⟨fun j hj hji => ?_, m2⟩
              rcases List.mem_cons.1 hj with e | e
              · cases e; omega
              · exact m1 j e hji
            · have : (j, d) ∈ r ∧ j < i ∨ cur = some j := by
                rcases hj with ⟨hj, hji⟩ | hj
                · rcases List.mem_cons.1 hj with e | e
                  · cases e; omega
                  · exact .inl ⟨e, hji⟩
                · exact .inr hj
              obtain ⟨j', q1, q2, q3⟩ := k3 j this hne
              exact ⟨j', List.mem_cons_of_mem _ q1, q2, q3⟩
    · simp only [(beq_false d t).2 hd, cond_false] at h
      obtain ⟨g1, g2⟩ := chkW_sound L hL r cur res h
      have hm : ∀ j, (j, t) ∈ (j0, d) :: r ↔ (j, t) ∈ r := fun j => by
        simp only [List.mem_cons, Prod.mk.injEq]
        constructor
        · rintro (⟨_, rfl⟩ | h)
          · exact absurd rfl hd
          · exact h
        · exact .inr
      refine ⟨fun j hj hij => g1 j ((hm j).1 hj) hij, ?_⟩
      cases res with
      | none => exact ⟨g2.1, fun j hj => g2.2 j ((hm j).1 hj)⟩
      | some c =>
        obtain ⟨k1, k2, k3⟩ := g2
        refine ⟨?_, fun hc => ⟨fun j hj => (k2 hc).1 j ((hm j).1 hj), (k2 hc).2⟩, fun j hj hne => ?_⟩
        · rcases k1 with h' | ⟨h', h''⟩
          · exact .inl h'
          · exact .inr ⟨(hm c).2 h', h''⟩
        · have hj2 : (j, t) ∈ r ∧ j < i ∨ cur = some j := by
            rcases hj with ⟨h', h''⟩ | h'
            · exact .inl ⟨(hm j).1 h', h''⟩
            · exact .inr h'
          obtain ⟨j', q1, q2⟩ := k3 j hj2 hne
          exact ⟨j', (hm j').2 q1, q2⟩
end Go.X
/- Regions whose order is drawn: what X's states say. -/
namespace Go.X
set_option linter.unusedVariables false
set_option linter.unusedSimpArgs false
section
variable {F : FT} {ih : Ih} {T : Tr XV} {base : Nat} {xs : List XDop} {st : Nat → DSt}

def valsOf (st : Nat → DSt) (p : Nat) : XV := evs (st (p + 1)).S 0

theorem step_S {s s' : DSt} {d : XDop} (h : DStep F ih T base s d s') : ∃ v, s'.S = v :: s.S := by
  rcases h with ⟨_, h, _⟩ | ⟨_, v, h, _⟩
  · exact ⟨_, h⟩
  · exact ⟨v, h⟩

theorem vals_ev (hst : ∀ q d, xs[q]? = some d → DStep F ih T base (st q) d (st (q + 1))) : ∀ q, q ≤ xs.length → ∀ p, p < q → evs (st q).S (q - 1 - p) = valsOf st p
  | 0, _, p, hp => by omega
  | q + 1, hq, p, hp => by
    obtain ⟨v, hv⟩ := step_S (hst q xs[q] (List.getElem?_eq_getElem (by omega)))
    rcases Nat.eq_or_lt_of_le (Nat.le_of_lt_succ hp) with h | h
    · subst h
      have : p + 1 - 1 - p = 0 := by omega
      rw [this]; rfl
    · have e : q + 1 - 1 - p = (q - 1 - p) + 1 := by omega
      rw [e, hv]
      exact vals_ev hst q (by omega) p h

/-! ### Positions -/
theorem posD_sound {xs0 : List XDop} {os : List Oper} : ∀ (xs : List XDop) (q : Nat), posD xs0 os xs q = true → ∀ (k : Nat) (d : XDop), xs[k]? = some d → posOf xs0 d.j 0 = some (q + k) ∧ ∃ o, os[d.j]? = some o ∧ plainMove o = none
  | [], q, _, k, d, hk => by simp at hk
  | x :: xs, q, h, k, d, hk => by
    simp only [posD, Bool.and_eq_true] at h
    obtain ⟨⟨h1, h2⟩, h3⟩ := h
    cases k with
    | zero =>
      simp only [List.getElem?_cons_zero, Option.some.injEq] at hk
      subst hk
      refine ⟨?_, ?_⟩
      · split at h1
        · rename_i q' hq'
          rw [beq_iff] at h1
          rw [hq', h1]; rfl
        · cases h1
      · split at h2
        · rename_i o ho
          split at h2
          · rename_i hp; exact ⟨o, ho, hp⟩
          · cases h2
        · cases h2
    | succ k =>
      have := posD_sound xs (q + 1) h3 k d (by simpa using hk)
      have e : q + 1 + k = q + (k + 1) := by omega
      rw [e] at this
      exact this

theorem posOf_get : ∀ (xs : List XDop) (i q r : Nat), posOf xs i q = some r → q ≤ r ∧ ∃ d, xs[r - q]? = some d ∧ d.j = i
  | [], i, q, r, h => by simp [posOf] at h
  | d :: xs, i, q, r, h => by
    simp only [posOf] at h
    by_cases e : d.j = i
    · rw [(beq_iff d.j i).2 e] at h
      simp only [cond_true, Option.some.injEq] at h
      subst h
      exact ⟨Nat.le_refl _, d, by simp, e⟩
    · rw [(beq_false d.j i).2 e] at h
      simp only [cond_false] at h
      obtain ⟨h1, d', h2, h3⟩ := posOf_get xs i (q + 1) r h
      refine ⟨by omega, d', ?_, h3⟩
      have : r - q = (r - (q + 1)) + 1 := by omega
      rw [this, List.getElem?_cons_succ]; exact h2

theorem pairsD_sound {A : List Nat} : ∀ (xs : List XDop), pairsD A xs = true → ∀ (q q' : Nat) (d d' : XDop), xs[q]? = some d → xs[q']? = some d' → q < q' → d.kind ≠ .pure → isChain d' = true → has A d'.j d.j = true
  | [], _, q, _, d, _, h, _, _, _, _ => by simp at h
  | x :: xs, h, q, q', d, d', hq, hq', hlt, hk, hc => by
    simp only [pairsD, Bool.and_eq_true] at h
    obtain ⟨h1, h2⟩ := h
    cases q' with
    | zero => omega
    | succ q' =>
      simp only [List.getElem?_cons_succ] at hq'
      cases q with
      | zero =>
        simp only [List.getElem?_cons_zero, Option.some.injEq] at hq
        subst hq
        have hall : xs.all (fun d' => !isChain d' || has A d'.j x.j) = true := by
          cases hk' : x.kind <;> rw [hk'] at h1 <;> first | exact absurd hk' hk | exact h1
        have := List.all_eq_true.1 hall d' (List.mem_of_getElem? hq')
        simpa [hc] using this
      | succ q =>
        exact pairsD_sound xs h2 q q' d d' (by simpa using hq) hq' (by omega) hk hc

/-- How many of the chain in a list. -/
def nch (l : List XDop) : Nat := (l.filter isChain).length

theorem backOk_sound {A : List Nat} {j : Nat} : ∀ (l : List XDop) (b : Nat), backOk A j b l = true → ∀ (k : Nat) (d : XDop), l[k]? = some d → isChain d = true → b ≤ nch (l.take k) → has A j d.j = true
  | [], b, _, k, d, hk, _, _ => by simp at hk
  | x :: l, b, h, k, d, hk, hc, hb => by
    simp only [backOk] at h
    cases hx : isChain x with
    | false =>
      rw [hx] at h
      simp only [cond_false] at h
      cases k with
      | zero =>
        simp only [List.getElem?_cons_zero, Option.some.injEq] at hk
        subst hk; rw [hx] at hc; cases hc
      | succ k =>
        refine backOk_sound l b h k d (by simpa using hk) hc ?_
        simpa [nch, List.take_succ_cons, List.filter_cons, hx] using hb
    | true =>
      rw [hx] at h
      simp only [cond_true] at h
      cases b with
      | zero =>
        simp only [Bool.and_eq_true] at h
        cases k with
        | zero =>
          simp only [List.getElem?_cons_zero, Option.some.injEq] at hk
          subst hk; exact h.1
        | succ k => exact backOk_sound l 0 h.2 k d (by simpa using hk) hc (Nat.zero_le _)
      | succ b =>
        simp only at h
        cases k with
        | zero => simp [nch] at hb
        | succ k =>
          refine backOk_sound l b h k d (by simpa using hk) hc ?_
          have : nch ((x :: l).take (k + 1)) = nch (l.take k) + 1 := by simp [nch, List.take_succ_cons, List.filter_cons, hx]
          omega

theorem backsD_sound {A : List Nat} : ∀ (xs done : List XDop), backsD A done xs = true → ∀ (q : Nat) (d : XDop) (b : Nat), xs[q]? = some d → d.kind = .read b → backOk A d.j b ((xs.take q).reverse ++ done) = true
  | [], _, _, q, d, b, h, _ => by simp at h
  | x :: xs, done, h, q, d, b, hq, hk => by
    simp only [backsD, Bool.and_eq_true] at h
    cases q with
    | zero =>
      simp only [List.getElem?_cons_zero, Option.some.injEq] at hq
      subst hq
      have := h.1
      rw [hk] at this
      simpa using this
    | succ q =>
      have := backsD_sound xs (x :: done) h.2 q d b (by simpa using hq) hk
      simpa [List.take_succ_cons, List.reverse_cons, List.append_assoc] using this

theorem newsD_sound {news : Nat} : ∀ (xs : List XDop) (c : Nat), newsD news c xs = true → (∀ (q : Nat) (d : XDop) (i : Nat), xs[q]? = some d → d.kind = .new i → c ≤ i ∧ i < news) ∧
    (∀ (q q' : Nat) (d d' : XDop) (i : Nat), xs[q]? = some d → xs[q']? = some d' → d.kind = .new i → d'.kind = .new i → q = q') ∧ c ≤ news
  | [], c, h => ⟨fun q d i h => by simp at h, fun q q' d d' i h => by simp at h, by simpa [newsD, ble_iff] using h⟩
  | x :: xs, c, h => by
    simp only [newsD] at h
    have other : (∀ i, x.kind ≠ .new i) → newsD news c xs = true → _ := fun hne h' => by
      obtain ⟨g1, g2, g3⟩ := newsD_sound xs c h'
      refine (⟨fun q d i hq hk => ?_, fun q q' d d' i hq hq' hk hk' => ?_, g3⟩ : (∀ (q : Nat) (d : XDop) (i : Nat), (x :: xs)[q]? = some d → d.kind = .new i → c ≤ i ∧ i < news) ∧
        (∀ (q q' : Nat) (d d' : XDop) (i : Nat), (x :: xs)[q]? = some d → (x :: xs)[q']? = some d' → d.kind = .new i → d'.kind = .new i → q = q') ∧ c ≤ news)
      · cases q with
        | zero => simp only [List.getElem?_cons_zero, Option.some.injEq] at hq; subst hq; exact absurd hk (hne i)
        | succ q => exact g1 q d i (by simpa using hq) hk
      · cases q with
        | zero => simp only [List.getElem?_cons_zero, Option.some.injEq] at hq; subst hq; exact absurd hk (hne i)
        | succ q =>
          cases q' with
          | zero => simp only [List.getElem?_cons_zero, Option.some.injEq] at hq'; subst hq'; exact absurd hk' (hne i)
          | succ q' => rw [g2 q q' d d' i (by simpa using hq) (by simpa using hq') hk hk']
    cases hxk : x.kind with
    | new i0 =>
      rw [hxk] at h
      simp only [Bool.and_eq_true, beq_iff] at h
      obtain ⟨rfl, h⟩ := h
      obtain ⟨g1, g2, g3⟩ := newsD_sound xs (i0 + 1) h
      refine ⟨fun q d i hq hk => ?_, fun q q' d d' i hq hq' hk hk' => ?_, by omega⟩
      · cases q with
        | zero =>
          simp only [List.getElem?_cons_zero, Option.some.injEq] at hq; subst hq
          rw [hxk] at hk; cases hk
          exact ⟨Nat.le_refl _, by omega⟩
        | succ q =>
          have := g1 q d i (by simpa using hq) hk
          exact ⟨by omega, this.2⟩
      · cases q with
        | zero =>
          simp only [List.getElem?_cons_zero, Option.some.injEq] at hq; subst hq
          rw [hxk] at hk; cases hk
          cases q' with
          | zero => rfl
          | succ q' =>
            have := g1 q' d' i0 (by simpa using hq') hk'
            omega
        | succ q =>
          cases q' with
          | zero =>
            simp only [List.getElem?_cons_zero, Option.some.injEq] at hq'; subst hq'
            rw [hxk] at hk'; cases hk'
            have := g1 q d i0 (by simpa using hq) hk
            omega
          | succ q' => rw [g2 q q' d d' i (by simpa using hq) (by simpa using hq') hk hk']
    | pure => rw [hxk] at h; exact other (by simp [hxk]) h
    | read b => rw [hxk] at h; exact other (by simp [hxk]) h
    | chain => rw [hxk] at h; exact other (by simp [hxk]) h

/-- A new block that X makes at a position. -/
def IsNew (T : Tr XV) (base : Nat) (xs : List XDop) (st : Nat → DSt) (q i : Nat) (o : XO) : Prop :=
  ∃ d op f, xs[q]? = some d ∧ d.kind = .new i ∧ d.o.op = .n op ∧ lets T (st q).S d.o.guard = some true ∧ xnew T (st q).S op = some (o, f) ∧ valsOf st q = f (base + i)

theorem IsNew.uniq {q q' i : Nat} {o o' : XO} {news : Nat} (hn : newsD news 0 xs = true) (h : IsNew T base xs st q i o) (h' : IsNew T base xs st q' i o') : q = q' ∧ o = o' := by
  obtain ⟨d, op, f, h1, h2, h3, h4, h5, h6⟩ := h
  obtain ⟨d', op', f', g1, g2, g3, g4, g5, g6⟩ := h'
  have := (newsD_sound xs 0 hn).2.1 q q' d d' i h1 g1 h2 g2
  subst this
  rw [h1] at g1; cases g1
  rw [h3] at g3; cases g3
  rw [h5] at g5; cases g5
  exact ⟨rfl, rfl⟩

theorem xnew_wrt {S : List XV} {op : XN} {o : XO} {f : Nat → XV} (h : xnew T S op = some (o, f)) : wrt o ∧ parOf o = [] := by
  cases op <;> simp only [xnew] at h
  all_goals (repeat' split at h) <;> first | (cases h; done) | (simp only [Option.some.injEq, Prod.mk.injEq] at h; obtain ⟨rfl, _⟩ := h; exact ⟨by first | rfl | trivial, rfl⟩) | skip
  all_goals
    obtain ⟨_, h⟩ := bif_some h
    (repeat' split at h) <;> first | (cases h; done) | (simp only [Option.some.injEq, Prod.mk.injEq] at h; obtain ⟨rfl, _⟩ := h; exact ⟨by first | rfl | trivial, rfl⟩)

/-- From one position to another, no operation of the chain between: only new blocks. -/
theorem segment {news : Nat} (hn : newsD news 0 xs = true) (hst : ∀ q d, xs[q]? = some d → DStep F ih T base (st q) d (st (q + 1))) (hlim : base + news ≤ trMax) (fr : Nat) : ∀ n, fr + n ≤ xs.length → (∀ q d, fr ≤ q → q < fr + n → xs[q]? = some d → isChain d = false) →
    Tr.full 14 (st fr).H →
    (st (fr + n)).nx = (st fr).nx ∧ (st (fr + n)).hs = (st fr).hs ∧ Tr.full 14 (st (fr + n)).H ∧
    (∀ q i o, IsNew T base xs st q i o → fr ≤ q → q < fr + n → hget (st (fr + n)).H (base + i) = o) ∧
    (∀ x, (∀ q i o, IsNew T base xs st q i o → fr ≤ q → q < fr + n → x ≠ base + i) → hget (st (fr + n)).H x = hget (st fr).H x)
  | 0, _, _, hf => ⟨rfl, rfl, hf, fun q i o _ h1 h2 => by omega, fun x _ => rfl⟩
  | n + 1, hle, hnc, hf => by
    obtain ⟨g1, g2, g3, g4, g5⟩ := segment hn hst hlim fr n (by omega) (fun q d h1 h2 => hnc q d h1 (by omega)) hf
    have hget' : xs[fr + n]? = some xs[fr + n] := List.getElem?_eq_getElem (by omega)
    have hs := hst (fr + n) _ hget'
    have hc := hnc (fr + n) _ (by omega) (by omega) hget'
    have e1 : fr + (n + 1) = fr + n + 1 := by omega
    rw [e1]
    have same : (st (fr + n + 1)).H = (st (fr + n)).H → (∀ i o, ¬ IsNew T base xs st (fr + n) i o) → (st (fr + n + 1)).nx = (st (fr + n)).nx → (st (fr + n + 1)).hs = (st (fr + n)).hs → _ := fun h1 h2 h3 h4 =>
      (⟨h3.trans g1, h4.trans g2, by rw [h1]; exact g3, fun q i o hq q1 q2 => by
        rcases Nat.lt_or_ge q (fr + n) with h | h
        · rw [h1]; exact g4 q i o hq q1 h
        · have : q = fr + n := by omega
          subst this; exact absurd hq (h2 i o), fun x hx => by rw [h1]; exact g5 x (fun q i o hq q1 q2 => hx q i o hq q1 (by omega))⟩ :
        (st (fr + n + 1)).nx = (st fr).nx ∧ (st (fr + n + 1)).hs = (st fr).hs ∧ Tr.full 14 (st (fr + n + 1)).H ∧
        (∀ q i o, IsNew T base xs st q i o → fr ≤ q → q < fr + n + 1 → hget (st (fr + n + 1)).H (base + i) = o) ∧
        (∀ x, (∀ q i o, IsNew T base xs st q i o → fr ≤ q → q < fr + n + 1 → x ≠ base + i) → hget (st (fr + n + 1)).H x = hget (st fr).H x))
    rcases hs with ⟨h1, h2, h3, h4, h5⟩ | ⟨h1, v, h2, h3⟩
    · refine same h3 (fun i o hq => ?_) h4 (by rw [h5, hc]; rfl)
      obtain ⟨d, op, f, k1, k2, k3, k4, k5, k6⟩ := hq
      rw [hget'] at k1; cases k1
      rw [h1] at k4; cases k4
    · split at h3
      · rename_i op hk ho
        refine same h3.2.1 (fun i o hq => ?_) h3.2.2.1 h3.2.2.2
        obtain ⟨d, op, f, k1, k2, k3, k4, k5, k6⟩ := hq
        rw [hget'] at k1; cases k1
        rw [hk] at k2; cases k2
      · rename_i back op hk ho
        refine same h3.2.1 (fun i o hq => ?_) h3.2.2.1 h3.2.2.2
        obtain ⟨d, op, f, k1, k2, k3, k4, k5, k6⟩ := hq
        rw [hget'] at k1; cases k1
        rw [hk] at k2; cases k2
      · rename_i i op hk ho
        obtain ⟨⟨o, f, m1, m2, m3⟩, m4, m5⟩ := h3
        have hi := ((newsD_sound xs 0 hn).1 (fr + n) _ i hget' hk).2
        have hit : base + i < trMax := by omega
        have hv : valsOf st (fr + n) = f (base + i) := by
          show evs (st (fr + n + 1)).S 0 = _
          rw [h2]; exact m2
        have hnew : IsNew T base xs st (fr + n) i o := ⟨_, op, f, hget', hk, ho, h1, m1, hv⟩
        have hH : ∀ x, hget (st (fr + n + 1)).H x = if x = base + i then o else hget (st (fr + n)).H x := fun x => by rw [m3]; exact hget_set g3 hit x
        refine ⟨m4.trans g1, m5.trans g2, by rw [m3]; exact Tr.full_set _ _ _ _ g3, fun q i' o' hq q1 q2 => ?_, fun x hx => ?_⟩
        · rw [hH]
          by_cases e : i' = i
          · subst e
            obtain ⟨rfl, rfl⟩ := hq.uniq hn hnew
            rw [if_pos rfl]
          · rw [if_neg (by omega)]
            rcases Nat.lt_or_ge q (fr + n) with h | h
            · exact g4 q i' o' hq q1 h
            · have : q = fr + n := by omega
              subst this
              obtain ⟨d, op', f', k1, k2, _⟩ := hq
              rw [hget'] at k1; cases k1
              rw [hk] at k2; cases k2
              exact absurd rfl e
        · rw [hH, if_neg (hx (fr + n) i o hnew (by omega) (by omega))]
          exact g5 x (fun q i o hq q1 q2 => hx q i o hq q1 (by omega))
      · rename_i hk
        unfold isChain at hc
        rw [hk] at hc
        cases hc
      · exact h3.elim

/-- The heaps behind the operations of the chain. -/
theorem hs_split (hst : ∀ q d, xs[q]? = some d → DStep F ih T base (st q) d (st (q + 1))) (fr : Nat) : ∀ n, fr + n ≤ xs.length → ∃ l, (st (fr + n)).hs = l ++ (st fr).hs ∧ l.length = nch ((xs.drop fr).take n)
  | 0, _ => ⟨[], rfl, rfl⟩
  | n + 1, hle => by
    obtain ⟨l, h1, h2⟩ := hs_split hst fr n (by omega)
    have hget' : xs[fr + n]? = some xs[fr + n] := List.getElem?_eq_getElem (by omega)
    have hs := hst (fr + n) _ hget'
    have hcount : nch ((xs.drop fr).take (n + 1)) = nch ((xs.drop fr).take n) + (if isChain xs[fr + n] then 1 else 0) := by
      have : (xs.drop fr).take (n + 1) = (xs.drop fr).take n ++ [xs[fr + n]] := by
        rw [List.take_add_one, List.getElem?_drop, hget']; rfl
      rw [this]
      simp only [nch, List.filter_append, List.length_append, List.filter_cons, List.filter_nil]
      split <;> rfl
    have e1 : fr + (n + 1) = fr + n + 1 := by omega
    rw [e1, hcount]
    have no : (st (fr + n + 1)).hs = (st (fr + n)).hs → isChain xs[fr + n] = false → ∃ l, (st (fr + n + 1)).hs = l ++ (st fr).hs ∧ l.length = nch ((xs.drop fr).take n) + (if isChain xs[fr + n] then 1 else 0) := by
      intro h3 h4
      exact ⟨l, h3.trans h1, by rw [h4, h2]; rfl⟩
    rcases hs with ⟨_, _, _, _, h5⟩ | ⟨_, v, _, h3⟩
    · cases hc : isChain xs[fr + n] with
      | false => rw [hc] at h5; rw [← hc]; exact no h5 hc
      | true => rw [hc] at h5; exact ⟨_ :: l, by rw [h5, h1]; rfl, by simp [h2]⟩
    · split at h3
      · rename_i hk _; exact no h3.2.2.2 (by unfold isChain; rw [hk])
      · rename_i hk _; exact no h3.2.2.2 (by unfold isChain; rw [hk])
      · rename_i hk _; exact no h3.2.2 (by unfold isChain; rw [hk])
      · rename_i hk
        have hc : isChain xs[fr + n] = true := by unfold isChain; rw [hk]
        exact ⟨_ :: l, by rw [h3.2, h1]; rfl, by simp [h2, hc]⟩
      · exact h3.elim

theorem elder_sound {S : List XV} {op : XQ} {v : XV} : ∀ (k : Nat) (hs : List (Tr XO)), elder T S op v k hs = true → ∀ r H, r < k → hs[r]? = some H → xread T S H op = some v
  | 0, _, _, r, _, hr, _ => by omega
  | k + 1, [], h, r, H, _, hH => by simp at hH
  | k + 1, H0 :: hs, h, r, H, hr, hH => by
    simp only [elder] at h
    split at h
    · rename_i u hu
      rw [Bool.and_eq_true] at h
      cases r with
      | zero =>
        simp only [List.getElem?_cons_zero, Option.some.injEq] at hH
        subst hH
        rw [hu, sameW_eq h.1]
      | succ r => exact elder_sound k hs h.2 r H (by omega) (by simpa using hH)
    · cases h
end
end Go.X
/- Regions whose order is drawn: what holds amid them. -/
namespace Go.X
set_option linter.unusedVariables false
set_option linter.unusedSimpArgs false

/-- What a temporary's last writer left. -/
def AlV (ρ : Rho) (vals : Nat → XV) (N : Nat) (t0 : Array Value) (v : Value) : Al → Prop
  | .s p => p < N ∧ VR ρ (vals p) v
  | .l t => v = t0.getD t undef
  | .k c => v = c
  | .f f => v = .func (.func f) #[] #[]
  | .no => True

theorem AlV.mono {ρ ρ' : Rho} (h : ρ.le ρ') {vals : Nat → XV} {N : Nat} {t0 : Array Value} {v : Value} : ∀ {a : Al}, AlV ρ vals N t0 v a → AlV ρ' vals N t0 v a
  | .s _, h1 => ⟨h1.1, VR.mono h h1.2⟩
  | .l _, h => h
  | .k _, h => h
  | .f _, h => h
  | .no, h => h

theorem AlV.ok {ρ : Rho} {st : Nat → DSt} {K q N : Nat} {t0 : Array Value} {T : Tr XV} (ht : TR ρ K T t0) (hv : ∀ p, p < q → evs (st q).S (q - 1 - p) = valsOf st p) {v : Value} {e : XE} : ∀ {a : Al}, AlV ρ (valsOf st) N t0 v a → alOk K q a e = true → VR ρ (e.ev T (st q).S) v
  | .s p, h1, h => by
    cases e <;> simp only [alOk, Bool.false_eq_true, beq_iff] at h
    rename_i k
    have e : Nat.add p (Nat.add k 1) = p + (k + 1) := rfl
    rw [e] at h
    have h2 := hv p (by omega)
    have : q - 1 - p = k := by omega
    rw [this] at h2
    show VR ρ (evs (st q).S k) v
    rw [h2]; exact h1.2
  | .l t, h0, h => by
    cases e <;> simp only [alOk, Bool.false_eq_true, Bool.and_eq_true, beq_iff] at h
    obtain ⟨rfl, h⟩ := h
    rw [h0]
    exact ht t h
  | .k c, h0, h => by
    cases e <;> simp only [alOk, Bool.false_eq_true] at h
    rw [h0]
    exact cok_sound ρ h
  | .f f, h0, h => by
    simp only [alOk] at h
    split at h
    · rw [beq_iff] at h
      subst h
      rw [h0]
      simp only [XE.ev, VR]
      exact ⟨[], [], rfl, trivial, trivial⟩
    · cases h
  | .no, _, h => by simp [alOk] at h

section
variable (os : List Oper) (xs : List XDop) (st : Nat → DSt) (t0 : Array Value)

/-- The slots: the last writer of each. -/
def WrR (ρ : Rho) (L : Nat → Prop) (lw : Nat → Option Nat) (tmps : Array Value) : Prop :=
  ∀ t, match lw t with
    | none => tmps.getD t undef = t0.getD t undef ∧ ∀ j, L j → (j, t) ∉ wlist os 0
    | some j => L j ∧ (j, t) ∈ wlist os 0 ∧ (∀ j', L j' → (j', t) ∈ wlist os 0 → j < j' → has (ancs os []) j' j = false) ∧
        ∀ f, AlV ρ (valsOf st) xs.length t0 (tmps.getD t undef) (infD (ancs os []) (wlist os 0) xs os f j)

def addL (L : Nat → Prop) (i : Nat) : Nat → Prop := fun j => j = i ∨ L j
end

section
variable {os : List Oper} {xs : List XDop} {st : Nat → DSt} {t0 : Array Value}

theorem anc_closed {L : Nat → Prop} (hL : Closed os L) {j i : Nat} (h : has (ancs os []) j i = true) (hj : L j) : L i :=
  ancs_sound os os [] rfl (fun j i h => by simp at h) j i h L hL hj

/-- All that i needs is there. -/
def Ready (os : List Oper) (L : Nat → Prop) (i : Nat) : Prop := ¬ L i ∧ ∀ o, os[i]? = some o → ∀ e ∈ o.after.toList, Region.binds .any e = true → L e.on

theorem Ready.closed {L : Nat → Prop} (hL : Closed os L) {i : Nat} (h : Ready os L i) : Closed os (addL L i) := by
  intro j o ho hj e he hb
  rcases hj with rfl | hj
  · exact .inr (h.2 o ho e he hb)
  · exact .inr (hL j o ho hj e he hb)

theorem Ready.need {L : Nat → Prop} (hL : Closed os L) {i : Nat} (h : Ready os L i) {j : Nat} (hj : has (ancs os []) i j = true) (hne : j ≠ i) : L j := by
  rcases anc_closed (h.closed hL) hj (.inl rfl) with h' | h'
  · exact absurd h' hne
  · exact h'

theorem Ready.notNeeded {L : Nat → Prop} (hL : Closed os L) {i : Nat} (h : Ready os L i) {j : Nat} (hj : L j) : has (ancs os []) j i = false := by
  cases hq : has (ancs os []) j i with
  | false => rfl
  | true => exact absurd (anc_closed hL hq hj) h.1

/-- What an operand of i holds. -/
theorem look {ρ : Rho} {L : Nat → Prop} {lw : Nat → Option Nat} {a : Act} (hL : Closed os L) (hw : WrR os xs st t0 ρ L lw a.tmps) {i : Nat} (hi : Ready os L i) {t : Nat} {res : Option Nat} (hc : chkW (ancs os []) i t (wlist os 0) none = some res) :
    match res with
    | none => a.tmps.getD t undef = t0.getD t undef
    | some c => has (ancs os []) i c = true → ∀ f, AlV ρ (valsOf st) xs.length t0 (a.tmps.getD t undef) (infD (ancs os []) (wlist os 0) xs os f c) := by
  obtain ⟨g1, g2⟩ := chkW_sound L (fun j k h hj => anc_closed hL h hj) (wlist os 0) none res hc
  have hw' := hw t
  have behind : ∀ j, L j → (j, t) ∈ wlist os 0 → j < i := by
    intro j hj hm
    rcases Nat.lt_trichotomy j i with h | h | h
    · exact h
    · subst h; exact absurd hj hi.1
    · have := g1 j hm h
      rw [hi.notNeeded hL hj] at this; cases this
  cases res with
  | none =>
    cases hl : lw t with
    | none => rw [hl] at hw'; exact hw'.1
    | some j =>
      rw [hl] at hw'
      exact absurd (behind j hw'.1 hw'.2.1) (g2.2 j hw'.2.1)
  | some c =>
    intro hic f
    obtain ⟨k1, k2, k3⟩ := g2
    have hcm : (c, t) ∈ wlist os 0 ∧ c < i := by
      rcases k1 with h | h
      · cases h
      · exact h
    have hLc := hi.need hL hic (by omega)
    obtain ⟨m1, _⟩ := k2 hLc
    cases hl : lw t with
    | none => rw [hl] at hw'; exact absurd hcm.1 (hw'.2 c hLc)
    | some j =>
      rw [hl] at hw'
      obtain ⟨p1, p2, p3, p4⟩ := hw'
      by_cases e : j = c
      · subst e; exact p4 f
      · obtain ⟨j', q1, q2, q3, q4⟩ := k3 j (.inl ⟨p2, behind j p1 p2⟩) e
        have := p3 j' (m1 j' q1 q2) q1 q3
        rw [q4] at this; cases this

/-- The operands, as X has them. -/
theorem look_ev {ρ : Rho} {L : Nat → Prop} {lw : Nat → Option Nat} {a : Act} (hL : Closed os L) (hw : WrR os xs st t0 ρ L lw a.tmps) {i : Nat} (hi : Ready os L i) {K q : Nat} {T : Tr XV} (ht : TR ρ K T t0)
    (hv : ∀ p, p < q → evs (st q).S (q - 1 - p) = valsOf st p) (y : Operand) (e : XE) (h : alOk K q (alAt (ancs os []) (wlist os 0) xs os i y) e = true) : VR ρ (XE.ev T (st q).S e) (a.eval y) := by
  cases y with
  | tmp t =>
    simp only [alAt] at h
    cases hc : chkW (ancs os []) i t (wlist os 0) none with
    | none => rw [hc] at h; simp [alOk] at h
    | some res =>
      rw [hc] at h
      have := look hL hw hi hc
      cases res with
      | none =>
        have h1 : AlV ρ (valsOf st) xs.length t0 (a.eval (.tmp t)) (.l t) := this
        exact h1.ok ht hv h
      | some c =>
        simp only at h
        cases hq : has (ancs os []) i c with
        | false => rw [hq] at h; simp [alOk] at h
        | true =>
          rw [hq] at h
          exact AlV.ok ht hv (this hq 20) h
  | const v => exact AlV.ok (N := xs.length) (t0 := t0) (a := .k v) ht hv rfl h
  | func f => exact AlV.ok (N := xs.length) (t0 := t0) (a := .f f) ht hv rfl h
  | global g => simp [alAt, alOk] at h

/-- A slot is written. -/
theorem WrR.put {ρ ρ' : Rho} {L : Nat → Prop} {lw : Nat → Option Nat} {a : Act} (hL : Closed os L) (hw : WrR os xs st t0 ρ L lw a.tmps) (hle : ρ.le ρ') {i : Nat} (hi : Ready os L i) {o : Oper} (ho : os[i]? = some o) {nt : Nat} (hd : dstOk nt o.dst = true) (hs : nt ≤ a.tmps.size) {u : Value}
    (hu : ∀ d, o.dst = some d → ∀ f, AlV ρ' (valsOf st) xs.length t0 u (infD (ancs os []) (wlist os 0) xs os f i)) :
    ∃ lw', WrR os xs st t0 ρ' (addL L i) lw' (a.put o.dst u).tmps := by
  have hmem : ∀ t, (i, t) ∈ wlist os 0 ↔ o.dst = some t := fun t => by
    rw [wlist_mem]
    constructor
    · rintro ⟨_, o', h1, h2⟩
      rw [Nat.sub_zero, ho] at h1; cases h1; exact h2
    · intro h; exact ⟨Nat.zero_le _, o, by rw [Nat.sub_zero]; exact ho, h⟩
  refine ⟨fun t => if o.dst = some t then some i else lw t, fun t => ?_⟩
  by_cases hdt : o.dst = some t
  · simp only [hdt, if_true]
    refine ⟨.inl rfl, (hmem t).2 hdt, fun j' hj' _ hlt => ?_, fun f => ?_⟩
    · rcases hj' with rfl | hj'
      · omega
      · exact hi.notNeeded hL hj'
    · have : (a.put (some t) u).tmps.getD t undef = u := by
        rw [hdt] at hd
        simp only [dstOk, blt_iff] at hd
        simp only [Act.put]
        rw [getD_set (by omega), if_pos rfl]
      rw [this]
      exact hu t hdt f
  · simp only [hdt, if_false]
    have hval : (a.put o.dst u).tmps.getD t undef = a.tmps.getD t undef := by
      cases hdd : o.dst with
      | none => rfl
      | some d =>
        rw [hdd] at hd
        simp only [dstOk, blt_iff] at hd
        simp only [Act.put]
        rw [getD_set (by omega), if_neg]
        rintro rfl; exact hdt hdd
    rw [hval]
    have := hw t
    cases hl : lw t with
    | none =>
      rw [hl] at this
      refine ⟨this.1, fun j hj => ?_⟩
      rcases hj with rfl | hj
      · exact fun h => hdt ((hmem t).1 h)
      · exact this.2 j hj
    | some j =>
      rw [hl] at this
      obtain ⟨p1, p2, p3, p4⟩ := this
      refine ⟨.inr p1, p2, fun j' hj' hm hlt => ?_, fun f => (p4 f).mono hle⟩
      rcases hj' with rfl | hj'
      · exact absurd ((hmem t).1 hm) hdt
      · exact p3 j' hj' hm hlt

/-- The slots behind the region. -/
theorem upd_final {ρ : Rho} {L : Nat → Prop} {lw : Nat → Option Nat} {a : Act} (hL : Closed os L) (hw : WrR os xs st t0 ρ L lw a.tmps) (hall : ∀ j, j < os.length → L j) {K : Nat} {T : Tr XV} (ht : TR ρ K T t0)
    (hv : ∀ p, p < xs.length → evs (st xs.length).S (xs.length - 1 - p) = valsOf st p) {upd : List (Nat × XE)} (hu : updD (ancs os []) (wlist os 0) xs os K upd = true) (hc : coverD K upd (wlist os 0) = true) :
    TR ρ K (upds T T (st xs.length).S upd) a.tmps := by
  have hlt : ∀ j t, (j, t) ∈ wlist os 0 → j < os.length := fun j t h => by
    obtain ⟨_, o, h1, _⟩ := (wlist_mem os 0 j t).1 h
    rw [Nat.sub_zero] at h1
    exact (List.getElem?_eq_some_iff.1 h1).1
  have umem : ∀ {upd : List (Nat × XE)}, updD (ancs os []) (wlist os 0) xs os K upd = true → ∀ {t e}, (t, e) ∈ upd → ∃ c, chkW (ancs os []) os.length t (wlist os 0) none = some (some c) ∧ alOk K xs.length (infD (ancs os []) (wlist os 0) xs os 20 c) e = true := by
    intro upd
    induction upd with
    | nil => intro _ t e h; simp at h
    | cons p r ih =>
      obtain ⟨t', e'⟩ := p
      intro h t e hm
      simp only [updD, Bool.and_eq_true] at h
      rcases List.mem_cons.1 hm with h1 | h1
      · cases h1
        have h2 := h.1
        split at h2
        · rename_i c hcw; exact ⟨c, hcw, h2⟩
        · cases h2
      · exact ih h.2 h1
  have cmem : ∀ {l : List (Nat × Nat)}, coverD K upd l = true → ∀ {j t}, (j, t) ∈ l → K.testBit t = false ∨ hasU upd t = true := by
    intro l
    induction l with
    | nil => intro _ j t h; simp at h
    | cons p r ih =>
      obtain ⟨j', t'⟩ := p
      intro h j t hm
      simp only [coverD, Bool.and_eq_true, Bool.or_eq_true, Bool.not_eq_true'] at h
      rcases List.mem_cons.1 hm with h1 | h1
      · cases h1; exact h.1
      · exact ih h.2 h1
  intro t hk
  obtain ⟨g1, g2⟩ := upds_get (T0 := T) (S := (st xs.length).S) t upd T
  have hwt := hw t
  cases hq : hasU upd t with
  | true =>
    rcases g2 hq with h | ⟨e, h, h'⟩
    · rw [h]; simp [VR]
    · rw [h']
      obtain ⟨c, hcw, hok⟩ := umem hu h
      obtain ⟨_, m2⟩ := chkW_sound L (fun j k h hj => anc_closed hL h hj) (wlist os 0) none (some c) hcw
      obtain ⟨k1, k2, k3⟩ := m2
      have hcm : (c, t) ∈ wlist os 0 ∧ c < os.length := by
        rcases k1 with h | h
        · cases h
        · exact h
      have hLc := hall c hcm.2
      cases hl : lw t with
      | none => rw [hl] at hwt; exact absurd hcm.1 (hwt.2 c hLc)
      | some j =>
        rw [hl] at hwt
        obtain ⟨p1, p2, p3, p4⟩ := hwt
        by_cases e0 : j = c
        · subst e0; exact AlV.ok ht hv (p4 20) hok
        · obtain ⟨j', q1, q2, q3, q4⟩ := k3 j (.inl ⟨p2, hlt j t p2⟩) e0
          have := p3 j' (hall j' q2) q1 q3
          rw [q4] at this; cases this
  | false =>
    rw [g1 hq]
    cases hl : lw t with
    | none => rw [hl] at hwt; rw [hwt.1]; exact ht t hk
    | some j =>
      rw [hl] at hwt
      rcases cmem hc hwt.2.1 with h | h
      · rw [hk] at h; cases h
      · rw [hq] at h; cases h
end
end Go.X
/- Regions whose order is drawn: one operation, whenever it may come. -/
namespace Go.X
set_option linter.unusedVariables false
set_option linter.unusedSimpArgs false
section
variable {P : Program} {CR : Nat → Nat → Code → XCode → Prop}

/-- What does not change amid a region. -/
structure DCtx (P : Program) (F : FT) (ih : Ih) (K nt : Nat) (all : Array Oper) (news : Nat) (xs : List XDop) (T : Tr XV) (base : Nat) (st : Nat → DSt) (t0 : Array Value) : Prop where
  hst : ∀ q d, xs[q]? = some d → DStep F ih T base (st q) d (st (q + 1))
  lim : base + news ≤ trMax
  chk : chkD1 (ancs all.toList []) (wlist all.toList 0) xs all.toList P K nt all.toList 0 = true
  pos : posD xs all.toList xs 0 = true
  pairs : pairsD (ancs all.toList []) xs = true
  backs : backsD (ancs all.toList []) [] xs = true
  newsO : newsD news 0 xs = true
  hs0 : (st 0).hs = [(st 0).H]

/-- What holds with L done; fr: the place behind the last operation of the chain that is done. -/
structure DInv (CR : Nat → Nat → Code → XCode → Prop) (K nt : Nat) (all : Array Oper) (news : Nat) (xs : List XDop) (T : Tr XV) (base : Nat) (st : Nat → DSt) (t0 : Array Value) (dl : List Nat) (ρ0 : Rho) (H0 : Tr XO) (nx0 : Nat) (w0 : World)
    (L : Nat → Prop) (fr : Nat) (ρ : Rho) (HE : Tr XO) (w : World) (a : Act) : Prop where
  closed : Closed all.toList L
  hr : HR CR ρ HE (st fr).nx w
  ext : Ext nx0 ρ0 H0 w0 ρ HE (st fr).nx w
  nxb : base + news ≤ (st fr).nx
  nx0le : nx0 ≤ (st fr).nx
  full : Tr.full 14 (st fr).H
  frle : fr ≤ xs.length
  frc : fr = 0 ∨ (0 < fr ∧ ∃ d, xs[fr - 1]? = some d ∧ isChain d = true)
  chain : ∀ q d, xs[q]? = some d → isChain d = true → (L d.j ↔ q < fr)
  newA : ∀ q i o d, IsNew T base xs st q i o → xs[q]? = some d → fr ≤ q → (L d.j → hget HE (base + i) = o) ∧ (¬ L d.j → hget HE (base + i) = .dead ∧ ρ (base + i) = none)
  newC : ∀ q i o, IsNew T base xs st q i o → fr ≤ q → hget (st fr).H (base + i) = .dead
  other : ∀ x, (∀ q i o, IsNew T base xs st q i o → fr ≤ q → x ≠ base + i) → hget HE x = hget (st fr).H x
  slots : ∃ lw, WrR all.toList xs st t0 ρ L lw a.tmps
  tr : TR ρ K T t0
  size : nt ≤ a.tmps.size
  dfr : DR ρ dl a.defers

theorem chkD1_at {A : List Nat} {wl : List (Nat × Nat)} {xs : List XDop} {os : List Oper} {K nt : Nat} : ∀ (r : List Oper) (i : Nat), chkD1 A wl xs os P K nt r i = true → ∀ (k : Nat) (o : Oper), r[k]? = some o →
    dstOk nt o.dst = true ∧ (plainMove o = none → ∃ q d, posOf xs (i + k) 0 = some q ∧ xs[q]? = some d ∧ chkGD A wl xs os K q (i + k) o.guard d.o.guard = true ∧ chkOp P (fun y e => alOk K q (alAt A wl xs os (i + k) y) e) o.op d.o.op = true)
  | [], _, _, k, o, h => by simp at h
  | x :: r, i, h, k, o, hk => by
    simp only [chkD1, Bool.and_eq_true] at h
    obtain ⟨⟨h1, h2⟩, h3⟩ := h
    cases k with
    | zero =>
      simp only [List.getElem?_cons_zero, Option.some.injEq] at hk
      subst hk
      refine ⟨h1, fun hp => ?_⟩
      rw [hp] at h2
      simp only at h2
      split at h2
      · rename_i q hq
        split at h2
        · rename_i d hd
          simp only [Bool.and_eq_true] at h2
          exact ⟨q, d, hq, hd, h2.1, h2.2⟩
        · cases h2
      · cases h2
    | succ k =>
      have := chkD1_at r (i + 1) h3 k o (by simpa using hk)
      have e : i + 1 + k = i + (k + 1) := by omega
      rw [e] at this
      exact this

theorem DInv.world {K nt : Nat} {all : Array Oper} {news : Nat} {xs : List XDop} {T : Tr XV} {base : Nat} {st : Nat → DSt} {t0 : Array Value} {dl : List Nat} {ρ0 : Rho} {H0 : Tr XO} {nx0 : Nat} {w0 : World}
    {L : Nat → Prop} {fr : Nat} {ρ : Rho} {HE : Tr XO} {w : World} {a : Act} (h : DInv CR K nt all news xs T base st t0 dl ρ0 H0 nx0 w0 L fr ρ HE w a) (hlt : ∀ q i o, IsNew T base xs st q i o → i < news) :
    -- X's heap behind the last operation of the chain stands for part of the world
    HR CR ρ (st fr).H (st fr).nx w := by
  refine h.hr.sub (fun x => ?_) h.full
  by_cases hx : ∃ q i o, IsNew T base xs st q i o ∧ fr ≤ q ∧ x = base + i
  · obtain ⟨q, i, o, h1, h2, rfl⟩ := hx
    exact .inl (h.newC q i o h1 h2)
  · exact .inr (.inl (h.other x (fun q i o h1 h2 h3 => hx ⟨q, i, o, h1, h2, h3⟩)).symm)

/-- The same heap, one more done: not of the chain, no new block. -/
theorem DInv.calm {K nt : Nat} {all : Array Oper} {news : Nat} {xs : List XDop} {T : Tr XV} {base : Nat} {st : Nat → DSt} {t0 : Array Value} {dl : List Nat} {ρ0 : Rho} {H0 : Tr XO} {nx0 : Nat} {w0 : World}
    {L : Nat → Prop} {fr : Nat} {ρ : Rho} {HE : Tr XO} {w : World} {a : Act} (h : DInv CR K nt all news xs T base st t0 dl ρ0 H0 nx0 w0 L fr ρ HE w a) {i : Nat} (hi : Ready all.toList L i) {o : Oper} (ho : all.toList[i]? = some o) (hd : dstOk nt o.dst = true)
    (hch : ∀ q d, xs[q]? = some d → d.j = i → isChain d = false ∧ ∀ k ob, ¬ IsNew T base xs st q k ob) {u : Value} (hu : ∀ t, o.dst = some t → ∀ f, AlV ρ (valsOf st) xs.length t0 u (infD (ancs all.toList []) (wlist all.toList 0) xs all.toList f i)) :
    DInv CR K nt all news xs T base st t0 dl ρ0 H0 nx0 w0 (addL L i) fr ρ HE w (a.put o.dst u) := by
  obtain ⟨lw, hlw⟩ := h.slots
  refine ⟨hi.closed h.closed, h.hr, h.ext, h.nxb, h.nx0le, h.full, h.frle, h.frc, fun q d hq hc => ?_, fun q k ob d hn hq hf => ?_, h.newC, h.other, WrR.put h.closed hlw (Rho.le_refl _) hi ho hd h.size hu, h.tr, by rw [put_size]; exact h.size, by rw [put_defers]; exact h.dfr⟩
  · rw [← h.chain q d hq hc]
    constructor
    · rintro (e | e)
      · have := (hch q d hq e).1; rw [hc] at this; cases this
      · exact e
    · exact .inr
  · obtain ⟨g1, g2⟩ := h.newA q k ob d hn hq hf
    refine ⟨?_, fun hne => g2 (fun e => hne (.inr e))⟩
    rintro (e | e)
    · exact absurd hn ((hch q d hq e).2 k ob)
    · exact g1 e

theorem foldset {HE : Tr XO} : ∀ (l : List Nat) (H : Tr XO), Tr.full 14 H → (∀ x ∈ l, x < trMax) → Tr.full 14 (l.foldl (fun H x => Tr.set (hget HE x) H x) H) ∧ ∀ x, hget (l.foldl (fun H x => Tr.set (hget HE x) H x) H) x = if x ∈ l then hget HE x else hget H x
  | [], H, hf, _ => ⟨hf, fun x => by simp⟩
  | y :: l, H, hf, hl => by
    obtain ⟨g1, g2⟩ := foldset (HE := HE) l (Tr.set (hget HE y) H y) (Tr.full_set _ _ _ _ hf) (fun x hx => hl x (List.mem_cons_of_mem _ hx))
    refine ⟨g1, fun x => ?_⟩
    simp only [List.foldl_cons]
    rw [g2 x, hget_set hf (hl y (by simp)) x]
    by_cases h1 : x ∈ l
    · rw [if_pos h1, if_pos (List.mem_cons_of_mem _ h1)]
    · rw [if_neg h1]
      by_cases h2 : x = y
      · subst h2; rw [if_pos rfl, if_pos (by simp)]
      · rw [if_neg h2, if_neg (by simp [h1, h2])]
end
end Go.X
/- Regions whose order is drawn: the step. -/
namespace Go.X
set_option linter.unusedVariables false
set_option linter.unusedSimpArgs false
section
variable {P : Program} {CR : Nat → Nat → Code → XCode → Prop}
variable {F : FT} {ih : Ih} {K nt : Nat} {all : Array Oper} {news : Nat} {xs : List XDop} {T : Tr XV} {base : Nat} {st : Nat → DSt} {t0 : Array Value} {dl : List Nat} {ρ0 : Rho} {H0 : Tr XO} {nx0 : Nat} {w0 : World}
variable {L : Nat → Prop} {fr : Nat} {ρ : Rho} {HE : Tr XO} {w : World} {a : Act}

theorem DCtx.uniq (C : DCtx P F ih K nt all news xs T base st t0) {q q' : Nat} {d d' : XDop} (h : xs[q]? = some d) (h' : xs[q']? = some d') (e : d.j = d'.j) : q = q' := by
  have h1 := (posD_sound xs 0 C.pos q d h).1
  have h2 := (posD_sound xs 0 C.pos q' d' h').1
  rw [e] at h1
  rw [h1] at h2
  simpa using h2

theorem DInv.front (C : DCtx P F ih K nt all news xs T base st t0) (h : DInv CR K nt all news xs T base st t0 dl ρ0 H0 nx0 w0 L fr ρ HE w a) {q : Nat} {d : XDop} (hq : xs[q]? = some d) (hi : Ready all.toList L d.j) (hk : d.kind ≠ .pure) : fr ≤ q := by
  rcases Nat.lt_or_ge q fr with hlt | hge
  · exfalso
    rcases h.frc with h0 | ⟨_, d', h1, h2⟩
    · omega
    · have hL : L d'.j := (h.chain (fr - 1) d' h1 h2).2 (by omega)
      by_cases e : q = fr - 1
      · subst e; rw [hq] at h1; cases h1; exact hi.1 hL
      · have := pairsD_sound xs C.pairs q (fr - 1) d d' hq h1 (by omega) hk h2
        exact hi.1 (anc_closed h.closed this hL)
  · exact hge

theorem DInv.nochain (C : DCtx P F ih K nt all news xs T base st t0) (h : DInv CR K nt all news xs T base st t0 dl ρ0 H0 nx0 w0 L fr ρ HE w a) {q : Nat} {d : XDop} (hq : xs[q]? = some d) (hi : Ready all.toList L d.j) (hc : isChain d = true) :
    ∀ q' d', fr ≤ q' → q' < q → xs[q']? = some d' → isChain d' = false := by
  intro q' d' h1 h2 h3
  cases hc' : isChain d' with
  | false => rfl
  | true =>
    exfalso
    have hk : d'.kind ≠ .pure := by intro e; unfold isChain at hc'; rw [e] at hc'; cases hc'
    have := pairsD_sound xs C.pairs q' q d' d h3 hq h2 hk hc
    have hL := hi.need h.closed this (fun e => by have := C.uniq h3 hq e; omega)
    have := (h.chain q' d' h3 hc').1 hL
    omega

theorem guardD_sound {ok : Nat → XE → Prop} {S : List XV} {T : Tr XV} {ρ : Rho} {a : Act} {A : List Nat} {wl : List (Nat × Nat)} {xs : List XDop} {q i : Nat} {o : Oper} {x : Option (XE × Bool)} (hev : ∀ y e, alOk K q (alAt A wl xs all.toList i y) e = true → VR ρ (XE.ev T S e) (a.eval y))
    (h : chkGD A wl xs all.toList K q i o.guard x = true) {b : Bool} (hl : lets T S x = some b) : Region.wanted o (yielded all a.tmps) = b := by
  unfold chkGD at h
  unfold Region.wanted
  cases hg : o.guard with
  | none =>
    rw [hg] at h
    cases x with
    | none => simp [lets] at hl; subst hl; rfl
    | some _ => simp at h
  | some p =>
    obtain ⟨j, want⟩ := p
    rw [hg] at h
    cases x with
    | none => simp at h
    | some y =>
      obtain ⟨e, want'⟩ := y
      simp only [Bool.and_eq_true, beq_iff_eq] at h
      obtain ⟨rfl, h⟩ := h
      split at h
      · rename_i oj hoj
        split at h
        · rename_i d hd
          have hv := hev (.tmp d) e h
          simp only [lets] at hl
          have hoj' : all[j]? = some oj := by rw [← Array.getElem?_toList]; exact hoj
          have hy : yielded all a.tmps j = match a.tmps[d]? with | some (.bool b) => some b | _ => none := by
            simp only [yielded, hoj', Option.bind_some, hd]
            rfl
          simp only [Act.eval, Array.getD_eq_getD_getElem?] at hv
          show (yielded all a.tmps j == some want) = b
          split at hl
          · rename_i c hc
            cases hl
            rw [hc] at hv
            simp only [VR] at hv
            rw [hy]
            cases hq : a.tmps[d]? with
            | none => rw [hq] at hv; simp [undef] at hv
            | some v =>
              rw [hq] at hv
              simp only [Option.getD_some] at hv
              subst hv
              cases c <;> cases want <;> rfl
          · rename_i c hc
            cases hl
            rw [hc] at hv
            simp only [VR] at hv
            obtain ⟨l, hv, _⟩ := hv
            rw [hy]
            cases hq : a.tmps[d]? with
            | none => cases want <;> rfl
            | some v =>
              rw [hq] at hv
              simp only [Option.getD_some] at hv
              subst hv
              cases want <;> rfl
          · cases hl
        · cases h
      · cases h

/-- X's heap ahead of the next operation of the chain stands for part of the world. -/
theorem DInv.ahead (C : DCtx P F ih K nt all news xs T base st t0) (h : DInv CR K nt all news xs T base st t0 dl ρ0 H0 nx0 w0 L fr ρ HE w a) {q : Nat} {d : XDop} (hq : xs[q]? = some d) (hi : Ready all.toList L d.j) (hc : isChain d = true) :
    fr ≤ q ∧ (st q).nx = (st fr).nx ∧ Tr.full 14 (st q).H ∧
    (∀ q1 i1 o1, IsNew T base xs st q1 i1 o1 → fr ≤ q1 → (q1 < q → hget (st q).H (base + i1) = o1 ∧ hget HE (base + i1) = o1) ∧ (q ≤ q1 → hget (st q).H (base + i1) = .dead)) ∧
    (∀ x, (∀ q1 i1 o1, IsNew T base xs st q1 i1 o1 → fr ≤ q1 → x ≠ base + i1) → hget (st q).H x = hget HE x) := by
  have hk : d.kind ≠ .pure := by intro e; unfold isChain at hc; rw [e] at hc; cases hc
  have hf := h.front C hq hi hk
  have hlen : q < xs.length := (List.getElem?_eq_some_iff.1 hq).1
  obtain ⟨g1, g2, g3, g4, g5⟩ := segment C.newsO C.hst C.lim fr (q - fr) (by omega) (fun q' d' h1 h2 h3 => h.nochain C hq hi hc q' d' h1 (by omega) h3) h.full
  have e : fr + (q - fr) = q := by omega
  rw [e] at g1 g2 g3 g4 g5
  refine ⟨hf, g1, g3, fun q1 i1 o1 hn h1 => ⟨fun hlt => ⟨g4 q1 i1 o1 hn h1 hlt, ?_⟩, fun hge => ?_⟩, fun x hx => ?_⟩
  · obtain ⟨d1, op, f, k1, k2, _⟩ := id hn
    have hk1 : d1.kind ≠ .pure := by rw [k2]; simp
    have := pairsD_sound xs C.pairs q1 q d1 d k1 hq hlt hk1 hc
    have hL := hi.need h.closed this (fun e => by have := C.uniq k1 hq e; omega)
    exact (h.newA q1 i1 o1 d1 hn k1 h1).1 hL
  · rw [g5 (base + i1) (fun q2 i2 o2 hn2 m1 m2 e => ?_)]
    · exact h.newC q1 i1 o1 hn h1
    · have : i2 = i1 := by omega
      subst this
      have := (hn2.uniq C.newsO hn).1
      omega
  · rw [g5 x (fun q2 i2 o2 hn2 m1 m2 => hx q2 i2 o2 hn2 m1), h.other x hx]

/-- The chain goes on without a change. -/
theorem DInv.chainOff (C : DCtx P F ih K nt all news xs T base st t0) (h : DInv CR K nt all news xs T base st t0 dl ρ0 H0 nx0 w0 L fr ρ HE w a) {q : Nat} {d : XDop} (hq : xs[q]? = some d) (hi : Ready all.toList L d.j) (hc : isChain d = true) {o : Oper} (ho : all.toList[d.j]? = some o) (hd : dstOk nt o.dst = true)
    (hH : (st (q + 1)).H = (st q).H) (hn : (st (q + 1)).nx = (st q).nx) {u : Value} (hu : ∀ t, o.dst = some t → ∀ f, AlV ρ (valsOf st) xs.length t0 u (infD (ancs all.toList []) (wlist all.toList 0) xs all.toList f d.j)) :
    DInv CR K nt all news xs T base st t0 dl ρ0 H0 nx0 w0 (addL L d.j) (q + 1) ρ HE w (a.put o.dst u) := by
  obtain ⟨hf, g1, g3, g4, g5⟩ := h.ahead C hq hi hc
  obtain ⟨lw, hlw⟩ := h.slots
  have hlen : q < xs.length := (List.getElem?_eq_some_iff.1 hq).1
  have hnx : (st (q + 1)).nx = (st fr).nx := hn.trans g1
  refine ⟨hi.closed h.closed, by rw [hnx]; exact h.hr, by rw [hnx]; exact h.ext, by rw [hnx]; exact h.nxb, by rw [hnx]; exact h.nx0le, by rw [hH]; exact g3, by omega, .inr ⟨by omega, d, by simpa using hq, hc⟩, fun q' d' hq' hc' => ?_, fun q1 i1 o1 d1 hn1 hq1 hf1 => ?_,
    fun q1 i1 o1 hn1 hf1 => ?_, fun x hx => ?_, WrR.put h.closed hlw (Rho.le_refl _) hi ho hd h.size hu, h.tr, by rw [put_size]; exact h.size, by rw [put_defers]; exact h.dfr⟩
  · constructor
    · rintro (e | e)
      · have := C.uniq hq' hq e; omega
      · have := (h.chain q' d' hq' hc').1 e; omega
    · intro hlt
      rcases Nat.lt_or_ge q' fr with h1 | h1
      · exact .inr ((h.chain q' d' hq' hc').2 h1)
      · rcases Nat.lt_or_ge q' q with h2 | h2
        · have := h.nochain C hq hi hc q' d' h1 h2 hq'
          rw [hc'] at this; cases this
        · have : q' = q := by omega
          subst this
          rw [hq] at hq'; cases hq'
          exact .inl rfl
  · obtain ⟨m1, m2⟩ := h.newA q1 i1 o1 d1 hn1 hq1 (by omega)
    refine ⟨?_, fun hne => m2 (fun e => hne (.inr e))⟩
    rintro (e | e)
    · have := C.uniq hq1 hq e; omega
    · exact m1 e
  · rw [hH]; exact (g4 q1 i1 o1 hn1 (by omega)).2 (by omega)
  · rw [hH]
    by_cases hx2 : ∃ q1 i1 o1, IsNew T base xs st q1 i1 o1 ∧ fr ≤ q1 ∧ x = base + i1
    · obtain ⟨q1, i1, o1, n1, n2, rfl⟩ := hx2
      have hlt : q1 < q := by
        rcases Nat.lt_trichotomy q1 q with h1 | h1 | h1
        · exact h1
        · subst h1
          obtain ⟨d1, _, _, k1, k2, _⟩ := n1
          rw [hq] at k1; cases k1
          unfold isChain at hc; rw [k2] at hc; cases hc
        · exact absurd rfl (hx q1 i1 o1 n1 (by omega))
      obtain ⟨m1, m2⟩ := (g4 q1 i1 o1 n1 n2).1 hlt
      rw [m1, m2]
    · exact (g5 x (fun q1 i1 o1 n1 n2 e => hx2 ⟨q1, i1, o1, n1, n2, e⟩)).symm

/-- An operation of the chain has run from X's smaller heap. -/
theorem DInv.chainOn (C : DCtx P F ih K nt all news xs T base st t0) (h : DInv CR K nt all news xs T base st t0 dl ρ0 H0 nx0 w0 L fr ρ HE w a) {q : Nat} {d : XDop} (hq : xs[q]? = some d) (hi : Ready all.toList L d.j) (hc : isChain d = true) {o : Oper} (ho : all.toList[d.j]? = some o) (hd : dstOk nt o.dst = true)
    {ρ1 : Rho} {w1 : World} (h1 : HR CR ρ1 (st (q + 1)).H (st (q + 1)).nx w1) (he : Ext (st q).nx ρ (st q).H w ρ1 (st (q + 1)).H (st (q + 1)).nx w1) (hn : (st q).nx ≤ (st (q + 1)).nx)
    {u : Value} (hu : ∀ t, o.dst = some t → ∀ f, AlV ρ1 (valsOf st) xs.length t0 u (infD (ancs all.toList []) (wlist all.toList 0) xs all.toList f d.j)) :
    ∃ HE1, DInv CR K nt all news xs T base st t0 dl ρ0 H0 nx0 w0 (addL L d.j) (q + 1) ρ1 HE1 w1 (a.put o.dst u) := by
  obtain ⟨hf, g1, g3, g4, g5⟩ := h.ahead C hq hi hc
  obtain ⟨lw, hlw⟩ := h.slots
  have hlen : q < xs.length := (List.getElem?_eq_some_iff.1 hq).1
  have hnews := (newsD_sound xs 0 C.newsO).1
  have hsub : ∀ x, hget (st q).H x = hget HE x ∨ hget (st q).H x = .dead := by
    intro x
    by_cases hx2 : ∃ q1 i1 o1, IsNew T base xs st q1 i1 o1 ∧ fr ≤ q1 ∧ x = base + i1
    · obtain ⟨q1, i1, o1, n1, n2, rfl⟩ := hx2
      rcases Nat.lt_or_ge q1 q with h' | h'
      · obtain ⟨m1, m2⟩ := (g4 q1 i1 o1 n1 n2).1 h'
        exact .inl (by rw [m1, m2])
      · exact .inr ((g4 q1 i1 o1 n1 n2).2 h')
    · exact .inl (g5 x (fun q1 i1 o1 n1 n2 e => hx2 ⟨q1, i1, o1, n1, n2, e⟩))
  -- the early ones
  have extra : ∀ x, hget (st q).H x = .dead → hget HE x ≠ .dead → ∃ q1 i1 o1 d1, IsNew T base xs st q1 i1 o1 ∧ xs[q1]? = some d1 ∧ q < q1 ∧ x = base + i1 ∧ i1 < news ∧ hget HE x = o1 ∧ L d1.j := by
    intro x hx1 hx2
    by_cases hx3 : ∃ q1 i1 o1, IsNew T base xs st q1 i1 o1 ∧ fr ≤ q1 ∧ x = base + i1
    · obtain ⟨q1, i1, o1, n1, n2, rfl⟩ := hx3
      obtain ⟨d1, op, f, k1, k2, _⟩ := id n1
      have hgt : q < q1 := by
        rcases Nat.lt_trichotomy q1 q with h' | h' | h'
        · obtain ⟨m1, m2⟩ := (g4 q1 i1 o1 n1 n2).1 h'
          rw [m1] at hx1; rw [m2, hx1] at hx2; exact absurd rfl hx2
        · subst h'
          rw [hq] at k1; cases k1
          unfold isChain at hc; rw [k2] at hc; cases hc
        · exact h'
      obtain ⟨m1, m2⟩ := h.newA q1 i1 o1 d1 n1 k1 n2
      have hL : L d1.j := by
        by_cases hl : L d1.j
        · exact hl
        · exact absurd (m2 hl).1 hx2
      exact ⟨q1, i1, o1, d1, n1, k1, hgt, rfl, (hnews q1 d1 i1 k1 k2).2, m1 hL, hL⟩
    · have := g5 x (fun q1 i1 o1 n1 n2 e => hx3 ⟨q1, i1, o1, n1, n2, e⟩)
      rw [hx1] at this; exact absurd this.symm hx2
  have hexw : ∀ x, hget (st q).H x = .dead → hget HE x ≠ .dead → wrt (hget HE x) ∧ parOf (hget HE x) = [] := by
    intro x hx1 hx2
    obtain ⟨q1, i1, o1, d1, n1, _, _, _, _, e, _⟩ := extra x hx1 hx2
    obtain ⟨d1', op, f, _, _, _, _, k5, _⟩ := n1
    rw [e]
    exact xnew_wrt k5
  let ex := ((List.range news).map (base + ·)).filter (fun x => @decide (hget (st q).H x = .dead ∧ hget HE x ≠ .dead) (Classical.propDecidable _))
  have hexm : ∀ x, x ∈ ex ↔ hget (st q).H x = .dead ∧ hget HE x ≠ .dead := by
    intro x
    simp only [ex, List.mem_filter, List.mem_map, List.mem_range, decide_eq_true_eq]
    constructor
    · exact fun h => h.2
    · intro hx
      obtain ⟨q1, i1, o1, d1, _, _, _, e, hlt, _⟩ := extra x hx.1 hx.2
      exact ⟨⟨i1, hlt, e.symm⟩, hx⟩
  obtain ⟨f1, f2⟩ := foldset (HE := HE) ex (st (q + 1)).H h1.full (fun x hx => by
    obtain ⟨q1, i1, o1, d1, _, _, _, e, hlt, _⟩ := extra x ((hexm x).1 hx).1 ((hexm x).1 hx).2
    have := C.lim
    omega)
  have hhr : HR CR ρ HE (st q).nx w := by rw [g1]; exact h.hr
  obtain ⟨r1, r2, r3⟩ := frame hhr hsub hexw h1 he hn f1 (fun x hx1 hx2 => by rw [f2 x, if_pos ((hexm x).2 ⟨hx1, hx2⟩)]) (fun x hx => by rw [f2 x, if_neg (fun h => hx ((hexm x).1 h))])
  have hnb : base + news ≤ (st q).nx := by rw [g1]; exact h.nxb
  -- the ones not yet made stay unmade
  have unmade : ∀ q1 i1 o1 d1, IsNew T base xs st q1 i1 o1 → xs[q1]? = some d1 → q < q1 → ¬ L d1.j → ρ1 (base + i1) = none ∧ hget (st (q + 1)).H (base + i1) = .dead := by
    intro q1 i1 o1 d1 n1 k1 hgt hL
    obtain ⟨m1, m2⟩ := h.newA q1 i1 o1 d1 n1 k1 (by omega)
    have hilt : i1 < news := by
      obtain ⟨d', _, _, k1', k2, _⟩ := n1
      rw [k1] at k1'; cases k1'
      exact (hnews q1 d1 i1 k1 k2).2
    have hρ : ρ1 (base + i1) = none := by
      cases hq1 : ρ1 (base + i1) with
      | none => rfl
      | some L1 =>
        rcases he.dom _ _ hq1 with h' | h'
        · rw [(m2 hL).2] at h'; cases h'
        · omega
    refine ⟨hρ, ?_⟩
    cases hq2 : hget (st (q + 1)).H (base + i1) with
    | dead => rfl
    | _ =>
      exfalso
      obtain ⟨L1, _, e1, _⟩ := h1.objs (base + i1) (by rw [hq2]; simp)
      rw [hρ] at e1; cases e1
  have hext := h.ext.trans (g1 ▸ r2) h.nx0le (by omega)
  refine ⟨_, hi.closed h.closed, r1, hext, by omega, by have := h.nx0le; omega, h1.full, by omega, .inr ⟨by omega, d, by simpa using hq, hc⟩, fun q' d' hq' hc' => ?_, fun q1 i1 o1 d1 hn1 hq1 hf1 => ?_,
    fun q1 i1 o1 hn1 hf1 => ?_, fun x hx => ?_, WrR.put h.closed hlw he.le hi ho hd h.size hu, h.tr.mono he.le, by rw [put_size]; exact h.size, by rw [put_defers]; exact h.dfr.mono he.le⟩
  · constructor
    · rintro (e | e)
      · have := C.uniq hq' hq e; omega
      · have := (h.chain q' d' hq' hc').1 e; omega
    · intro hlt
      rcases Nat.lt_or_ge q' fr with h1 | h1
      · exact .inr ((h.chain q' d' hq' hc').2 h1)
      · rcases Nat.lt_or_ge q' q with h2 | h2
        · have := h.nochain C hq hi hc q' d' h1 h2 hq'
          rw [hc'] at this; cases this
        · have : q' = q := by omega
          subst this
          rw [hq] at hq'; cases hq'
          exact .inl rfl
  · obtain ⟨m1, m2⟩ := h.newA q1 i1 o1 d1 hn1 hq1 (by omega)
    have hne : d1.j ≠ d.j := fun e => by have := C.uniq hq1 hq e; omega
    have hdq := (g4 q1 i1 o1 hn1 (by omega)).2 (by omega)
    refine ⟨fun hL => ?_, fun hL => ?_⟩
    · have hL' : L d1.j := hL.resolve_left hne
      have ho1 : hget HE (base + i1) ≠ .dead := by
        rw [m1 hL']
        obtain ⟨_, op, f, _, _, _, _, k5, _⟩ := hn1
        exact wrt_alive (xnew_wrt k5).1
      rw [f2, if_pos ((hexm _).2 ⟨hdq, ho1⟩), m1 hL']
    · have hL' : ¬ L d1.j := fun e => hL (.inr e)
      obtain ⟨u1, u2⟩ := unmade q1 i1 o1 d1 hn1 hq1 (by omega) hL'
      refine ⟨?_, u1⟩
      rw [f2, if_neg (fun e => ((hexm _).1 e).2 (m2 hL').1), u2]
  · obtain ⟨d1, op, f, k1, k2, _⟩ := id hn1
    by_cases hL : L d1.j
    · have hdq := (g4 q1 i1 o1 hn1 (by omega)).2 (by omega)
      have ho1 : hget HE (base + i1) ≠ .dead := by
        rw [(h.newA q1 i1 o1 d1 hn1 k1 (by omega)).1 hL]
        obtain ⟨_, op, f, _, _, _, _, k5, _⟩ := hn1
        exact wrt_alive (xnew_wrt k5).1
      exact r3 _ hdq ho1
    · exact (unmade q1 i1 o1 d1 hn1 k1 (by omega) hL).2
  · rw [f2, if_neg]
    intro hx1
    obtain ⟨q1, i1, o1, d1, n1, _, hgt, e, _⟩ := extra x ((hexm x).1 hx1).1 ((hexm x).1 hx1).2
    exact hx q1 i1 o1 n1 (by omega) e
end
end Go.X
/- Regions whose order is drawn: every order. -/
namespace Go.X
set_option linter.unusedVariables false
set_option linter.unusedSimpArgs false
section
variable {P : Program} {CR : Nat → Nat → Code → XCode → Prop}
variable {F : FT} {ih : Ih} {K nt : Nat} {all : Array Oper} {news : Nat} {xs : List XDop} {T : Tr XV} {base : Nat} {st : Nat → DSt} {t0 : Array Value} {dl : List Nat} {ρ0 : Rho} {H0 : Tr XO} {nx0 : Nat} {w0 : World}
variable {L : Nat → Prop} {fr : Nat} {ρ : Rho} {HE : Tr XO} {w : World} {a : Act}

/-- A new block, whenever. -/
theorem DInv.newOn (C : DCtx P F ih K nt all news xs T base st t0) (h : DInv CR K nt all news xs T base st t0 dl ρ0 H0 nx0 w0 L fr ρ HE w a) {q : Nat} {d : XDop} (hq : xs[q]? = some d) (hi : Ready all.toList L d.j) {o : Oper} (ho : all.toList[d.j]? = some o) (hd : dstOk nt o.dst = true)
    {i : Nat} {ob : XO} (hnew : IsNew T base xs st q i ob) {obj : Obj} {cap : Nat} {x : Value} (hno : ∀ j ρ', ρ.le ρ' → ρ' j = some ⟨w.heap.size, 0, cap⟩ → OR CR ρ' ob ⟨w.heap.size, 0, cap⟩ obj) (hlo : nx0 ≤ base)
    (hu : ∀ t, o.dst = some t → ∀ f, AlV (ρ.put (base + i) ⟨w.heap.size, 0, cap⟩) (valsOf st) xs.length t0 x (infD (ancs all.toList []) (wlist all.toList 0) xs all.toList f d.j)) :
    DInv CR K nt all news xs T base st t0 dl ρ0 H0 nx0 w0 (addL L d.j) fr (ρ.put (base + i) ⟨w.heap.size, 0, cap⟩) (Tr.set ob HE (base + i)) { w with heap := w.heap.push obj } (a.put o.dst x) := by
  obtain ⟨d', op, f, k1, k2, k3, k4, k5, k6⟩ := id hnew
  rw [hq] at k1; cases k1
  have hk : d.kind ≠ .pure := by rw [k2]; simp
  have hf := h.front C hq hi hk
  have hilt := ((newsD_sound xs 0 C.newsO).1 q d i hq k2).2
  obtain ⟨lw, hlw⟩ := h.slots
  obtain ⟨m1, m2⟩ := h.newA q i ob d hnew hq hf
  obtain ⟨hdead, hnone⟩ := m2 hi.1
  have hnb := h.nxb
  have hlim := h.hr.lim
  have hle := Rho.le_put (L := ⟨w.heap.size, 0, cap⟩) hnone
  have hit : base + i < trMax := by omega
  have hH : ∀ x, hget (Tr.set ob HE (base + i)) x = if x = base + i then ob else hget HE x := fun x => hget_set h.hr.full hit x
  refine ⟨hi.closed h.closed, h.hr.new hdead hnone (Nat.le_refl _) (by omega) hlim rfl rfl (hno (base + i) _ hle (by simp [Rho.put])), ?_, h.nxb, h.nx0le, h.full, h.frle, h.frc, fun q' d' hq' hc' => ?_, fun q1 i1 o1 d1 hn1 hq1 hf1 => ?_, h.newC, fun x hx => ?_,
    WrR.put h.closed hlw hle hi ho hd h.size hu, h.tr.mono hle, by rw [put_size]; exact h.size, by rw [put_defers]; exact h.dfr.mono hle⟩
  · exact h.ext.trans (Ext.new (lo := nx0) hnone (by omega) (by omega) rfl rfl rfl rfl) (Nat.le_refl _) (Nat.le_refl _)
  · rw [← h.chain q' d' hq' hc']
    constructor
    · rintro (e | e)
      · have := C.uniq hq' hq e
        subst this
        rw [hq] at hq'; cases hq'
        unfold isChain at hc'; rw [k2] at hc'; cases hc'
      · exact e
    · exact .inr
  · by_cases e : i1 = i
    · subst e
      obtain ⟨rfl, rfl⟩ := hn1.uniq C.newsO hnew
      rw [hq] at hq1; cases hq1
      exact ⟨fun _ => by rw [hH, if_pos rfl], fun hne => absurd (.inl rfl) hne⟩
    · obtain ⟨p1, p2⟩ := h.newA q1 i1 o1 d1 hn1 hq1 hf1
      have hne : d1.j ≠ d.j := fun e' => by
        have := C.uniq hq1 hq e'
        subst this
        obtain ⟨d2, _, _, c1, c2, _⟩ := hn1
        rw [hq] at c1; cases c1
        rw [k2] at c2; cases c2
        exact e rfl
      refine ⟨fun hL => ?_, fun hL => ?_⟩
      · rw [hH, if_neg (by omega)]
        exact p1 (hL.resolve_left hne)
      · obtain ⟨p3, p4⟩ := p2 (fun e' => hL (.inr e'))
        refine ⟨by rw [hH, if_neg (by omega)]; exact p3, ?_⟩
        unfold Rho.put
        rw [if_neg (by omega)]
        exact p4
  · rw [hH, if_neg (hx q i ob hnew hf)]
    exact h.other x hx

theorem first_chain {xs : List XDop} : ∀ (n fr m : Nat), nch ((xs.drop fr).take n) = m + 1 → ∃ p d, fr ≤ p ∧ p < fr + n ∧ xs[p]? = some d ∧ isChain d = true ∧ nch ((xs.drop (p + 1)).take (fr + n - (p + 1))) = m
  | 0, fr, m, h => by simp [nch] at h
  | n + 1, fr, m, h => by
    rcases Nat.lt_or_ge fr xs.length with hlt | hge
    · have hd : xs.drop fr = xs[fr] :: xs.drop (fr + 1) := List.drop_eq_getElem_cons hlt
      rw [hd, List.take_succ_cons] at h
      cases hc : isChain xs[fr] with
      | true =>
        refine ⟨fr, xs[fr], Nat.le_refl _, by omega, List.getElem?_eq_getElem hlt, hc, ?_⟩
        have : fr + (n + 1) - (fr + 1) = n := by omega
        rw [this]
        simpa [nch, List.filter_cons, hc] using h
      | false =>
        obtain ⟨p, d, p1, p2, p3, p4, p5⟩ := first_chain n (fr + 1) m (by simpa [nch, List.filter_cons, hc] using h)
        refine ⟨p, d, by omega, by omega, p3, p4, ?_⟩
        have : fr + (n + 1) - (p + 1) = fr + 1 + n - (p + 1) := by omega
        rw [this]; exact p5
    · rw [List.drop_eq_nil_of_le hge] at h
      simp [nch] at h

theorem dstep {rl : Option Nat} {Q : Exit → Act → World → Prop} {Kn : Act → World → Prop} (hC : CallOk P CR F ih) (hR : RoundOk P CR ih) (hbase : nx0 ≤ base) (C : DCtx P F ih K nt all news xs T base st t0) (h : DInv CR K nt all news xs T base st t0 dl ρ0 H0 nx0 w0 L fr ρ HE w a) {i : Nat} (hi : Ready all.toList L i) {o : Oper} (ho : all.toList[i]? = some o)
    (hK : ∀ fr' ρ' HE' w' a', DInv CR K nt all news xs T base st t0 dl ρ0 H0 nx0 w0 (addL L i) fr' ρ' HE' w' a' → Kn a' w') : wpOpIn (Fr rl) 0 P all Q i Kn a w := by
  have ho' : all[i]? = some o := by rw [← Array.getElem?_toList]; exact ho
  unfold wpOpIn
  rw [ho']
  simp only
  obtain ⟨lw, hlw⟩ := h.slots
  have habout : ∀ f, o.about P w a.eval = some f → (Fr rl).fn f := fun _ _ => trivial
  have hchk := chkD1_at all.toList 0 C.chk i o ho
  rw [Nat.zero_add] at hchk
  obtain ⟨hd, hx⟩ := hchk
  cases hp : plainMove o with
  | some y =>
    obtain ⟨hg, hop⟩ := plainMove_some hp
    have hw : Region.wanted o (yielded all a.tmps) = true := by simp [Region.wanted, hg]
    rw [if_pos hw]
    have hsem : o.semAt (Fr rl).round a.eval = execOp a.eval o := Oper.semAt_eq _ _ _ (by rcases hop with h | h <;> (rw [h]; intro c; simp))
    have hrun : (execOp a.eval o).run P w = .ok (.value (a.eval y)) w := by
      rcases hop with h | h <;> simp [execOp, h]
    refine ⟨habout, ?_⟩
    rw [hsem, hrun]
    simp only [Oper.uponIn]
    refine hK fr ρ HE w _ (h.calm hi ho hd (fun q d hq e => ?_) (fun t ht f => ?_))
    · obtain ⟨o2, h1, h2⟩ := (posD_sound xs 0 C.pos q d hq).2
      rw [e, ho] at h1; cases h1
      rw [hp] at h2; cases h2
    · cases f with
      | zero => trivial
      | succ f =>
        simp only [infD, ho, hp]
        cases y with
        | tmp t' =>
          simp only
          cases hc : chkW (ancs all.toList []) i t' (wlist all.toList 0) none with
          | none => trivial
          | some res =>
            have := look h.closed hlw hi hc
            cases res with
            | none => exact this
            | some c =>
              simp only
              cases hq : has (ancs all.toList []) i c with
              | false => trivial
              | true => exact this hq f
        | const v => rfl
        | func g => rfl
        | global g => trivial
  | none =>
    obtain ⟨q, d, hpos, hqd, hgd, hopd⟩ := hx hp
    have hj : d.j = i := by
      obtain ⟨_, d', h1, h2⟩ := posOf_get xs i 0 q hpos
      rw [Nat.sub_zero, hqd] at h1; cases h1; exact h2
    subst hj
    have hlen : q < xs.length := (List.getElem?_eq_some_iff.1 hqd).1
    have hv := vals_ev C.hst q (by omega)
    have hev := look_ev (K := K) (T := T) h.closed hlw hi h.tr hv
    have huv : ∀ {ρ' : Rho} {u : Value}, VR ρ' (valsOf st q) u → ∀ t, o.dst = some t → ∀ f, AlV ρ' (valsOf st) xs.length t0 u (infD (ancs all.toList []) (wlist all.toList 0) xs all.toList f d.j) := by
      intro ρ' u hvu t _ f
      cases f with
      | zero => trivial
      | succ f =>
        simp only [infD, ho, hp, hpos]
        exact ⟨hlen, hvu⟩
    have only : ∀ q' d', xs[q']? = some d' → d'.j = d.j → q' = q := fun q' d' h1 h2 => C.uniq h1 hqd h2
    rcases C.hst q d hqd with ⟨hl, s1, s2, s3, s4⟩ | ⟨hl, v, s1, s2⟩
    · -- not wanted
      have hw := guardD_sound (ok := fun _ _ => True) hev hgd hl
      rw [if_neg (by rw [hw]; simp)]
      refine ⟨habout, ?_⟩
      have hval : valsOf st q = unit := by show evs (st (q + 1)).S 0 = _; rw [s1]; rfl
      have hun : VR ρ (valsOf st q) undef := by rw [hval]; simp only [unit, VR]; exact ⟨[], rfl, trivial⟩
      cases hc : isChain d with
      | false =>
        refine hK fr ρ HE w _ (h.calm hi ho hd (fun q' d' h1 h2 => ?_) (huv hun))
        have := only q' d' h1 h2
        subst this
        rw [hqd] at h1; cases h1
        refine ⟨hc, fun k ob hn => ?_⟩
        obtain ⟨d2, _, _, c1, _, _, c4, _⟩ := hn
        rw [hqd] at c1; cases c1
        rw [hl] at c4; cases c4
      | true => exact hK (q + 1) ρ HE w _ (h.chainOff C hqd hi hc ho hd s2 s3 (huv hun))
    · have hw := guardD_sound (ok := fun _ _ => True) hev hgd hl
      rw [if_pos hw]
      have hsem : o.semAt (Fr rl).round a.eval = execOp a.eval o := Oper.semAt_eq _ _ _ (chkOp_defer hopd)
      have hval : valsOf st q = v := by show evs (st (q + 1)).S 0 = _; rw [s1]; rfl
      refine ⟨habout, ?_⟩
      rw [hsem]
      have calmAt : (isChain d = false) → (∀ i, d.kind ≠ .new i) → ∀ {u : Value}, VR ρ v u → DInv CR K nt all news xs T base st t0 dl ρ0 H0 nx0 w0 (addL L d.j) fr ρ HE w (a.put o.dst u) := by
        intro hc hk u hvu
        refine h.calm hi ho hd (fun q' d' h1 h2 => ?_) (huv (by rw [hval]; exact hvu))
        have := only q' d' h1 h2
        subst this
        rw [hqd] at h1; cases h1
        refine ⟨hc, fun k ob hn => ?_⟩
        obtain ⟨d2, _, _, c1, c2, _⟩ := hn
        rw [hqd] at c1; cases c1
        exact hk _ c2
      split at s2
      · rename_i op hk hop
        rw [hop] at hopd
        obtain ⟨u, u1, u2⟩ := pure_sound hev hopd s2.1 w
        rw [u1]
        exact hK fr ρ HE w _ (calmAt (by unfold isChain; rw [hk]) (by rw [hk]; simp) u2)
      · rename_i back op hk hop
        rw [hop] at hopd
        obtain ⟨⟨Hh, hs', r1, r2, r3⟩, _⟩ := s2
        have hf := h.front C hqd hi (by rw [hk]; simp)
        -- what X read holds at the heap that stands for the world
        have hread : xread T (st q).S (st fr).H op = some v := by
          obtain ⟨l, l1, l2⟩ := hs_split C.hst fr (q - fr) (by omega)
          have e : fr + (q - fr) = q := by omega
          rw [e] at l1
          have hfh : ∃ rest, (st fr).hs = (st fr).H :: rest := by
            rcases h.frc with h0 | ⟨hpos0, d', c1, c2⟩
            · rw [h0, C.hs0]; exact ⟨[], rfl⟩
            · have hst := C.hst (fr - 1) d' c1
              have e' : fr - 1 + 1 = fr := by omega
              rw [e'] at hst
              rcases hst with ⟨_, _, m2, _, m4⟩ | ⟨_, v', _, m⟩
              · rw [c2] at m4; exact ⟨_, by rw [m4, m2]; rfl⟩
              · unfold isChain at c2
                split at m
                · rename_i hk' _; rw [hk'] at c2; cases c2
                · rename_i hk' _; rw [hk'] at c2; cases c2
                · rename_i hk' _; rw [hk'] at c2; cases c2
                · exact ⟨_, m.2⟩
                · exact m.elim
          obtain ⟨rest, hfh⟩ := hfh
          rw [hfh] at l1
          cases l with
          | nil =>
            rw [r1] at l1
            simp only [List.nil_append, List.cons.injEq] at l1
            rw [← l1.1]; exact r2
          | cons H1 l =>
            rw [r1] at l1
            simp only [List.cons_append, List.cons.injEq] at l1
            obtain ⟨_, l3⟩ := l1
            have hcount : l.length < back := by
              rcases Nat.lt_or_ge l.length back with hlt | hge
              · exact hlt
              · exfalso
                obtain ⟨p, dp, p1, p2, p3, p4, p5⟩ := first_chain (q - fr) fr l.length (by rw [← l2]; rfl)
                have hb := backsD_sound xs [] C.backs q d back hqd hk
                rw [List.append_nil] at hb
                have hlenq : (xs.take q).length = q := by rw [List.length_take]; omega
                have hrev : (xs.take q).reverse[q - 1 - p]? = some dp := by
                  rw [List.getElem?_reverse (by omega), hlenq]
                  have : q - 1 - (q - 1 - p) = p := by omega
                  rw [this, List.getElem?_take_of_lt (by omega)]
                  exact p3
                have hn : nch ((xs.take q).reverse.take (q - 1 - p)) = l.length := by
                  rw [List.take_reverse, hlenq]
                  have : q - (q - 1 - p) = p + 1 := by omega
                  rw [this, List.drop_take, nch, List.filter_reverse, List.length_reverse]
                  have e2 : fr + (q - fr) - (p + 1) = q - (p + 1) := by omega
                  rw [← e2]; exact p5
                have := backOk_sound _ back hb (q - 1 - p) dp hrev p4 (by omega)
                have hL := hi.need h.closed this (fun e => by have := C.uniq p3 hqd e; omega)
                have := (h.chain p dp p3 p4).1 hL
                omega
            exact elder_sound back hs' r3 l.length (st fr).H hcount (by rw [l3]; simp)
        obtain ⟨u, u1, u2⟩ := read_sound (h.world fun q i o hn => by
          obtain ⟨d2, _, _, c1, c2, _⟩ := hn
          exact ((newsD_sound xs 0 C.newsO).1 q d2 i c1 c2).2) hev hopd hread
        rw [u1]
        exact hK fr ρ HE w _ (calmAt (by unfold isChain; rw [hk]) (by rw [hk]; simp) u2)
      · rename_i i' op hk hop
        rw [hop] at hopd
        obtain ⟨⟨ob, f, m1, m2, m3⟩, _⟩ := s2
        obtain ⟨obj, cap, x, n1, n2⟩ := new_sound (CR := CR) hev hopd m1 w
        have hnew : IsNew T base xs st q i' ob := ⟨d, op, f, hqd, hk, hop, hl, m1, by rw [hval]; exact m2⟩
        rw [n1]
        have hnone : ρ (base + i') = none := ((h.newA q i' ob d hnew hqd (h.front C hqd hi (by rw [hk]; simp))).2 hi.1).2
        have hpair := n2 (base + i') (ρ.put (base + i') ⟨w.heap.size, 0, cap⟩) (Rho.le_put hnone) (by simp [Rho.put])
        exact hK fr _ _ _ _ (h.newOn C hqd hi ho hd hnew (fun j ρ' h1 h2 => (n2 j ρ' h1 h2).1) hbase (huv (by rw [hval, m2]; exact hpair.2)))
      · rename_i hk
        have hc : isChain d = true := by unfold isChain; rw [hk]
        obtain ⟨hf, g1, g3, g4, g5⟩ := h.ahead C hqd hi hc
        have hsubH : Sub (st q).H HE := by
          intro x
          by_cases hx2 : ∃ q1 i1 o1, IsNew T base xs st q1 i1 o1 ∧ fr ≤ q1 ∧ x = base + i1
          · obtain ⟨q1, i1, o1, n1, n2, rfl⟩ := hx2
            rcases Nat.lt_or_ge q1 q with h' | h'
            · obtain ⟨m1, m2⟩ := (g4 q1 i1 o1 n1 n2).1 h'
              exact .inr (.inl (by rw [m1, m2]))
            · exact .inl ((g4 q1 i1 o1 n1 n2).2 h')
          · exact .inr (.inl (g5 x (fun q1 i1 o1 n1 n2 e => hx2 ⟨q1, i1, o1, n1, n2, e⟩)))
        have hhr : HR CR ρ (st q).H (st q).nx w := by rw [g1]; exact h.hr.sub hsubH g3
        have hres := op_sound hC hR hhr (ev := a.eval) hev (fun _ => rfl) hopd s2.1
        have next : ∀ (u : Value) (w1 : World) (ρ1 : Rho), VR ρ1 v u → HR CR ρ1 (st (q + 1)).H (st (q + 1)).nx w1 → Ext (st q).nx ρ (st q).H w ρ1 (st (q + 1)).H (st (q + 1)).nx w1 → (st q).nx ≤ (st (q + 1)).nx → Kn (a.put o.dst u) w1 := by
          intro u w1 ρ1 q1 q2 q3 q4
          obtain ⟨HE1, hinv⟩ := h.chainOn C hqd hi hc ho hd q2 q3 q4 (huv (by rw [hval]; exact q1))
          exact hK _ _ _ _ _ hinv
        rcases hres with ⟨nn, w1, ρ1, r1, r2, r3, r4, r5⟩ | ⟨f, args, r1, r2⟩ | ⟨l, f, tm, as, bo, r1, r2⟩
        · rw [r1]
          rcases r2 with ⟨rfl, rfl⟩ | ⟨u, rfl, r2⟩
          · simp only [Oper.uponIn]
            exact next undef w1 ρ1 (by simp only [unit, VR]; exact ⟨[], rfl, trivial⟩) r3 r4 r5
          · simp only [Oper.uponIn]
            exact next u w1 ρ1 r2 r3 r4 r5
        · rw [r1]
          simp only [Oper.uponIn]
          refine ⟨fun h => by simp [Fr, Fence.wide] at h, ?_⟩
          have r2' : CallsIn (Fr rl) 0 P f args w (RetR CR ρ (st q).H (st q).nx w v (st (q + 1)).H (st (q + 1)).nx) := r2
          refine CallsIn.mono r2' (fun e' w' hret => ?_)
          obtain ⟨u, ρ1, rfl, q1, q2, q3, q4⟩ := hret
          exact next u w' ρ1 q1 q2 q3 q4
        · rw [r1]
          simp only [Oper.uponIn]
          refine ⟨fun h => by simp [Fr, Fence.wide] at h, ?_⟩
          have r2' : RoundIn (Fr rl) 0 P l f tm as bo w (RetR CR ρ (st q).H (st q).nx w v (st (q + 1)).H (st (q + 1)).nx) := r2
          refine RoundIn.mono r2' (fun e' w' hret => ?_)
          obtain ⟨u, ρ1, rfl, q1, q2, q3, q4⟩ := hret
          exact next u w' ρ1 q1 q2 q3 q4
      · exact s2.elim
end
end Go.X
/- Regions whose order is drawn: all of it. -/
namespace Go.X
set_option linter.unusedVariables false
set_option linter.unusedSimpArgs false
section
variable {P : Program} {CR : Nat → Nat → Code → XCode → Prop}

theorem HR.more {ρ : Rho} {H : Tr XO} {nx nx' : Nat} {w : World} (h : HR CR ρ H nx w) (hn : nx ≤ nx') (hl : nx' ≤ trMax) : HR CR ρ H nx' w :=
  ⟨h.full, hl, fun b hb => h.fresh b (by omega), fun b hb => h.nul b (by omega), h.objs, h.sep⟩

theorem edgesD_at : ∀ (r : List Oper) (i : Nat), edgesD r i = true → ∀ (k : Nat) (o : Oper), r[k]? = some o → ∀ e ∈ o.after.toList, Region.binds .any e = true → e.on < i + k
  | [], _, _, k, o, h => by simp at h
  | x :: r, i, h, k, o, hk => by
    simp only [edgesD, Bool.and_eq_true] at h
    cases k with
    | zero =>
      simp only [List.getElem?_cons_zero, Option.some.injEq] at hk
      subst hk
      intro e he hb
      have := List.all_eq_true.1 h.1 e he
      simp only [hb, Bool.not_true, Bool.false_or, blt_iff] at this
      simpa using this
    | succ k =>
      intro e he hb
      have := edgesD_at r (i + 1) h.2 k o (by simpa using hk) e he hb
      omega

def LL (listed : Array Bool) : Nat → Prop := fun j => listed.getD j false = true

theorem LL_set {listed : Array Bool} {i : Nat} (hi : i < listed.size) : LL (listed.setIfInBounds i true) = addL (LL listed) i := by
  funext j
  apply propext
  simp only [LL, addL, Array.getD_eq_getD_getElem?, Array.getElem?_setIfInBounds]
  by_cases e : i = j
  · subst e; simp [hi]
  · rw [if_neg e]
    constructor
    · exact .inr
    · rintro (h | h)
      · exact absurd h.symm e
      · exact h

def unl (n : Nat) (listed : Array Bool) : Nat := ((List.range n).filter fun j => !listed.getD j true).length

theorem filter_lt {p p' : Nat → Bool} : ∀ (l : List Nat), (∀ x, p' x = true → p x = true) → ∀ i ∈ l, p i = true → p' i = false → (l.filter p').length < (l.filter p).length
  | [], _, i, h, _, _ => by simp at h
  | x :: l, hs, i, hm, h1, h2 => by
    have hle : ∀ l : List Nat, (l.filter p').length ≤ (l.filter p).length := by
      intro l
      induction l with
      | nil => simp
      | cons y l ih =>
        simp only [List.filter_cons]
        cases hy : p' y with
        | true => rw [hs y hy]; simp; exact ih
        | false => cases p y <;> simp <;> omega
    rcases List.mem_cons.1 hm with rfl | hm
    · simp only [List.filter_cons, h1, h2]
      have := hle l
      simp; omega
    · have ih := filter_lt l hs i hm h1 h2
      simp only [List.filter_cons]
      cases hx : p' x with
      | true => rw [hs x hx]; simp; exact ih
      | false => cases p x <;> simp <;> omega

theorem unl_set {n : Nat} {listed : Array Bool} {i : Nat} (hn : listed.size = n) (hi : i < n) (h : listed.getD i true = false) : unl n (listed.setIfInBounds i true) < unl n listed := by
  refine filter_lt _ (fun x hx => ?_) i (by simpa using hi) (by simp [h]) ?_
  · by_cases e : i = x
    · subst e; rw [h]; rfl
    · simpa [Array.getD_eq_getD_getElem?, Array.getElem?_setIfInBounds, e] using hx
  · simp [Array.getD_eq_getD_getElem?, Array.getElem?_setIfInBounds, hn, hi]

variable {F : FT} {ih : Ih} {K nt : Nat} {all : Array Oper} {news : Nat} {xs : List XDop} {T : Tr XV} {base : Nat} {st : Nat → DSt} {t0 : Array Value} {dl : List Nat} {ρ0 : Rho} {H0 : Tr XO} {nx0 : Nat} {w0 : World}

/-- All is done. -/
theorem DInv.done (C : DCtx P F ih K nt all news xs T base st t0) {L : Nat → Prop} {fr : Nat} {ρ : Rho} {HE : Tr XO} {w : World} {a : Act} (h : DInv CR K nt all news xs T base st t0 dl ρ0 H0 nx0 w0 L fr ρ HE w a) (hall : ∀ j, j < all.toList.length → L j) {upd : List (Nat × XE)}
    (hu : updD (ancs all.toList []) (wlist all.toList 0) xs all.toList K upd = true) (hc : coverD K upd (wlist all.toList 0) = true) :
    Post CR K nt ρ0 H0 nx0 w0 .normal (upds T T (st xs.length).S upd) (st xs.length).H (st xs.length).nx dl .normal a w := by
  have hL : ∀ (q : Nat) (d : XDop), xs[q]? = some d → L d.j := fun q d hq => by
    obtain ⟨o, h1, _⟩ := (posD_sound xs 0 C.pos q d hq).2
    exact hall _ (List.getElem?_eq_some_iff.1 h1).1
  obtain ⟨g1, g2, g3, g4, g5⟩ := segment C.newsO C.hst C.lim fr (xs.length - fr) (by have := h.frle; omega) (fun q d h1 h2 h3 => by
    cases hcc : isChain d with
    | false => rfl
    | true => have := (h.chain q d h3 hcc).1 (hL q d h3); omega) h.full
  have e : fr + (xs.length - fr) = xs.length := by have := h.frle; omega
  rw [e] at g1 g3 g4 g5
  have hsub : Sub (st xs.length).H HE := by
    intro x
    by_cases hx : ∃ q i o, IsNew T base xs st q i o ∧ fr ≤ q ∧ x = base + i
    · obtain ⟨q, i, o, n1, n2, rfl⟩ := hx
      obtain ⟨d, op, f, k1, _⟩ := id n1
      have hq : q < xs.length := (List.getElem?_eq_some_iff.1 k1).1
      have hA := (h.newA q i o d n1 k1 n2).1 (hL q d k1)
      exact .inr (.inl ((g4 q i o n1 n2 (by omega)).trans hA.symm))
    · refine .inr (.inl ?_)
      rw [g5 x (fun q i o n1 n2 _ e => hx ⟨q, i, o, n1, n2, e⟩), h.other x (fun q i o n1 n2 e => hx ⟨q, i, o, n1, n2, e⟩)]
  obtain ⟨lw, hlw⟩ := h.slots
  refine ⟨ρ, trivial, by rw [g1]; exact h.hr.sub hsub g3, by rw [g1]; exact h.ext.trans (Ext.sub (lo := nx0) hsub) (Nat.le_refl _) (Nat.le_refl _), ?_, h.size, h.dfr, by rw [g1]; exact h.nx0le⟩
  exact upd_final h.closed hlw hall h.tr (vals_ev C.hst xs.length (Nat.le_refl _)) hu hc

theorem any_sound {rl : Option Nat} (hC : CallOk P CR F ih) (hR : RoundOk P CR ih) (hbase : nx0 ≤ base) (C : DCtx P F ih K nt all news xs T base st t0) (hed : edgesD all.toList 0 = true) {upd : List (Nat × XE)}
    (hu : updD (ancs all.toList []) (wlist all.toList 0) xs all.toList K upd = true) (hc : coverD K upd (wlist all.toList 0) = true) :
    ∀ (fuel : Nat) (listed : Array Bool) (fr : Nat) (ρ : Rho) (HE : Tr XO) (w : World) (a : Act), listed.size = all.size → unl all.size listed ≤ fuel → DInv CR K nt all news xs T base st t0 dl ρ0 H0 nx0 w0 (LL listed) fr ρ HE w a →
      wpAnyIn (Fr rl) 0 P .any all (Post CR K nt ρ0 H0 nx0 w0 .normal (upds T T (st xs.length).S upd) (st xs.length).H (st xs.length).nx dl) fuel listed a w := by
  have fin : ∀ (listed : Array Bool) (fr : Nat) (ρ : Rho) (HE : Tr XO) (w : World) (a : Act), listed.size = all.size → DInv CR K nt all news xs T base st t0 dl ρ0 H0 nx0 w0 (LL listed) fr ρ HE w a → Region.ready .any all listed = [] →
      Post CR K nt ρ0 H0 nx0 w0 .normal (upds T T (st xs.length).S upd) (st xs.length).H (st xs.length).nx dl .normal a w := by
    intro listed fr ρ HE w a hsz h hr
    refine h.done C ?_ hu hc
    intro j
    induction j using Nat.strongRecOn with
    | _ j ihj =>
      intro hj
      have hj' : j < all.size := by simpa using hj
      cases hq : listed.getD j true with
      | true =>
        simp only [LL]
        rw [Array.getD_eq_getD_getElem?] at hq ⊢
        rw [Array.getElem?_eq_getElem (by omega)] at hq ⊢
        exact hq
      | false =>
        exfalso
        have hmem : j ∈ Region.ready .any all listed := by
          simp only [Region.ready, List.mem_filter, List.mem_range]
          refine ⟨hj', ?_⟩
          rw [hq, Array.getElem?_eq_getElem hj']
          simp only [Bool.not_false, Bool.true_and, Option.map_some, Option.getD_some]
          rw [← Array.all_toList, List.all_eq_true]
          intro e he
          cases hb : Region.binds .any e with
          | false => rfl
          | true =>
            have ho : all.toList[j]? = some all[j] := by rw [Array.getElem?_toList]; exact Array.getElem?_eq_getElem hj'
            have hlt := edgesD_at all.toList 0 hed j _ ho e he hb
            have := ihj e.on (by omega) (by simp; omega)
            simpa [LL] using this
        rw [hr] at hmem
        simp at hmem
  intro fuel
  induction fuel with
  | zero =>
    intro listed fr ρ HE w a hsz hul h
    have hr : Region.ready .any all listed = [] := by
      have h0 : (List.range all.size).filter (fun j => !listed.getD j true) = [] := List.eq_nil_of_length_eq_zero (by simpa [unl] using hul)
      rw [List.filter_eq_nil_iff] at h0
      simp only [Region.ready]
      rw [List.filter_eq_nil_iff]
      intro j hj
      have := h0 j hj
      cases hq : listed.getD j true with
      | true => simp
      | false => rw [hq] at this; simp at this
    exact ⟨hr, fin listed fr ρ HE w a hsz h hr⟩
  | succ fuel ihf =>
    intro listed fr ρ HE w a hsz hul h
    refine ⟨fin listed fr ρ HE w a hsz h, fun i hi => ?_⟩
    simp only [Region.ready, List.mem_filter, List.mem_range, Bool.and_eq_true, Bool.not_eq_true'] at hi
    obtain ⟨hin, hnl, hedge⟩ := hi
    have ho : all.toList[i]? = some all[i] := by rw [Array.getElem?_toList]; exact Array.getElem?_eq_getElem hin
    rw [Array.getElem?_eq_getElem hin] at hedge
    simp only [Option.map_some, Option.getD_some] at hedge
    rw [← Array.all_toList, List.all_eq_true] at hedge
    have hready : Ready all.toList (LL listed) i := by
      refine ⟨fun hl => ?_, fun o ho' e he hb => ?_⟩
      · simp only [LL] at hl
        rw [Array.getD_eq_getD_getElem?, Array.getElem?_eq_getElem (by omega)] at hl hnl
        simp only [Option.getD_some] at hl hnl
        rw [hl] at hnl; cases hnl
      · rw [ho] at ho'; cases ho'
        have := hedge e he
        simpa [hb, LL] using this
    refine dstep hC hR hbase C h hready ho (fun fr' ρ' HE' w' a' h' => ?_)
    refine ihf (listed.setIfInBounds i true) fr' ρ' HE' w' a' (by simpa using hsz) ?_ ?_
    · have := unl_set hsz hin hnl
      omega
    · rw [LL_set (by omega)]
      exact h'
end

theorem drawOk (P : Program) (F : FT) : DrawOk P (drawD P) F := by
  intro ih hC hR K nt all news xs upd hD T dl H nx e T' H' nx' dl' hlt hx ρ w a rl hh ht hs hd t
  simp only [drawD, Bool.and_eq_true] at hD
  obtain ⟨⟨⟨⟨⟨⟨⟨⟨h1, h2⟩, h3⟩, h4⟩, h5⟩, h6⟩, h7⟩, h8⟩, h9⟩ := hD
  obtain ⟨st, s0, s1, rfl, rfl, rfl, rfl, hdl⟩ := dops_states xs ⟨[], H, nx + news, [H]⟩ hx
  subst hdl
  have hlt' : nx + news < trMax := hlt
  have C : DCtx P F ih K nt all news xs T nx st a.tmps := ⟨s1, by omega, h3, h4, h5, h6, h7, by rw [s0]⟩
  have hnx0 : (st 0).nx = nx + news := by rw [s0]
  have hH0 : (st 0).H = H := by rw [s0]
  have hnew := (newsD_sound xs 0 h7).1
  have hinit : DInv (CRel P (drawD P)) K nt all news xs T nx st a.tmps dl' ρ H nx w (LL (Array.replicate all.size false)) 0 ρ H w a := by
    have hno : ∀ j, ¬ LL (Array.replicate all.size false) j := by
      intro j hj
      simp only [LL, Array.getD_eq_getD_getElem?, Array.getElem?_replicate] at hj
      split at hj <;> simp at hj
    refine ⟨fun j o _ hj => absurd hj (hno j), by rw [hnx0]; exact hh.more (by omega) (by omega), by rw [hnx0]; exact Ext.refl _ _ _ _ _, by omega, by omega, by rw [hH0]; exact hh.full, Nat.zero_le _, .inl rfl, fun q d _ _ => ⟨fun h => absurd h (hno _), fun h => by omega⟩,
      fun q i o d hn hq _ => ⟨fun h => absurd h (hno _), fun _ => ⟨hh.fresh _ (by omega), hh.nul _ (by omega)⟩⟩, fun q i o hn _ => by rw [hH0]; exact hh.fresh _ (by omega), fun x _ => by rw [hH0], ⟨fun _ => none, fun t => ⟨rfl, fun j hj => absurd hj (hno j)⟩⟩, ht, hs, hd⟩
  have hul : unl all.size (Array.replicate all.size false) ≤ all.size := by
    unfold unl
    exact Nat.le_trans (List.length_filter_le _ _) (by simp)
  have hany := any_sound (rl := rl) hC hR (Nat.le_refl nx) C h2 h8 h9 all.size (Array.replicate all.size false) 0 ρ H w a (by simp) hul hinit
  have := wpAnyIn_sound all.size t (Array.replicate all.size false) a w hany
  simp only [Region.schedule, h1, Bool.true_or, if_true]
  exact this
end Go.X
/- A program's functions, checked; a call's answer. -/
namespace Go.X
set_option linter.unusedVariables false
set_option linter.unusedSimpArgs false

def isUnk : XV → Bool
  | .unk => true
  | _ => false
def isBlank : Tr XV → Bool
  | .e => true
  | .nd l v r => isUnk v && isBlank l && isBlank r

theorem isBlank_get : ∀ (t : Tr XV), isBlank t = true → ∀ i, Tr.get .unk t i = .unk
  | .e, _, i => rfl
  | .nd l v r, h, i => by
    simp only [isBlank, Bool.and_eq_true] at h
    cases i with
    | zero =>
      show v = .unk
      have := h.1.1
      cases v <;> simp [isUnk] at this <;> rfl
    | succ i =>
      simp only [Tr.get]
      cases hm : Nat.mod i 2 with
      | zero => exact isBlank_get l h.1.2 _
      | succ m => exact isBlank_get r h.2 _

def fnChk (P : Program) (f : Nat) (fn : XFunc) : Bool :=
  match P.funcs[f]? with
  | some fn' => (match fn'.body with
    | some body => !(fn'.name == "runtime.NumGoroutine") && Nat.beq fn'.ntmps fn.nt && chkCode P (drawD P) fn.keep fn.nt fn.body body && isBlank fn.blank && resOk P fn.keep fn.res fn'.results.toList
    | none => false)
  | none => false

theorem fnChk_sound {P : Program} {f : Nat} {fn : XFunc} (h : fnChk P f fn = true) : FnOk P (drawD P) f fn := by
  unfold fnChk at h
  split at h
  · rename_i fn' hf
    split at h
    · rename_i body hb
      simp only [Bool.and_eq_true, Bool.not_eq_true', beq_iff] at h
      obtain ⟨⟨⟨⟨h1, h2⟩, h3⟩, h4⟩, h5⟩ := h
      exact ⟨fn', body, hf, hb, h1, h2, h3, isBlank_get _ h4, h5⟩
    · cases h
  · cases h

/-- The table's rows: a place in the tree and what stands there. -/
def tabAll (p : Nat → XFn → Bool) : Tr (Option XFn) → (Nat → Nat) → Bool
  | .e, _ => true
  | .nd l v r, at_ => (match v with | some x => p (at_ 0) x | none => true) && tabAll p l (fun k => at_ (2 * k + 1)) && tabAll p r (fun k => at_ (2 * k + 2))

theorem tabAll_sound {p : Nat → XFn → Bool} : ∀ (t : Tr (Option XFn)) (at_ : Nat → Nat), tabAll p t at_ = true → ∀ i x, Tr.get none t i = some x → p (at_ i) x = true
  | .e, _, _, i, x, h => by simp [Tr.get] at h
  | .nd l v r, at_, hp, i, x, h => by
    simp only [tabAll, Bool.and_eq_true] at hp
    cases i with
    | zero =>
      simp only [Tr.get] at h
      subst h
      exact hp.1.1
    | succ i =>
      simp only [Tr.get] at h
      have hdm : 2 * (i / 2) + i % 2 = i := Nat.div_add_mod i 2
      cases hm : Nat.mod i 2 with
      | zero =>
        rw [hm] at h
        have hm' : i % 2 = 0 := hm
        have := tabAll_sound l _ hp.1.2 _ x h
        have e : 2 * (Nat.div i 2) + 1 = i + 1 := by show 2 * (i / 2) + 1 = i + 1; omega
        simpa only [e] using this
      | succ m =>
        rw [hm] at h
        have hm' : i % 2 = m + 1 := hm
        have := tabAll_sound r _ hp.2 _ x h
        have e : 2 * (Nat.div i 2) + 2 = i + 1 := by show 2 * (i / 2) + 2 = i + 1; omega
        simpa only [e] using this

/-- The empty heap. -/
theorem HR.empty (CR : Nat → Nat → Code → XCode → Prop) (w : World) : HR CR (fun _ => none) blankH 0 w := by
  have hd : ∀ b, hget blankH b = .dead := fun b => Tr.get_blank _ _ _
  exact ⟨Tr.full_blank _ _, Nat.zero_le _, fun b _ => hd b, fun _ _ => rfl, fun b hb => absurd (hd b) hb, fun b b' L L' _ hw _ _ _ _ => by rw [hd b] at hw; exact hw.elim⟩

/-- **What X answers is what the call returns.** -/
theorem calls_of_run {P : Program} {F : FT} (hF : ∀ f fn, F f = some (.code fn) → FnOk P (drawD P) f fn) (hX : ExtOk P (drawD P) F) {f : Nat} {fn : XFunc} (hf : F f = some (.code fn)) {n : Nat} {av : List XV} (hr : isTrue (run F n f av) = true) {args : List Value}
    (ha : VRL (fun _ => none) av args) (w : World) : Calls P f ⟨args⟩ w fun e w' => e = .returned (.bool true) ∧ w.heap.size ≤ w'.heap.size ∧ (∀ B, B < w.heap.size → w'.heap[B]? = w.heap[B]?) ∧ w'.os = w.os ∧ w'.output = w.output := by
  have hI := exec_sound hF hX (drawOk P F) n
  unfold run isTrue at hr
  cases hx : enter F (exec F n) f av blankH 0 with
  | no => rw [hx] at hr; cases hr
  | ok v H nx =>
    rw [hx] at hr
    cases v <;> simp only [Bool.false_eq_true] at hr
    subst hr
    have hx' : enterc (exec F n) fn av blankH 0 = .ok (.bool true) H nx := by simpa [enter, hf] using hx
    have := enterc_sound hI (hF f fn hf) hx' (HR.empty _ w) ha
    rw [← callsIn_wide (n := 0)]
    refine CallsIn.mono this ?_
    rintro e w' ⟨x, ρ', rfl, h1, h2, h3, h4⟩
    simp only [VR] at h1
    subst h1
    refine ⟨rfl, h3.size, fun B hB => h3.frame B hB (fun b L hw hL => ?_), h3.os, h3.out⟩
    cases hL
end Go.X
