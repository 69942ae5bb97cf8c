/- The plan of a region (…Rg) over any relation of worlds that holds of a world and itself and joins: what the operations leave is told by it, and what is taken must yield under it. -/
import Derived.Test.YtohhkoojjelghaaDoorRg
set_option linter.unusedVariables false
set_option linter.unusedSimpArgs false
namespace Go.PlanS
open Go.RowKit Go.Plan

structure St where
  S : World → World → Prop
  refl : ∀ w, S w w
  trans : ∀ a b c, S a b → S b c → S a c
/-- All blocks but one are as they were. -/
def But (b : Nat) : St where
  S w w' := w.heap.size ≤ w'.heap.size ∧ ∀ k, k < w.heap.size → k ≠ b → w'.heap[k]? = w.heap[k]?
  refl _ := ⟨Nat.le_refl _, fun _ _ _ => rfl⟩
  trans _ _ _ h1 h2 := ⟨Nat.le_trans h1.1 h2.1, fun k hk hb => (h2.2 k (Nat.lt_of_lt_of_le hk h1.1) hb).trans (h1.2 k hk hb)⟩
theorem But.cell {b : Nat} {w w' : World} (h : (But b).S w w') {a : Addr} {v : Value} (hc : w.cell? a = some v) (hb : a.block ≠ b) : w'.cell? a = some v :=
  (World.cell?_of_block (w := w) (h.2 a.block (World.block_lt_of_cell? w a hc) hb)).trans hc
theorem But.below {b : Nat} {w w' : World} (h : Below w.heap.size w w') : (But b).S w w' := ⟨h.size, fun k hk _ => h.block k hk⟩
theorem But.set5 {b : Nat} {w : World} (x0 x1 x2 x3 x4 : Value) : (But b).S w (((((w.setCell ⟨b, 0, none⟩ x0).setCell ⟨b, 1, none⟩ x1).setCell ⟨b, 2, none⟩ x2).setCell ⟨b, 3, none⟩ x3).setCell ⟨b, 4, none⟩ x4) :=
  ⟨by simp, fun k _ hk => by
    rw [Below.heap_setCell _ _ _ _ hk, Below.heap_setCell _ _ _ _ hk, Below.heap_setCell _ _ _ _ hk, Below.heap_setCell _ _ _ _ hk, Below.heap_setCell _ _ _ _ hk]⟩
theorem But.set1 {b : Nat} {w : World} (k : Nat) (x : Value) : (But b).S w (w.setCell ⟨b, k, none⟩ x) :=
  ⟨by simp, fun k _ hk => by rw [Below.heap_setCell _ _ _ _ hk]⟩

section
variable {S : St} {P : Program} {ops : Array Oper} {Q : Exit → Act → World → Prop}

/-- What an operation that is carried out must leave: nothing that was there has turned, but where it is a bar. -/
def Ext (S : St) (bar : List Nat) (i : Nat) (w w' : World) : Prop := bar.contains i = true ∨ S.S w w'

/-- One operation of the plan is carried out. -/
def wpLoud (S : St) (P : Program) (ops : Array Oper) (Q : Exit → Act → World → Prop) (bar : List Nat) (i : Nat) (K : Act → World → Prop) (a : Act) (w : World) : Prop :=
  wpOp P ops Q i (fun a' w' => Ext S bar i w w' ∧ K a' w') a w

def wpPlan (S : St) (P : Program) (ops : Array Oper) (Q : Exit → Act → World → Prop) (bar : List Nat) : Plan → Act → World → Prop
  | .done, a, w => Q .normal a w
  | .take i r, a, w => ∃ v, (match ops[i]? with | some o => YieldsIf P ops (S.S w) o v a | none => False) ∧ wpPlan S P ops Q bar r (a.put ((ops[i]?).bind (·.dst)) v) w
  | .one i r, a, w => wpLoud S P ops Q bar i (wpPlan S P ops Q bar r) a w
  | .two i r j s, a, w => wpLoud S P ops Q bar i (wpPlan S P ops Q bar r) a w ∧ wpLoud S P ops Q bar j (wpPlan S P ops Q bar s) a w
  | .three i r j s k t, a, w => wpLoud S P ops Q bar i (wpPlan S P ops Q bar r) a w ∧ wpLoud S P ops Q bar j (wpPlan S P ops Q bar s) a w ∧ wpLoud S P ops Q bar k (wpPlan S P ops Q bar t) a w

def wpAnyE (S : St) (P : Program) (ops : Array Oper) (Q : Exit → Act → World → Prop) (bar : List Nat) : Nat → Array Bool → Act → World → Prop
  | 0, listed, a, w => Region.ready .any ops listed = [] ∧ Q .normal a w
  | fuel + 1, listed, a, w =>
    (Region.ready .any ops listed = [] → Q .normal a w) ∧
    ∀ i ∈ Region.ready .any ops listed, wpOp P ops Q i (fun a' w' => Ext S bar i w w' ∧ wpAnyE S P ops Q bar fuel (listed.setIfInBounds i true) a' w') a w

theorem wpAny_of_E {bar : List Nat} : ∀ (fuel : Nat) (listed : Array Bool) (a : Act) (w : World), wpAnyE S P ops Q bar fuel listed a w → wpAny P .any ops Q fuel listed a w
  | 0, _, _, _, h => h
  | fuel + 1, _, _, _, h => ⟨h.1, fun i hi => wpOp_mono (fun a' w' h' => wpAny_of_E fuel _ a' w' h'.2) (h.2 i hi)⟩

/-- An operation that may come up may be taken first. -/
theorem first {bar : List Nat} {i : Nat} {oi : Oper} {v : Value} (hi : ops[i]? = some oi) (hsel : ∀ (j : Nat) (o : Oper) cs b, ops[j]? = some o → o.op ≠ .select cs b)
    (hQ : ∀ c a w, Q (.panic c) (a.put oi.dst v) w → Q (.panic c) a w) :
    ∀ (fuel : Nat) (listed : Array Bool) (a : Act) (w : World),
      (∀ j oj, ops[j]? = some oj → j ≠ i → listed.getD j true = false → (∀ e ∈ oj.after, Region.binds .any e = true → e.on ≠ i) → oi.apart ops oj = true) →
      Closed ops listed → (∀ j, bar.contains j = true → listed.getD j true = false → j = i ∨ waits ops ops.size j i = true) →
      i ∈ Region.ready .any ops listed → YieldsIf P ops (S.S w) oi v a →
      wpAnyE S P ops Q bar fuel (listed.setIfInBounds i true) (a.put oi.dst v) w → wpAnyE S P ops Q bar (fuel + 1) listed a w := by
  intro fuel
  induction fuel with
  | zero =>
    intro listed a w _ _ _ hr hy H
    refine ⟨fun h => (by rw [h] at hr; cases hr), fun j hj => ?_⟩
    by_cases hji : j = i
    · subst hji; exact hy.wpOp hi (S.refl _) ⟨.inr (S.refl _), H⟩
    · have := ready_mono hj hji
      rw [H.1] at this
      cases this
  | succ fuel ih =>
    intro listed a w hfree hcl hbar hr hy H
    refine ⟨fun h => (by rw [h] at hr; cases hr), fun j hj => ?_⟩
    by_cases hji : j = i
    · subst hji; exact hy.wpOp hi (S.refl _) ⟨.inr (S.refl _), H⟩
    · have h1 := H.2 j (ready_mono hj hji)
      obtain ⟨hjun, oj, hoj, hall⟩ := mem_ready.1 hj
      have hiun := (mem_ready.1 hr).1
      have hiunf : listed.getD i false = true → False := fun h1 => by
        rcases Nat.lt_or_ge i listed.size with h' | h'
        · simp [h'] at hiun h1; rw [hiun] at h1; cases h1
        · simp [Array.getElem?_eq_none h'] at h1
      have hnot : ∀ e ∈ oj.after, Region.binds .any e = true → e.on ≠ i := fun e he hb heq => by
        have h1 := hall e he hb
        rw [heq] at h1
        exact hiunf h1
      have hnb : bar.contains j = true → False := fun hb => by
        rcases hbar j hb hjun with h' | h'
        · exact hji h'
        · exact hiunf (waits_listed hcl _ j h' ⟨oj, hoj, hall⟩)
      have h2 := wpOp_putIf (S := S.S w) hoj (hfree j oj hoj hji hjun hnot) (fun cs b => hsel i oi cs b hi) (fun cs b => hsel j oj cs b hoj) hQ hy h1
      have hfree' : ∀ k ok, ops[k]? = some ok → k ≠ i → (listed.setIfInBounds j true).getD k true = false →
          (∀ e ∈ ok.after, Region.binds .any e = true → e.on ≠ i) → oi.apart ops ok = true := fun k ok hk hki hun hno => by
        refine hfree k ok hk hki ?_ hno
        by_cases hjk : j = k
        · subst hjk; exact hjun
        · rw [getD_set_ne true hjk] at hun; exact hun
      have hbar' : ∀ k, bar.contains k = true → (listed.setIfInBounds j true).getD k true = false → k = i ∨ waits ops ops.size k i = true := fun k hk hun => by
        refine hbar k hk ?_
        by_cases hjk : j = k
        · subst hjk; exact hjun
        · rw [getD_set_ne true hjk] at hun; exact hun
      refine wpOp_mono (fun a' w' h3 => ?_) h2
      obtain ⟨hy', he, hA⟩ := h3
      have hb : S.S w w' := he.resolve_left (fun h => hnb h)
      have hy2 : YieldsIf P ops (S.S w') oi v a' := by
        rcases hy' with ⟨h1, h2⟩ | h1
        · exact .inl ⟨h1, fun w2 hw2 => h2 w2 (S.trans _ _ _ hb hw2)⟩
        · exact .inr h1
      refine ⟨.inr hb, ih (listed.setIfInBounds j true) a' w' hfree' (hcl.set hj) hbar' (ready_mono hr (Ne.symm hji)) hy2 ?_⟩
      rw [Array.setIfInBounds_comm _ _ hji]
      exact hA

theorem plan_sound {bar : List Nat} (hsel : Region.noSelect ops = true) (hQ : ∀ c a d v w, Q (.panic c) (Act.put a d v) w → Q (.panic c) a w) :
    ∀ (p : Plan) (fuel : Nat) (listed : Array Bool) (a : Act) (w : World), Closed ops listed → planOk ops bar p listed = true → listed.size ≤ listed.toList.count true + fuel → listed.size = ops.size →
      wpPlan S P ops Q bar p a w → wpAnyE S P ops Q bar fuel listed a w := by
  have cnt : ∀ (listed : Array Bool) (i fuel : Nat), i ∈ Region.ready .any ops listed → listed.size = ops.size → listed.size ≤ listed.toList.count true + fuel → ∃ f, fuel = f + 1 ∧ (listed.setIfInBounds i true).size ≤ (listed.setIfInBounds i true).toList.count true + f := by
    intro listed i fuel hi hs hf
    obtain ⟨hun, o, ho, _⟩ := mem_ready.1 hi
    have hlt : i < listed.size := by rw [hs]; exact (Array.getElem?_eq_some_iff.1 ho).1
    have hgi : listed.toList[i]'(by simpa using hlt) = false := by simpa [hlt] using hun
    have h1 : (listed.setIfInBounds i true).toList.count true = listed.toList.count true + 1 := by
      rw [Array.toList_setIfInBounds, List.count_set (by simpa using hlt)]
      simp at hgi
      simp [hgi]
    have h2 : listed.toList.count true < listed.size := by
      have hle := List.count_le_length (a := true) (l := listed.toList)
      rcases Nat.lt_or_ge (listed.toList.count true) listed.size with h | h
      · exact h
      · exfalso
        have heq : listed.toList.count true = listed.toList.length := Nat.le_antisymm hle (by simpa using h)
        have := List.count_eq_length.1 heq _ (List.getElem_mem (by simpa using hlt : i < listed.toList.length))
        rw [hgi] at this
        cases this
    obtain ⟨f, rfl⟩ : ∃ f, fuel = f + 1 := ⟨fuel - 1, by omega⟩
    exact ⟨f, rfl, by simp only [Array.size_setIfInBounds]; omega⟩
  have loud : ∀ (i : Nat) (r : Plan) (f : Nat) (listed : Array Bool) (a : Act) (w : World), (∀ a' w', wpPlan S P ops Q bar r a' w' → wpAnyE S P ops Q bar f (listed.setIfInBounds i true) a' w') → wpLoud S P ops Q bar i (wpPlan S P ops Q bar r) a w →
      wpOp P ops Q i (fun a' w' => Ext S bar i w w' ∧ wpAnyE S P ops Q bar f (listed.setIfInBounds i true) a' w') a w := fun i r f listed a w h hl => wpOp_mono (fun a' w' h' => ⟨h'.1, h a' w' h'.2⟩) hl
  intro p
  induction p with
  | done =>
    intro fuel listed a w _ hp _ _ h
    have hr : Region.ready .any ops listed = [] := by simpa [planOk] using hp
    cases fuel with
    | zero => exact ⟨hr, h⟩
    | succ f => exact ⟨fun _ => h, by rw [hr]; simp⟩
  | take i r ih =>
    intro fuel listed a w hcl hp hf hs h
    simp only [planOk, Bool.and_eq_true] at hp
    obtain ⟨⟨⟨hfr, hrd⟩, hb⟩, hp⟩ := hp
    have hrd' : i ∈ Region.ready .any ops listed := by simpa using hrd
    obtain ⟨f, rfl, hf'⟩ := cnt listed i fuel hrd' hs hf
    obtain ⟨v, hy, h⟩ := h
    cases ho : ops[i]? with
    | none => rw [ho] at hy; exact hy.elim
    | some oi =>
      rw [ho] at hy h
      refine first ho (Region.noSelect_spec hsel) (fun c a w => hQ c a _ _ w) f listed a w (Region.free_spec ho hfr) hcl (fun j hj hun => ?_) hrd' hy (ih f _ _ _ (hcl.set hrd') hp hf' (by simpa using hs) h)
      have := List.all_eq_true.1 hb j (by simpa using hj)
      rw [hun] at this
      simpa using this
  | one i r ih =>
    intro fuel listed a w hcl hp hf hs h
    simp only [planOk, Bool.and_eq_true, beq_iff_eq] at hp
    have hrd' : i ∈ Region.ready .any ops listed := by rw [hp.1]; simp
    obtain ⟨f, rfl, hf'⟩ := cnt listed i fuel hrd' hs hf
    refine ⟨fun h0 => absurd (hp.1 ▸ h0) (by simp), ?_⟩
    rw [hp.1]
    intro k hk
    obtain rfl : k = i := by simpa using hk
    exact loud k r f listed a w (fun a' w' => ih f _ a' w' (hcl.set hrd') hp.2 hf' (by simpa using hs)) h
  | two i r j s ih1 ih2 =>
    intro fuel listed a w hcl hp hf hs h
    simp only [planOk, Bool.and_eq_true, beq_iff_eq] at hp
    obtain ⟨⟨hr, hp1⟩, hp2⟩ := hp
    have hi : i ∈ Region.ready .any ops listed := by rw [hr]; simp
    have hj : j ∈ Region.ready .any ops listed := by rw [hr]; simp
    obtain ⟨f, rfl, hf1⟩ := cnt listed i fuel hi hs hf
    obtain ⟨f', hff, hf2⟩ := cnt listed j (f + 1) hj hs hf
    obtain rfl : f = f' := by omega
    refine ⟨fun h0 => absurd (hr ▸ h0) (by simp), ?_⟩
    rw [hr]
    intro k hk
    rcases (by simpa using hk : k = i ∨ k = j) with rfl | rfl
    · exact loud k r f listed a w (fun a' w' => ih1 f _ a' w' (hcl.set hi) hp1 hf1 (by simpa using hs)) h.1
    · exact loud k s f listed a w (fun a' w' => ih2 f _ a' w' (hcl.set hj) hp2 hf2 (by simpa using hs)) h.2
  | three i r j s k t ih1 ih2 ih3 =>
    intro fuel listed a w hcl hp hf hs h
    simp only [planOk, Bool.and_eq_true, beq_iff_eq] at hp
    obtain ⟨⟨⟨hr, hp1⟩, hp2⟩, hp3⟩ := hp
    have hi : i ∈ Region.ready .any ops listed := by rw [hr]; simp
    have hj : j ∈ Region.ready .any ops listed := by rw [hr]; simp
    have hk : k ∈ Region.ready .any ops listed := by rw [hr]; simp
    obtain ⟨f, rfl, hf1⟩ := cnt listed i fuel hi hs hf
    obtain ⟨f', hff, hf2⟩ := cnt listed j (f + 1) hj hs hf
    obtain rfl : f = f' := by omega
    obtain ⟨f', hff, hf3⟩ := cnt listed k (f + 1) hk hs hf
    obtain rfl : f = f' := by omega
    refine ⟨fun h0 => absurd (hr ▸ h0) (by simp), ?_⟩
    rw [hr]
    intro q hq
    rcases (by simpa using hq : q = i ∨ q = j ∨ q = k) with rfl | rfl | rfl
    · exact loud q r f listed a w (fun a' w' => ih1 f _ a' w' (hcl.set hi) hp1 hf1 (by simpa using hs)) h.1
    · exact loud q s f listed a w (fun a' w' => ih2 f _ a' w' (hcl.set hj) hp2 hf2 (by simpa using hs)) h.2.1
    · exact loud q t f listed a w (fun a' w' => ih3 f _ a' w' (hcl.set hk) hp3 hf3 (by simpa using hs)) h.2.2

/-- THE LAW: a region that draws its order, by a plan. -/
theorem region_plan (S : St) {id : Nat} {a : Act} {w : World} (bar : List Nat) (p : Plan) (hm : P.follows .mixedOrders = true) (hsel : Region.noSelect ops = true) (hp : planOk ops bar p (Array.replicate ops.size false) = true)
    (hQ : ∀ c a d v w, Q (.panic c) (Act.put a d v) w → Q (.panic c) a w) (h : wpPlan S P ops Q bar p a w.drew) : (Code.region id ops true).wp P Q a w :=
  wp_region_any hm (wpAny_of_E _ _ _ _ (plan_sound hsel hQ p _ _ _ _ (fun j oj _ hl => by
    exfalso
    rcases Nat.lt_or_ge j ops.size with h' | h'
    · simp [h'] at hl
    · simp [h'] at hl) hp (by simp) (by simp) h))

/-! ### The moves -/
theorem take_yes {bar : List Nat} {i : Nat} {r : Plan} {o : Oper} {a : Act} {w : World} (ho : ops[i]? = some o) (hw : Region.wanted o (yielded ops a.tmps) = true)
    (h : ∃ v, (∀ w', S.S w w' → (execOp a.eval o).run P w' = .ok (.value v) w') ∧ wpPlan S P ops Q bar r (a.put o.dst v) w) : wpPlan S P ops Q bar (.take i r) a w :=
  let ⟨v, hy, h⟩ := h
  ⟨v, by rw [ho]; exact .inl ⟨hw, hy⟩, by rw [ho]; exact h⟩
theorem take_no {bar : List Nat} {i : Nat} {r : Plan} {o : Oper} {a : Act} {w : World} (ho : ops[i]? = some o) (hw : Region.wanted o (yielded ops a.tmps) = false)
    (h : wpPlan S P ops Q bar r (a.put o.dst undef) w) : wpPlan S P ops Q bar (.take i r) a w :=
  ⟨undef, by rw [ho]; exact .inr ⟨hw, rfl⟩, by rw [ho]; exact h⟩
theorem plan_done {bar : List Nat} {a : Act} {w : World} (h : Q .normal a w) : wpPlan S P ops Q bar .done a w := h
theorem loud_yes {bar : List Nat} {i : Nat} {K : Act → World → Prop} {o : Oper} {a : Act} {w : World} (ho : ops[i]? = some o) (hw : Region.wanted o (yielded ops a.tmps) = true)
    (h : ∀ K' : Act → World → Prop, (∀ a' w', Ext S bar i w w' → K a' w' → K' a' w') → o.wp P a w K' Q) : wpLoud S P ops Q bar i K a w := by
  unfold wpLoud wpOp
  rw [ho]
  simp only [hw, if_true]
  exact .inl (h _ fun _ _ h1 h2 => ⟨h1, h2⟩)
theorem loud_no {bar : List Nat} {i : Nat} {K : Act → World → Prop} {o : Oper} {a : Act} {w : World} (ho : ops[i]? = some o) (hw : Region.wanted o (yielded ops a.tmps) = false)
    (h : K (a.put o.dst undef) w) : wpLoud S P ops Q bar i K a w := by
  unfold wpLoud wpOp
  rw [ho]
  simp only [hw, Bool.false_eq_true, if_false]
  exact ⟨.inr (S.refl _), h⟩

end
end Go.PlanS
