/- A region that draws its order, walked by a plan: what can be taken at once is taken first, of the rest one order (or few) is left. Over any program; no condition but the plan's own check. -/
import Derived.OrdersHeld
import Derived.Below
import Derived.KernelRfl
import Derived.Maps.AppendAt
import Derived.WalkKit
import Derived.Deep.AppendLies
set_option linter.unusedVariables false
set_option linter.unusedSimpArgs false
namespace Go.Plan
open Go.RowKit

section
variable {P : Program} {ops : Array Oper} {Q : Exit → Act → World → Prop}

/-- The plan of a region: 'take i': number i yields its value at once; 'one', 'two', 'three': just these may come up. -/
inductive Plan where
  | done
  | take (i : Nat) (r : Plan)
  | one (i : Nat) (r : Plan)
  | two (i : Nat) (r : Plan) (j : Nat) (s : Plan)
  | three (i : Nat) (r : Plan) (j : Nat) (s : Plan) (k : Nat) (t : Plan)

def takes : List Nat → Plan → Plan
  | [], r => r
  | i :: l, r => .take i (takes l r)

/-- Does j wait for i, through others or at once? -/
def waits (ops : Array Oper) : Nat → Nat → Nat → Bool
  | 0, _, _ => false
  | n + 1, j, i => match ops[j]? with
    | some o => o.after.any fun e => Region.binds .any e && (e.on == i || waits ops n e.on i)
    | none => false

def barOk (ops : Array Oper) (bar : List Nat) (listed : Array Bool) (i : Nat) : Bool :=
  bar.all fun j => listed.getD j true || j == i || waits ops ops.size j i

def planOk (ops : Array Oper) (bar : List Nat) : Plan → Array Bool → Bool
  | .done, listed => (Region.ready .any ops listed).isEmpty
  | .take i r, listed => Region.free .any ops listed i && (Region.ready .any ops listed).contains i && barOk ops bar listed i && planOk ops bar r (listed.setIfInBounds i true)
  | .one i r, listed => (Region.ready .any ops listed == [i]) && planOk ops bar r (listed.setIfInBounds i true)
  | .two i r j s, listed => (Region.ready .any ops listed == [i, j]) && planOk ops bar r (listed.setIfInBounds i true) && planOk ops bar s (listed.setIfInBounds j true)
  | .three i r j s k t, listed => (Region.ready .any ops listed == [i, j, k]) && planOk ops bar r (listed.setIfInBounds i true) && planOk ops bar s (listed.setIfInBounds j true) && planOk ops bar t (listed.setIfInBounds k true)

/-- What an operation that is carried out must leave: nothing that was there has turned, but where it is a bar. -/
def Ext (bar : List Nat) (i : Nat) (w w' : World) : Prop := bar.contains i = true ∨ Below w.heap.size w w'

/-- One operation of the plan is carried out. -/
def wpLoud (P : Program) (ops : Array Oper) (Q : Exit → Act → World → Prop) (bar : List Nat) (i : Nat) (K : Act → World → Prop) (a : Act) (w : World) : Prop :=
  wpOp P ops Q i (fun a' w' => Ext bar i w w' ∧ K a' w') a w

def wpPlan (P : Program) (ops : Array Oper) (Q : Exit → Act → World → Prop) (bar : List Nat) : Plan → Act → World → Prop
  | .done, a, w => Q .normal a w
  | .take i r, a, w => ∃ v, (match ops[i]? with | some o => YieldsIf P ops (Below w.heap.size w) o v a | none => False) ∧ wpPlan P ops Q bar r (a.put ((ops[i]?).bind (·.dst)) v) w
  | .one i r, a, w => wpLoud P ops Q bar i (wpPlan P ops Q bar r) a w
  | .two i r j s, a, w => wpLoud P ops Q bar i (wpPlan P ops Q bar r) a w ∧ wpLoud P ops Q bar j (wpPlan P ops Q bar s) a w
  | .three i r j s k t, a, w => wpLoud P ops Q bar i (wpPlan P ops Q bar r) a w ∧ wpLoud P ops Q bar j (wpPlan P ops Q bar s) a w ∧ wpLoud P ops Q bar k (wpPlan P ops Q bar t) a w

def wpAnyE (P : Program) (ops : Array Oper) (Q : Exit → Act → World → Prop) (bar : List Nat) : Nat → Array Bool → Act → World → Prop
  | 0, listed, a, w => Region.ready .any ops listed = [] ∧ Q .normal a w
  | fuel + 1, listed, a, w =>
    (Region.ready .any ops listed = [] → Q .normal a w) ∧
    ∀ i ∈ Region.ready .any ops listed, wpOp P ops Q i (fun a' w' => Ext bar i w w' ∧ wpAnyE P ops Q bar fuel (listed.setIfInBounds i true) a' w') a w

theorem wpAny_of_E {bar : List Nat} : ∀ (fuel : Nat) (listed : Array Bool) (a : Act) (w : World), wpAnyE P ops Q bar fuel listed a w → wpAny P .any ops Q fuel listed a w
  | 0, _, _, _, h => h
  | fuel + 1, _, _, _, h => ⟨h.1, fun i hi => wpOp_mono (fun a' w' h' => wpAny_of_E fuel _ a' w' h'.2) (h.2 i hi)⟩

/-- What has come up has come up behind what it waits for. -/
def Closed (ops : Array Oper) (listed : Array Bool) : Prop :=
  ∀ j oj, ops[j]? = some oj → listed.getD j false = true → ∀ e ∈ oj.after, Region.binds .any e = true → listed.getD e.on false = true

theorem Closed.set {listed : Array Bool} (h : Closed ops listed) {i : Nat} (hi : i ∈ Region.ready .any ops listed) : Closed ops (listed.setIfInBounds i true) := by
  obtain ⟨_, oi, hoi, hall⟩ := mem_ready.1 hi
  intro j oj hj hl e he hb
  by_cases hij : i = j
  · subst hij
    have : oj = oi := Option.some.inj (hj.symm.trans hoi)
    subst this
    exact getD_set_true (hall e he hb)
  · rw [getD_set_ne false hij] at hl
    exact getD_set_true (h j oj hj hl e he hb)

theorem waits_listed {listed : Array Bool} (h : Closed ops listed) {i : Nat} : ∀ (n j : Nat), waits ops n j i = true → (∃ oj, ops[j]? = some oj ∧ ∀ e ∈ oj.after, Region.binds .any e = true → listed.getD e.on false = true) → listed.getD i false = true
  | 0, _, hw, _ => by simp [waits] at hw
  | n + 1, j, hw, ⟨oj, hoj, hall⟩ => by
    simp only [waits, hoj] at hw
    obtain ⟨e, he, hb⟩ := Array.any_eq_true'.1 hw
    simp only [Bool.and_eq_true, Bool.or_eq_true, beq_iff_eq] at hb
    have hl := hall e he hb.1
    rcases hb.2 with h1 | h1
    · rw [← h1]; exact hl
    · cases hoe : ops[e.on]? with
      | none => cases n <;> simp [waits, hoe] at h1
      | some oe => exact waits_listed h n e.on h1 ⟨oe, hoe, fun e' he' hb' => h e.on oe hoe hl e' he' hb'⟩

/-- An operation that may come up may be taken first. -/
theorem first {bar : List Nat} {i : Nat} {oi : Oper} {v : Value} (hi : ops[i]? = some oi) (hsel : ∀ (j : Nat) (o : Oper) cs b, ops[j]? = some o → o.op ≠ .select cs b)
    (hQ : ∀ c a w, Q (.panic c) (a.put oi.dst v) w → Q (.panic c) a w) :
    ∀ (fuel : Nat) (listed : Array Bool) (a : Act) (w : World),
      (∀ j oj, ops[j]? = some oj → j ≠ i → listed.getD j true = false → (∀ e ∈ oj.after, Region.binds .any e = true → e.on ≠ i) → oi.apart ops oj = true) →
      Closed ops listed → (∀ j, bar.contains j = true → listed.getD j true = false → j = i ∨ waits ops ops.size j i = true) →
      i ∈ Region.ready .any ops listed → YieldsIf P ops (Below w.heap.size w) oi v a →
      wpAnyE P ops Q bar fuel (listed.setIfInBounds i true) (a.put oi.dst v) w → wpAnyE P ops Q bar (fuel + 1) listed a w := by
  intro fuel
  induction fuel with
  | zero =>
    intro listed a w _ _ _ hr hy H
    refine ⟨fun h => (by rw [h] at hr; cases hr), fun j hj => ?_⟩
    by_cases hji : j = i
    · subst hji; exact hy.wpOp hi (Below.refl _ _) ⟨.inr (Below.refl _ _), H⟩
    · have := ready_mono hj hji
      rw [H.1] at this
      cases this
  | succ fuel ih =>
    intro listed a w hfree hcl hbar hr hy H
    refine ⟨fun h => (by rw [h] at hr; cases hr), fun j hj => ?_⟩
    by_cases hji : j = i
    · subst hji; exact hy.wpOp hi (Below.refl _ _) ⟨.inr (Below.refl _ _), H⟩
    · have h1 := H.2 j (ready_mono hj hji)
      obtain ⟨hjun, oj, hoj, hall⟩ := mem_ready.1 hj
      have hiun := (mem_ready.1 hr).1
      have hiunf : listed.getD i false = true → False := fun h1 => by
        rcases Nat.lt_or_ge i listed.size with h' | h'
        · simp [h'] at hiun h1; rw [hiun] at h1; cases h1
        · simp [Array.getElem?_eq_none h'] at h1
      have hnot : ∀ e ∈ oj.after, Region.binds .any e = true → e.on ≠ i := fun e he hb heq => by
        have h1 := hall e he hb
        rw [heq] at h1
        exact hiunf h1
      have hnb : bar.contains j = true → False := fun hb => by
        rcases hbar j hb hjun with h' | h'
        · exact hji h'
        · exact hiunf (waits_listed hcl _ j h' ⟨oj, hoj, hall⟩)
      have h2 := wpOp_putIf (S := Below w.heap.size w) hoj (hfree j oj hoj hji hjun hnot) (fun cs b => hsel i oi cs b hi) (fun cs b => hsel j oj cs b hoj) hQ hy h1
      have hfree' : ∀ k ok, ops[k]? = some ok → k ≠ i → (listed.setIfInBounds j true).getD k true = false →
          (∀ e ∈ ok.after, Region.binds .any e = true → e.on ≠ i) → oi.apart ops ok = true := fun k ok hk hki hun hno => by
        refine hfree k ok hk hki ?_ hno
        by_cases hjk : j = k
        · subst hjk; exact hjun
        · rw [getD_set_ne true hjk] at hun; exact hun
      have hbar' : ∀ k, bar.contains k = true → (listed.setIfInBounds j true).getD k true = false → k = i ∨ waits ops ops.size k i = true := fun k hk hun => by
        refine hbar k hk ?_
        by_cases hjk : j = k
        · subst hjk; exact hjun
        · rw [getD_set_ne true hjk] at hun; exact hun
      refine wpOp_mono (fun a' w' h3 => ?_) h2
      obtain ⟨hy', he, hA⟩ := h3
      have hb : Below w.heap.size w w' := he.resolve_left (fun h => hnb h)
      have hy2 : YieldsIf P ops (Below w'.heap.size w') oi v a' := by
        rcases hy' with ⟨h1, h2⟩ | h1
        · exact .inl ⟨h1, fun w2 hw2 => h2 w2 (hb.trans (hw2.mono hb.size))⟩
        · exact .inr h1
      refine ⟨.inr hb, ih (listed.setIfInBounds j true) a' w' hfree' (hcl.set hj) hbar' (ready_mono hr (Ne.symm hji)) hy2 ?_⟩
      rw [Array.setIfInBounds_comm _ _ hji]
      exact hA

theorem plan_sound {bar : List Nat} (hsel : Region.noSelect ops = true) (hQ : ∀ c a d v w, Q (.panic c) (Act.put a d v) w → Q (.panic c) a w) :
    ∀ (p : Plan) (fuel : Nat) (listed : Array Bool) (a : Act) (w : World), Closed ops listed → planOk ops bar p listed = true → listed.size ≤ listed.toList.count true + fuel → listed.size = ops.size →
      wpPlan P ops Q bar p a w → wpAnyE P ops Q bar fuel listed a w := by
  have cnt : ∀ (listed : Array Bool) (i fuel : Nat), i ∈ Region.ready .any ops listed → listed.size = ops.size → listed.size ≤ listed.toList.count true + fuel → ∃ f, fuel = f + 1 ∧ (listed.setIfInBounds i true).size ≤ (listed.setIfInBounds i true).toList.count true + f := by
    intro listed i fuel hi hs hf
    obtain ⟨hun, o, ho, _⟩ := mem_ready.1 hi
    have hlt : i < listed.size := by rw [hs]; exact (Array.getElem?_eq_some_iff.1 ho).1
    have hgi : listed.toList[i]'(by simpa using hlt) = false := by simpa [hlt] using hun
    have h1 : (listed.setIfInBounds i true).toList.count true = listed.toList.count true + 1 := by
      rw [Array.toList_setIfInBounds, List.count_set (by simpa using hlt)]
      simp at hgi
      simp [hgi]
    have h2 : listed.toList.count true < listed.size := by
      have hle := List.count_le_length (a := true) (l := listed.toList)
      rcases Nat.lt_or_ge (listed.toList.count true) listed.size with h | h
      · exact h
      · exfalso
        have heq : listed.toList.count true = listed.toList.length := Nat.le_antisymm hle (by simpa using h)
        have := List.count_eq_length.1 heq _ (List.getElem_mem (by simpa using hlt : i < listed.toList.length))
        rw [hgi] at this
        cases this
    obtain ⟨f, rfl⟩ : ∃ f, fuel = f + 1 := ⟨fuel - 1, by omega⟩
    exact ⟨f, rfl, by simp only [Array.size_setIfInBounds]; omega⟩
  have loud : ∀ (i : Nat) (r : Plan) (f : Nat) (listed : Array Bool) (a : Act) (w : World), (∀ a' w', wpPlan P ops Q bar r a' w' → wpAnyE P ops Q bar f (listed.setIfInBounds i true) a' w') → wpLoud P ops Q bar i (wpPlan P ops Q bar r) a w →
      wpOp P ops Q i (fun a' w' => Ext bar i w w' ∧ wpAnyE P ops Q bar f (listed.setIfInBounds i true) a' w') a w := fun i r f listed a w h hl => wpOp_mono (fun a' w' h' => ⟨h'.1, h a' w' h'.2⟩) hl
  intro p
  induction p with
  | done =>
    intro fuel listed a w _ hp _ _ h
    have hr : Region.ready .any ops listed = [] := by simpa [planOk] using hp
    cases fuel with
    | zero => exact ⟨hr, h⟩
    | succ f => exact ⟨fun _ => h, by rw [hr]; simp⟩
  | take i r ih =>
    intro fuel listed a w hcl hp hf hs h
    simp only [planOk, Bool.and_eq_true] at hp
    obtain ⟨⟨⟨hfr, hrd⟩, hb⟩, hp⟩ := hp
    have hrd' : i ∈ Region.ready .any ops listed := by simpa using hrd
    obtain ⟨f, rfl, hf'⟩ := cnt listed i fuel hrd' hs hf
    obtain ⟨v, hy, h⟩ := h
    cases ho : ops[i]? with
    | none => rw [ho] at hy; exact hy.elim
    | some oi =>
      rw [ho] at hy h
      refine first ho (Region.noSelect_spec hsel) (fun c a w => hQ c a _ _ w) f listed a w (Region.free_spec ho hfr) hcl (fun j hj hun => ?_) hrd' hy (ih f _ _ _ (hcl.set hrd') hp hf' (by simpa using hs) h)
      have := List.all_eq_true.1 hb j (by simpa using hj)
      rw [hun] at this
      simpa using this
  | one i r ih =>
    intro fuel listed a w hcl hp hf hs h
    simp only [planOk, Bool.and_eq_true, beq_iff_eq] at hp
    have hrd' : i ∈ Region.ready .any ops listed := by rw [hp.1]; simp
    obtain ⟨f, rfl, hf'⟩ := cnt listed i fuel hrd' hs hf
    refine ⟨fun h0 => absurd (hp.1 ▸ h0) (by simp), ?_⟩
    rw [hp.1]
    intro k hk
    obtain rfl : k = i := by simpa using hk
    exact loud k r f listed a w (fun a' w' => ih f _ a' w' (hcl.set hrd') hp.2 hf' (by simpa using hs)) h
  | two i r j s ih1 ih2 =>
    intro fuel listed a w hcl hp hf hs h
    simp only [planOk, Bool.and_eq_true, beq_iff_eq] at hp
    obtain ⟨⟨hr, hp1⟩, hp2⟩ := hp
    have hi : i ∈ Region.ready .any ops listed := by rw [hr]; simp
    have hj : j ∈ Region.ready .any ops listed := by rw [hr]; simp
    obtain ⟨f, rfl, hf1⟩ := cnt listed i fuel hi hs hf
    obtain ⟨f', hff, hf2⟩ := cnt listed j (f + 1) hj hs hf
    obtain rfl : f = f' := by omega
    refine ⟨fun h0 => absurd (hr ▸ h0) (by simp), ?_⟩
    rw [hr]
    intro k hk
    rcases (by simpa using hk : k = i ∨ k = j) with rfl | rfl
    · exact loud k r f listed a w (fun a' w' => ih1 f _ a' w' (hcl.set hi) hp1 hf1 (by simpa using hs)) h.1
    · exact loud k s f listed a w (fun a' w' => ih2 f _ a' w' (hcl.set hj) hp2 hf2 (by simpa using hs)) h.2
  | three i r j s k t ih1 ih2 ih3 =>
    intro fuel listed a w hcl hp hf hs h
    simp only [planOk, Bool.and_eq_true, beq_iff_eq] at hp
    obtain ⟨⟨⟨hr, hp1⟩, hp2⟩, hp3⟩ := hp
    have hi : i ∈ Region.ready .any ops listed := by rw [hr]; simp
    have hj : j ∈ Region.ready .any ops listed := by rw [hr]; simp
    have hk : k ∈ Region.ready .any ops listed := by rw [hr]; simp
    obtain ⟨f, rfl, hf1⟩ := cnt listed i fuel hi hs hf
    obtain ⟨f', hff, hf2⟩ := cnt listed j (f + 1) hj hs hf
    obtain rfl : f = f' := by omega
    obtain ⟨f', hff, hf3⟩ := cnt listed k (f + 1) hk hs hf
    obtain rfl : f = f' := by omega
    refine ⟨fun h0 => absurd (hr ▸ h0) (by simp), ?_⟩
    rw [hr]
    intro q hq
    rcases (by simpa using hq : q = i ∨ q = j ∨ q = k) with rfl | rfl | rfl
    · exact loud q r f listed a w (fun a' w' => ih1 f _ a' w' (hcl.set hi) hp1 hf1 (by simpa using hs)) h.1
    · exact loud q s f listed a w (fun a' w' => ih2 f _ a' w' (hcl.set hj) hp2 hf2 (by simpa using hs)) h.2.1
    · exact loud q t f listed a w (fun a' w' => ih3 f _ a' w' (hcl.set hk) hp3 hf3 (by simpa using hs)) h.2.2

/-- THE LAW: a region that draws its order, by a plan. -/
theorem region_plan {id : Nat} {a : Act} {w : World} (bar : List Nat) (p : Plan) (hm : P.follows .mixedOrders = true) (hsel : Region.noSelect ops = true) (hp : planOk ops bar p (Array.replicate ops.size false) = true)
    (hQ : ∀ c a d v w, Q (.panic c) (Act.put a d v) w → Q (.panic c) a w) (h : wpPlan P ops Q bar p a w.drew) : (Code.region id ops true).wp P Q a w :=
  wp_region_any hm (wpAny_of_E _ _ _ _ (plan_sound hsel hQ p _ _ _ _ (fun j oj _ hl => by
    exfalso
    rcases Nat.lt_or_ge j ops.size with h' | h'
    · simp [h'] at hl
    · simp [h'] at hl) hp (by simp) (by simp) h))

/-! ### The moves -/
theorem take_yes {bar : List Nat} {i : Nat} {r : Plan} {o : Oper} {a : Act} {w : World} (ho : ops[i]? = some o) (hw : Region.wanted o (yielded ops a.tmps) = true)
    (h : ∃ v, (∀ w', Below w.heap.size w w' → (execOp a.eval o).run P w' = .ok (.value v) w') ∧ wpPlan P ops Q bar r (a.put o.dst v) w) : wpPlan P ops Q bar (.take i r) a w :=
  let ⟨v, hy, h⟩ := h
  ⟨v, by rw [ho]; exact .inl ⟨hw, hy⟩, by rw [ho]; exact h⟩
theorem take_no {bar : List Nat} {i : Nat} {r : Plan} {o : Oper} {a : Act} {w : World} (ho : ops[i]? = some o) (hw : Region.wanted o (yielded ops a.tmps) = false)
    (h : wpPlan P ops Q bar r (a.put o.dst undef) w) : wpPlan P ops Q bar (.take i r) a w :=
  ⟨undef, by rw [ho]; exact .inr ⟨hw, rfl⟩, by rw [ho]; exact h⟩
theorem plan_done {bar : List Nat} {a : Act} {w : World} (h : Q .normal a w) : wpPlan P ops Q bar .done a w := h
theorem loud_yes {bar : List Nat} {i : Nat} {K : Act → World → Prop} {o : Oper} {a : Act} {w : World} (ho : ops[i]? = some o) (hw : Region.wanted o (yielded ops a.tmps) = true)
    (h : ∀ K' : Act → World → Prop, (∀ a' w', Ext bar i w w' → K a' w' → K' a' w') → o.wp P a w K' Q) : wpLoud P ops Q bar i K a w := by
  unfold wpLoud wpOp
  rw [ho]
  simp only [hw, if_true]
  exact .inl (h _ fun _ _ h1 h2 => ⟨h1, h2⟩)
theorem loud_no {bar : List Nat} {i : Nat} {K : Act → World → Prop} {o : Oper} {a : Act} {w : World} (ho : ops[i]? = some o) (hw : Region.wanted o (yielded ops a.tmps) = false)
    (h : K (a.put o.dst undef) w) : wpLoud P ops Q bar i K a w := by
  unfold wpLoud wpOp
  rw [ho]
  simp only [hw, Bool.false_eq_true, if_false]
  exact ⟨.inr (Below.refl _ _), h⟩

/-- append to a row of the call's own, in a plan. -/
theorem wp_append {o : Oper} {a : Act} {w : World} {K : Act → World → Prop} (base : Nat) (s x : Operand) (t e : TypeId) (z : Value) (size bytes : Nat)
    (ho : o.op = .call { callee := .builtin .append, args := #[s, x], argTypes := #[t, t] }) (ht : P.underlying t = some (.slice e))
    (hinfo : (P.info? e).map (fun i => (i.zero, i.size, i.bytes)) = some (some z, size, bytes)) (hzs : z.cells.size = size) (hsz : 0 < size)
    (v : Value) (n : Nat) (xs : List Value) (hs : a.eval s = v) (hown : w.ownsRow base e size v n xs)
    (ad : Addr) (m c : Nat) (news : List Value) (hx : a.eval x = .slice (some ad) m c) (hl : news.length = m * size) (hnews : ∀ j u, news[j]? = some u → w.cell? (ad.add j) = some u) (h1 : ∀ u ∈ news, u.oneCell' = true)
    (h63 : n + m ≤ maxLen) (hbytes : (n + m) * bytes ≤ 140737488355328) (hbase : base ≤ w.heap.size)
    (h : ∀ v' w', w'.ownsRow base e size v' (n + m) (xs ++ news) → w.grownBy w' v.ownBlock → (v'.ownBlock = v.ownBlock ∨ v'.ownBlock = some w.heap.size) → K (a.put o.dst v') w') : o.wp P a w K Q := by
  obtain ⟨i0, hi, hzz⟩ := Option.map_eq_some_iff.1 hinfo
  simp only [Prod.mk.injEq] at hzz
  obtain ⟨hz0, hz1, hz2⟩ := hzz
  obtain ⟨v1, w1, hr, h2, h3, _, h5⟩ := run_append_own_at (P := P) w base t o.type e i0 z size bytes ht hi hz0 hz1 hz2 hzs hsz v n xs hown ad m c news hl hnews h1 h63 hbytes hbase
  unfold Oper.wp execOp
  simp only [ho, resolve, invoke, builtin, Sem.run_bind, Sem.run_pure, Result.andThen_ok, List.map_toArray, List.map_cons, List.map_nil, hs, hx, hr]
  exact h v1 w1 h2 h3 h5
/-- A row of the call's own, behind what turns nothing. -/
theorem own_below {w w1 : World} {base : Nat} {e : TypeId} {size : Nat} {v : Value} {n : Nat} {xs : List Value} (h : w.ownsRow base e size v n xs) (hb : Below w.heap.size w w1) : w1.ownsRow base e size v n xs :=
  h.kept (row := none) ⟨hb.os, hb.tape, hb.output, hb.size, fun i hi _ => hb.block i hi⟩ (by cases v.ownBlock <;> simp)
theorem own_base {w : World} {base : Nat} {e : TypeId} {size n : Nat} {v : Value} {xs : List Value} (h : w.ownsRow base e size v n xs) (k : Nat) (hk : v.ownBlock = some k) : base ≤ k := by
  rcases h.2 with ⟨rfl, _⟩ | ⟨g, cap, cur, rfl, hb, _⟩
  · simp [Value.ownBlock] at hk
  · have : g = k := by simpa [Value.ownBlock] using hk
    omega
theorem own_cap {w : World} {base : Nat} {e : TypeId} {size n cap : Nat} {A : Option Addr} {xs : List Value} (h : w.ownsRow base e size (.slice A n cap) n xs) : n ≤ cap := by
  rcases h.2 with ⟨h1, h2⟩ | ⟨g, c, cur, hv, _, _, hc, _⟩
  · omega
  · injection hv with _ _ h3
    omega
theorem add_plain (g o j : Nat) : (⟨g, o, none⟩ : Addr).add j = ⟨g, o + j, none⟩ := by unfold Addr.add; split <;> simp_all
end
end Go.Plan
