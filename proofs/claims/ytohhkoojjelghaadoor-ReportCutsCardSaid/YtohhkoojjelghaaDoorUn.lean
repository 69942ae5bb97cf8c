/- A region that draws its order, each operation of which only makes memory: what holds of each result holds whatever order is drawn. Over any program. -/
import Derived.Test.YtohhkoojjelghaaDoorRg
set_option linter.unusedVariables false
set_option linter.unusedSimpArgs false
namespace Go.Plan
open Go.RowKit

section
variable {P : Program} {ops : Array Oper} {Q : Exit → Act → World → Prop}

def dstOf (ops : Array Oper) (i : Nat) : Option Tmp := (ops[i]?).bind (·.dst)
/-- The slots that no operation of the region writes are as they were. -/
structure FrameOf (ops : Array Oper) (a a' : Act) : Prop where
  defers : a'.defers = a.defers
  size : a'.tmps.size = a.tmps.size
  slot : ∀ t, (∀ i, i < ops.size → dstOf ops i ≠ some t) → a'.tmps[t]? = a.tmps[t]?

theorem cnt (listed : Array Bool) (i fuel : Nat) (hi : i ∈ Region.ready .any ops listed) (hs : listed.size = ops.size) (hf : listed.size ≤ listed.toList.count true + fuel) :
    ∃ f, fuel = f + 1 ∧ (listed.setIfInBounds i true).size ≤ (listed.setIfInBounds i true).toList.count true + f := by
  obtain ⟨hun, o, ho, _⟩ := mem_ready.1 hi
  have hlt : i < listed.size := by rw [hs]; exact (Array.getElem?_eq_some_iff.1 ho).1
  have hgi : listed.toList[i]'(by simpa using hlt) = false := by simpa [hlt] using hun
  have h1 : (listed.setIfInBounds i true).toList.count true = listed.toList.count true + 1 := by
    rw [Array.toList_setIfInBounds, List.count_set (by simpa using hlt)]
    simp at hgi
    simp [hgi]
  have h2 : listed.toList.count true < listed.size := by
    have hle := List.count_le_length (a := true) (l := listed.toList)
    rcases Nat.lt_or_ge (listed.toList.count true) listed.size with h | h
    · exact h
    · exfalso
      have heq : listed.toList.count true = listed.toList.length := Nat.le_antisymm hle (by simpa using h)
      have := List.count_eq_length.1 heq _ (List.getElem_mem (by simpa using hlt : i < listed.toList.length))
      rw [hgi] at this
      cases this
  obtain ⟨f, rfl⟩ : ∃ f, fuel = f + 1 := ⟨fuel - 1, by omega⟩
  exact ⟨f, rfl, by simp only [Array.size_setIfInBounds]; omega⟩

/-- All destinations part; all lie in the frame; what is waited for stands ahead; the last one (number n, if there is one) waits for all others. -/
def uniOk (ops : Array Oper) (n len : Nat) : Bool :=
  ((List.range n).all fun i => (List.range n).all fun j => i == j || dstOf ops i == none || dstOf ops i != dstOf ops j) &&
  ((List.range n).all fun i => match dstOf ops i with | some t => decide (t < len) | none => true) &&
  (n == ops.size || (n + 1 == ops.size && (List.range n).all fun i => match ops[n]? with | some o => o.after.any (fun e => Region.binds .any e && e.on == i) | none => false)) &&
  ((List.range ops.size).all fun i => match ops[i]? with | some o => o.after.all (fun e => !Region.binds .any e || decide (e.on < i)) | none => true)

theorem getD_true_of {listed : Array Bool} {i : Nat} (hi : i < listed.size) (h : listed.getD i false = false) : listed.getD i true = false := by
  simp [hi] at h ⊢; exact h

theorem region_uniform {id : Nat} {a : Act} {w : World} (n : Nat) (F : Nat → World → Value → Prop) (hm : P.follows .mixedOrders = true) (hok : uniOk ops n a.tmps.size = true)
    (hmono : ∀ i w w' v, F i w v → Below w.heap.size w w' → F i w' v)
    (hstep : ∀ i o, i < n → ops[i]? = some o → ∀ a' w', Below w.heap.size w w' → FrameOf ops a a' →
      (∀ j, j < n → (o.after.any fun e => Region.binds .any e && e.on == j) = true → ∀ t, dstOf ops j = some t → F j w' (a'.tmps.getD t undef)) →
      wpOp P ops Q i (fun a'' w'' => Below w'.heap.size w' w'' ∧ ∃ v, a'' = a'.put o.dst v ∧ F i w'' v) a' w')
    (hend : ∀ a' w', Below w.heap.size w w' → FrameOf ops a a' → (∀ j, j < n → ∀ t, dstOf ops j = some t → F j w' (a'.tmps.getD t undef)) →
      if n < ops.size then wpOp P ops Q n (fun a w => Q .normal a w) a' w' else Q .normal a' w') :
    (Code.region id ops true).wp P Q a w := by
  simp only [uniOk, Bool.and_eq_true, Bool.or_eq_true] at hok
  obtain ⟨⟨⟨h1, h2⟩, h3⟩, h4⟩ := hok
  have hap : ∀ i j t, i < n → j < n → dstOf ops i = some t → dstOf ops j = some t → i = j := fun i j t hi hj hdi hdj => by
    have := List.all_eq_true.1 (List.all_eq_true.1 h1 i (by simpa using hi)) j (by simpa using hj)
    simp [hdi, hdj] at this
    exact this
  have hlen : ∀ i t, i < n → dstOf ops i = some t → t < a.tmps.size := fun i t hi hd => by
    have := List.all_eq_true.1 h2 i (by simpa using hi)
    rw [hd] at this
    simpa using this
  have hnle : n = ops.size ∨ n + 1 = ops.size := by
    rcases h3 with h3 | h3
    · exact .inl (by simpa using h3)
    · exact .inr (by simpa using h3.1)
  have hback : ∀ i o, ops[i]? = some o → ∀ e ∈ o.after, Region.binds .any e = true → e.on < i := fun i o ho e he hb => by
    have := List.all_eq_true.1 h4 i (by simpa using (Array.getElem?_eq_some_iff.1 ho).1)
    rw [ho] at this
    have := Array.all_eq_true_iff_forall_mem.1 this e he
    simpa [hb] using this
  -- whoever waits for nobody may come up
  have hready : ∀ (listed : Array Bool), listed.size = ops.size → Region.ready .any ops listed = [] → ∀ i, i < ops.size → listed.getD i false = true := by
    intro listed hs hr i
    induction i using Nat.strongRecOn with
    | _ i ih =>
      intro hi
      cases hl : listed.getD i false with
      | true => rfl
      | false =>
        exfalso
        have hm : i ∈ Region.ready .any ops listed := mem_ready.2 ⟨getD_true_of (by omega) hl, ops[i], by simp [hi], fun e he hb => by
          have := hback i ops[i] (by simp [hi]) e he hb
          exact ih e.on this (by omega)⟩
        rw [hr] at hm
        cases hm
  have hdone : ∀ (fuel : Nat) (listed : Array Bool) (a' : Act) (w' : World), (∀ i, i < ops.size → listed.getD i false = true) → listed.size = ops.size → Q .normal a' w' → wpAny P .any ops Q fuel listed a' w' := by
    intro fuel listed a' w' hall hs hq
    have hr : Region.ready .any ops listed = [] := by
      cases hr : Region.ready .any ops listed with
      | nil => rfl
      | cons x xs =>
        exfalso
        have hx : x ∈ Region.ready .any ops listed := by rw [hr]; simp
        obtain ⟨hun, o, ho, _⟩ := mem_ready.1 hx
        have hlt := (Array.getElem?_eq_some_iff.1 ho).1
        have := hall x hlt
        simp [show x < listed.size by omega] at this hun
        rw [this] at hun
        cases hun
    cases fuel with
    | zero => exact ⟨hr, hq⟩
    | succ f => exact ⟨fun _ => hq, by rw [hr]; simp⟩
  -- the invariant
  have key : ∀ (fuel : Nat) (listed : Array Bool) (a' : Act) (w' : World), listed.size = ops.size → listed.size ≤ listed.toList.count true + fuel →
      (∀ i, listed.getD i false = true → i < n) → Below w.heap.size w w' → FrameOf ops a a' →
      (∀ i, listed.getD i false = true → ∀ t, dstOf ops i = some t → F i w' (a'.tmps.getD t undef)) → wpAny P .any ops Q fuel listed a' w' := by
    intro fuel
    induction fuel with
    | zero =>
      intro listed a' w' hs hf hn hb hfr hF
      have hnil : Region.ready .any ops listed = [] := by
        cases hr : Region.ready .any ops listed with
        | nil => rfl
        | cons x xs =>
          obtain ⟨f, hf', _⟩ := cnt listed x 0 (by rw [hr]; simp) hs hf
          omega
      have hall := hready listed hs hnil
      have hns : n = ops.size := by
        rcases hnle with h | h
        · exact h
        · have := hn n (hall n (by omega)); omega
      have := hend a' w' hb hfr fun j hj t ht => hF j (hall j (by omega)) t ht
      rw [if_neg (by omega)] at this
      exact ⟨hnil, this⟩
    | succ fuel ih =>
      intro listed a' w' hs hf hn hb hfr hF
      refine ⟨fun hnil => ?_, fun i hi => ?_⟩
      · have hall := hready listed hs hnil
        have hns : n = ops.size := by
          rcases hnle with h | h
          · exact h
          · have := hn n (hall n (by omega)); omega
        have := hend a' w' hb hfr fun j hj t ht => hF j (hall j (by omega)) t ht
        rwa [if_neg (by omega)] at this
      · obtain ⟨f, hff, hf'⟩ := cnt listed i (fuel + 1) hi hs hf
        obtain rfl : fuel = f := by omega
        obtain ⟨hun, o, ho, hdep⟩ := mem_ready.1 hi
        have hilt := (Array.getElem?_eq_some_iff.1 ho).1
        by_cases hin : i < n
        · refine wpOp_mono (fun a'' w'' hh => ?_) (hstep i o hin ho a' w' hb hfr fun j hj hw t ht => ?_)
          · obtain ⟨hb', v, rfl, hv⟩ := hh
            refine ih (listed.setIfInBounds i true) _ w'' (by simpa using hs) hf' (fun k hk => ?_) (hb.trans (hb'.mono hb.size)) ⟨?_, ?_, ?_⟩ (fun k hk t ht => ?_)
            · by_cases hik : i = k
              · omega
              · rw [getD_set_ne false hik] at hk; exact hn k hk
            · cases hd : o.dst <;> simp [Act.put, hd, hfr.defers]
            · cases hd : o.dst <;> simp [Act.put, hd, hfr.size]
            · intro t ht
              have hne : o.dst ≠ some t := by simpa [dstOf, ho] using ht i hilt
              cases hd : o.dst with
              | none => simpa [Act.put] using hfr.slot t ht
              | some d =>
                have : d ≠ t := fun e => hne (by rw [hd, e])
                simp [Act.put, Array.getElem?_setIfInBounds_ne this, hfr.slot t ht]
            · by_cases hik : i = k
              · subst hik
                have hd : o.dst = some t := by simpa [dstOf, ho] using ht
                have := hlen i t hin ht
                simp only [Act.put, hd]
                rw [Array.getD_eq_getD_getElem?, Array.getElem?_setIfInBounds_self_of_lt (by rw [hfr.size]; exact this)]
                exact hv
              · rw [getD_set_ne false hik] at hk
                have hkn := hn k hk
                refine hmono k w' w'' _ ?_ hb'
                have hFk := hF k hk t ht
                cases hd : o.dst with
                | none => simpa [Act.put] using hFk
                | some d =>
                  have : d ≠ t := fun e => hik (hap i k t hin hkn (by simp [dstOf, ho, hd, e]) ht)
                  simp only [Act.put]
                  rw [Array.getD_eq_getD_getElem?, Array.getElem?_setIfInBounds_ne this, ← Array.getD_eq_getD_getElem?]
                  exact hFk
          · obtain ⟨e, he, hbe⟩ := Array.any_eq_true'.1 hw
            simp only [Bool.and_eq_true, beq_iff_eq] at hbe
            exact hF j (by rw [← hbe.2]; exact hdep e he hbe.1) t ht
        · have hns : n < ops.size := by omega
          obtain rfl : i = n := by rcases hnle with h | h <;> omega
          have hall : ∀ j, j < i → listed.getD j false = true := fun j hj => by
            rcases h3 with h3 | h3
            · have : i = ops.size := by simpa using h3
              omega
            · have := List.all_eq_true.1 h3.2 j (by simpa using hj)
              rw [ho] at this
              obtain ⟨e, he, hbe⟩ := Array.any_eq_true'.1 this
              simp only [Bool.and_eq_true, beq_iff_eq] at hbe
              rw [← hbe.2]
              exact hdep e he hbe.1
          have he := hend a' w' hb hfr fun j hj t ht => hF j (hall j hj) t ht
          rw [if_pos hns] at he
          refine wpOp_mono (fun a'' w'' hq => hdone fuel _ a'' w'' (fun j hj => ?_) (by simpa using hs) hq) he
          by_cases hij : i = j
          · subst hij; simp [show i < listed.size by omega]
          · exact getD_set_true (hall j (by rcases hnle with h | h <;> omega))
  refine wp_region_any hm (key _ _ _ _ (by simp) (by simp) (fun i hi => ?_) ⟨rfl, rfl, rfl, Nat.le_refl _, fun _ _ => rfl⟩ ⟨rfl, rfl, fun _ _ => rfl⟩ (fun i hi => ?_))
  all_goals
    exfalso
    rcases Nat.lt_or_ge i ops.size with h' | h'
    · simp [h'] at hi
    · simp [h'] at hi
/-- The whole of an act behind a region: the slots not in ws are as they were. -/
theorem FrameOf.act {a a' : Act} (h : FrameOf ops a a') (ws : List Nat) (hws : ((List.range a.tmps.size).all fun t => ws.contains t || (List.range ops.size).all fun i => dstOf ops i != some t) = true) :
    a' = ⟨((List.range a.tmps.size).map fun i => if ws.contains i then a'.tmps.getD i undef else a.tmps.getD i undef).toArray, a.defers⟩ := by
  obtain ⟨tm, df⟩ := a'
  obtain rfl : df = _ := h.defers
  congr 1
  have hsz : tm.size = a.tmps.size := h.size
  refine Array.ext (by simpa using hsz) fun i h1 h2 => ?_
  simp only [List.getElem_toArray, List.getElem_map, List.getElem_range]
  split
  · simp [h1]
  · rename_i hc
    have hall := List.all_eq_true.1 hws i (by simpa using (by omega : i < a.tmps.size))
    simp only [Bool.or_eq_true, hc, false_or] at hall
    have hs : tm[i]? = a.tmps[i]? := h.slot i fun j hj => by
      have := List.all_eq_true.1 (hall.resolve_left (by simp)) j (by simpa using hj)
      simpa using this
    rw [Array.getD_eq_getD_getElem?, ← hs]
    simp [h1]
end
end Go.Plan
