/- A text of reports that is cut off: the plain law behind ReportCuts. -/
import Derived.Test.YtohhkoojjelghaaDoorN
set_option linter.unusedSimpArgs false
set_option linter.unusedVariables false
namespace Go.Proofs.YtohhkoojjelghaaDoor
open Go.RowKit Go.Plan Go.Sort

theorem cut_parts : ∀ (l : List Rep) (n : Nat), n ≤ (putB l).length → ∃ k t, k ≤ l.length ∧ (putB l).take n = putB (l.take k) ++ t ∧ (10 : UInt8) ∉ t
  | [], n, h => ⟨0, [], by simp, by simp [putB], by simp⟩
  | r :: l, n, h => by
    rcases Nat.lt_or_ge n (lineB r).length with hn | hn
    · refine ⟨0, (lineB r).take n, by simp, ?_, ?_⟩
      · rw [put_cons, List.take_append_of_le_length (by omega)]; simp [putB]
      · intro h10
        have e : (lineB r).take n = (lineS r).data.toList.take n := by
          unfold lineB at hn ⊢
          rw [List.length_append, List.length_singleton] at hn
          rw [List.take_append_of_le_length (by omega)]
        rw [e] at h10
        exact line_no10 r (List.mem_of_mem_take h10)
    · obtain ⟨k, t, hk, ht, h10⟩ := cut_parts l (n - (lineB r).length) (by rw [put_cons, List.length_append] at h; omega)
      refine ⟨k + 1, t, by simp; omega, ?_, h10⟩
      rw [put_cons, List.take_append, List.take_of_length_le hn, ht, List.take_succ_cons, put_cons, List.append_assoc]
theorem put_last {m : List Rep} (h : m ≠ []) : ∃ u, putB m = u ++ [10] := by
  obtain ⟨m', r, rfl⟩ : ∃ m' r, m = m' ++ [r] := ⟨_, _, (List.dropLast_concat_getLast h).symm⟩
  exact ⟨putB m' ++ (lineS r).data.toList, by rw [put_app]; simp [putB, lineB]⟩
theorem put_last? {m : List Rep} (h : 0 < (putB m).length) : (putB m)[(putB m).length - 1]? = some 10 := by
  have hm : m ≠ [] := by intro e; subst e; simp [putB] at h
  obtain ⟨u, hu⟩ := put_last hm
  rw [hu]; simp
theorem got_cut {l : List Rep} (hm : mayL l = true) {k : Nat} {s t : List UInt8} (hs : s = putB (l.take k) ++ t) (h10 : (10 : UInt8) ∉ t) : GotL s (l.take k) (decide (t = [])) := by
  refine ⟨may_pre (k := l.drop k) (by rw [List.take_append_drop]; exact hm), ?_⟩
  by_cases ht : t = []
  · subst ht; simp [hs]
  · simp only [ht, decide_false, Bool.false_eq_true, if_false]
    exact ⟨t, ht, hs, fun r _ hp => h10 (hp.subset (by simp [lineB]))⟩
theorem take_at {L : List UInt8} {n i : Nat} (h : i < n) : (L.take n)[i]? = L[i]? := List.getElem?_take_of_lt h
/-- Where a text is cut: behind a line; or in a line. -/
theorem cut_cases (l : List Rep) (hm : mayL l = true) (n : Nat) (hn : n ≤ (putB l).length) :
    ∃ k, k ≤ l.length ∧ ((GotL ((putB l).take n) (l.take k) true ∧ (n = 0 ∨ (0 < n ∧ (putB l)[n - 1]? = some 10))) ∨
      (GotL ((putB l).take n) (l.take k) false ∧ 0 < n ∧ (∃ c, (putB l)[n - 1]? = some c ∧ c ≠ 10) ∧ (putB (l.take k)).length < n ∧ (0 < (putB (l.take k)).length → (putB l)[(putB (l.take k)).length - 1]? = some 10))) := by
  obtain ⟨k, t, hk, ht, h10⟩ := cut_parts l n hn
  have hg := got_cut hm ht h10
  have hlen : n = (putB (l.take k)).length + t.length := by
    have := congrArg List.length ht
    rw [List.length_take, List.length_append] at this
    omega
  have hat : 0 < (putB (l.take k)).length → (putB l)[(putB (l.take k)).length - 1]? = some 10 := fun h => by
    rw [← take_at (n := n) (by omega), ht, List.getElem?_append_left (by omega)]
    exact put_last? h
  refine ⟨k, hk, ?_⟩
  by_cases h : t = []
  · left
    subst h
    refine ⟨by simpa using hg, ?_⟩
    simp only [List.length_nil, Nat.add_zero] at hlen
    rcases Nat.eq_zero_or_pos n with h0 | h0
    · exact .inl h0
    · exact .inr ⟨h0, by have := hat (by omega); rwa [← hlen] at this⟩
  · right
    have htl : 0 < t.length := List.length_pos_iff.2 h
    refine ⟨by simpa [h] using hg, by omega, ⟨t[t.length - 1], ?_, fun e => h10 (e ▸ List.getElem_mem _)⟩, by omega, hat⟩
    rw [← take_at (n := n) (by omega), ht, List.getElem?_append_right (by omega)]
    rw [show n - 1 - (putB (l.take k)).length = t.length - 1 by omega]
    exact List.getElem?_eq_getElem _
theorem got_more {l : List Rep} (hm : mayL l = true) {t : List UInt8} (ht : t ≠ []) (h10 : (10 : UInt8) ∉ t) : GotL (putB l ++ t) l false := by
  have h := got_cut hm (k := l.length) (s := putB l ++ t) (by rw [List.take_length]) h10
  rw [List.take_length] at h
  simpa [ht] using h
theorem got_put {l : List Rep} (hm : mayL l = true) : GotL (putB l) l true := ⟨hm, by simp⟩
theorem at_of {L : List UInt8} {t : ByteArray} (h : (⟨L.toArray⟩ : ByteArray) = t) {i : Nat} {c : UInt8} (hi : L[i]? = some c) (hlt : i < t.size) : t[i]'hlt = c := by
  subst h
  obtain ⟨h1, h2⟩ := List.getElem?_eq_some_iff.1 hi
  rw [← h2]; rfl
end Go.Proofs.YtohhkoojjelghaaDoor
