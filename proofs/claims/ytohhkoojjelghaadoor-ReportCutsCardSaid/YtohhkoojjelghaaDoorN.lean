/- What of a text is answered is one: the plain law behind ReportGets and ReportCuts. -/
import Derived.Test.YtohhkoojjelghaaDoorM
set_option linter.unusedSimpArgs false
set_option linter.unusedVariables false
namespace Go.Proofs.YtohhkoojjelghaaDoor
open Go.RowKit Go.Plan Go.Sort

theorem good_app (l k : List Rep) (j : Nat) (hj : j < l.length) : good (l ++ k) j = good l j := by
  have h1 : (l ++ k).getD j Rep.zero = l.getD j Rep.zero := by simp [List.getD, List.getElem?_append_left hj]
  have h2 : (l ++ k).getD (j - 1) Rep.zero = l.getD (j - 1) Rep.zero := by simp [List.getD, List.getElem?_append_left (show j - 1 < l.length by omega)]
  unfold good
  rw [h1, h2]
theorem may_good {l : List Rep} (h : mayL l = true) (j : Nat) (hj : j < l.length) : good l j = true := by
  unfold mayL at h
  exact List.all_eq_true.1 h j (by simpa using hj)
theorem may_pre {l k : List Rep} (h : mayL (l ++ k) = true) : mayL l = true :=
  mayL_yes fun j hj => by rw [← good_app l k j hj]; exact may_good h j (by simp; omega)
theorem may_pre1 {l k : List Rep} {r : Rep} (h : mayL (l ++ r :: k) = true) : mayL (l ++ [r]) = true :=
  may_pre (k := k) (by simpa using h)
theorem may_oks {l : List Rep} (h : mayL l = true) : ∀ r ∈ l, r.ok = true := fun r hr => by
  obtain ⟨i, hi, rfl⟩ := List.getElem_of_mem hr
  exact mayL_ok h i hi
theorem line_ne (r : Rep) : lineB r ≠ [] := by simp [lineB]
theorem put_cons (r : Rep) (l : List Rep) : putB (r :: l) = lineB r ++ putB l := by simp [putB]
theorem put_app (l k : List Rep) : putB (l ++ k) = putB l ++ putB k := by simp [putB]
theorem put_nil {l : List Rep} (h : putB l = []) : l = [] := by
  cases l with
  | nil => rfl
  | cons r l => rw [put_cons] at h; simp [lineB] at h
theorem line_eq {r r' : Rep} {x y : List UInt8} (h : r.ok = true) (h' : r'.ok = true) (he : lineB r ++ x = lineB r' ++ y) : r = r' ∧ x = y := by
  have hp : lineB r <+: (lineS r').data.toList ++ 10 :: y := ⟨x, by rw [he]; simp [lineB]⟩
  have h1 := line_pre (line_no10 r') hp
  have hr : r = r' := line_inj (ok_small h).fit (ok_small h').fit (h1.trans (ba_ext rfl))
  subst hr
  exact ⟨rfl, List.append_cancel_left he⟩
theorem two_ways : ∀ (l m : List Rep) (t u : List UInt8), (∀ r ∈ l, r.ok = true) → (∀ r ∈ m, r.ok = true) → putB l ++ t = putB m ++ u →
    (∃ k, m = l ++ k ∧ t = putB k ++ u) ∨ (∃ k, l = m ++ k ∧ u = putB k ++ t)
  | [], m, t, u, _, _, h => .inl ⟨m, rfl, by simpa [putB] using h⟩
  | r :: l, [], t, u, _, _, h => .inr ⟨r :: l, rfl, by simpa [putB] using h.symm⟩
  | r :: l, q :: m, t, u, hl, hm, h => by
    rw [put_cons, put_cons, List.append_assoc, List.append_assoc] at h
    obtain ⟨rfl, hh⟩ := line_eq (hl r (by simp)) (hm q (by simp)) h
    rcases two_ways l m t u (fun x hx => hl x (by simp [hx])) (fun x hx => hm x (by simp [hx])) hh with ⟨k, rfl, hk⟩ | ⟨k, rfl, hk⟩
    · exact .inl ⟨k, rfl, hk⟩
    · exact .inr ⟨k, rfl, hk⟩

/-- A text's reports; whether all of it is theirs. -/
def GotL (s : List UInt8) (l : List Rep) (ok : Bool) : Prop := mayL l = true ∧
  (if ok then putB l = s else ∃ t, t ≠ [] ∧ s = putB l ++ t ∧ ∀ r, mayL (l ++ [r]) = true → ¬ lineB r <+: t)
theorem GotL.one {s : List UInt8} {l m : List Rep} {a b : Bool} (h : GotL s l a) (h' : GotL s m b) : l = m ∧ a = b := by
  obtain ⟨hl, h1⟩ := h
  obtain ⟨hm, h2⟩ := h'
  have step : ∀ {l m : List Rep} {t u : List UInt8}, mayL (l ++ m) = true → m ≠ [] → t = putB m ++ u → (∀ r, mayL (l ++ [r]) = true → ¬ lineB r <+: t) → False := by
    intro l m t u h hne ht hn
    cases m with
    | nil => exact hne rfl
    | cons r m => exact hn r (may_pre1 h) ⟨putB m ++ u, by rw [ht, put_cons]; simp⟩
  cases a <;> cases b <;> simp only [Bool.false_eq_true, if_false, if_true] at h1 h2
  · obtain ⟨t, ht, hs, hn⟩ := h1
    obtain ⟨u, hu, hs', hn'⟩ := h2
    rcases two_ways l m t u (may_oks hl) (may_oks hm) (hs.symm.trans hs') with ⟨k, rfl, hk⟩ | ⟨k, rfl, hk⟩
    · by_cases hk0 : k = []
      · simp [hk0]
      · exact (step hm hk0 hk hn).elim
    · by_cases hk0 : k = []
      · simp [hk0]
      · exact (step hl hk0 hk hn').elim
  · obtain ⟨t, ht, hs, hn⟩ := h1
    rcases two_ways l m t [] (may_oks hl) (may_oks hm) (by rw [← hs, ← h2]; simp) with ⟨k, rfl, hk⟩ | ⟨k, rfl, hk⟩
    · by_cases hk0 : k = []
      · subst hk0; simp [putB] at hk; exact absurd hk ht
      · exact (step hm hk0 hk hn).elim
    · have := hk.symm
      simp at this
      exact absurd this.2 ht
  · obtain ⟨t, ht, hs, hn⟩ := h2
    rcases two_ways m l t [] (may_oks hm) (may_oks hl) (by rw [← hs, ← h1]; simp) with ⟨k, rfl, hk⟩ | ⟨k, rfl, hk⟩
    · by_cases hk0 : k = []
      · subst hk0; simp [putB] at hk; exact absurd hk ht
      · exact (step hl hk0 hk hn).elim
    · have := hk.symm
      simp at this
      exact absurd this.2 ht
  · rcases two_ways l m [] [] (may_oks hl) (may_oks hm) (by rw [h1, h2]) with ⟨k, rfl, hk⟩ | ⟨k, rfl, hk⟩
    · have : k = [] := put_nil (by simpa using hk.symm)
      simp [this]
    · have : k = [] := put_nil (by simpa using hk.symm)
      simp [this]

/-- What a reading of a text answers. -/
def GotE (l : List Rep) (ok : Bool) (e : Ending) (w : World) : Prop :=
  if ok then ∃ A c, e = .returned (.tuple #[.slice A l.length c, .int .i64 0, .int .i64 0]) ∧ Reads w A l
  else e = .returned (.tuple #[.slice none 0 0, .int .i64 (putB l).length, .int .i64 8])
theorem Got.parts {s : List UInt8} {e : Ending} {w : World} (h : Got s e w) : ∃ l ok, GotL s l ok ∧ l.length ≤ s.length ∧ GotE l ok e w := by
  obtain ⟨l, hm, hl, h⟩ := h
  rcases h with ⟨hp, he⟩ | ⟨ht, he⟩
  · exact ⟨l, true, ⟨hm, by simpa using hp⟩, hl, by simpa [GotE] using he⟩
  · exact ⟨l, false, ⟨hm, by simpa using ht⟩, hl, by simpa [GotE] using he⟩
/-- A reading of a text whose answer is known. -/
theorem Get_is (s : ByteArray) (w : World) (hs : s.size ≤ 1000000) (he : Env w) (l : List Rep) (ok : Bool) (h : GotL s.data.toList l ok) :
    Calls Tryd.prog 7 #[.string s] w fun e w' => GotE l ok e w' ∧ Below w.heap.size w w' :=
  (Get_any s w hs he).mono fun e w' ⟨hg, hb⟩ => by
    obtain ⟨m, b, hm, _, hE⟩ := hg.parts
    obtain ⟨rfl, rfl⟩ := h.one hm
    exact ⟨hE, hb⟩
theorem rGet_is (s : ByteArray) (w : World) (hs : s.size ≤ 1000000) (l : List Rep) (ok : Bool) (h : GotL s.data.toList l ok) :
    Calls Tryd.prog 8 #[.string s] w fun e w' => GotE l ok e w' ∧ Below w.heap.size w w' :=
  (rGet_any s w hs).mono fun e w' ⟨hg, hb⟩ => by
    obtain ⟨m, b, hm, _, hE⟩ := hg.parts
    obtain ⟨rfl, rfl⟩ := h.one hm
    exact ⟨hE, hb⟩
/-- Every text has its answer. -/
theorem got_all (s : List UInt8) : ∃ l ok, GotL s l ok := by
  have key : ∀ (n : Nat) (l : List Rep) (t : List UInt8), t.length ≤ n → mayL l = true → s = putB l ++ t → ∃ l ok, GotL s l ok := by
    intro n
    induction n with
    | zero =>
      intro l t ht hm hs
      have : t = [] := List.eq_nil_of_length_eq_zero (by omega)
      exact ⟨l, true, hm, by subst this; simpa using hs.symm⟩
    | succ n ih =>
      intro l t ht hm hs
      by_cases h0 : t = []
      · exact ⟨l, true, hm, by subst h0; simpa using hs.symm⟩
      · by_cases hr : ∃ r, mayL (l ++ [r]) = true ∧ lineB r <+: t
        · obtain ⟨r, h1, u, h2⟩ := hr
          refine ih (l ++ [r]) u ?_ h1 ?_
          · have := congrArg List.length h2
            simp [lineB] at this
            omega
          · rw [hs, ← h2, put_app]; simp [putB]
        · exact ⟨l, false, hm, by simp only [Bool.false_eq_true, if_false]; exact ⟨t, h0, hs, fun r h1 h2 => hr ⟨r, h1, h2⟩⟩⟩
  exact key s.length [] s (Nat.le_refl _) rfl (by simp [putB])

end Go.Proofs.YtohhkoojjelghaaDoor
