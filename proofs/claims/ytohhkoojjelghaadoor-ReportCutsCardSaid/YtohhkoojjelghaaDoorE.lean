/- The plain law of the lines: a line's words come back by cutting at blanks; a numeral's value; unlike reports have unlike lines. No program in sight. -/
import Derived.Test.YtohhkoojjelghaaDoorC
set_option linter.unusedSimpArgs false
set_option linter.unusedVariables false
namespace Go.Proofs.YtohhkoojjelghaaDoor
open Go.RowKit Go.Plan Go.Sort

theorem index_at (c : UInt8) : ∀ (x y : List UInt8), c ∉ x → Lib.index (x ++ c :: y) [c] = x.length
  | [], y, _ => by rw [List.nil_append, Lib.index]; simp [List.isPrefixOf]
  | b :: x, y, h => by
    have hbc : c ≠ b := fun e => h (by simp [e])
    have ih := index_at c x y (fun e => h (by simp [e]))
    rw [List.cons_append, Lib.index, ih]
    simp [List.isPrefixOf, hbc]
theorem index_no (c : UInt8) : ∀ (x : List UInt8), c ∉ x → Lib.index x [c] = -1
  | [], _ => by rw [Lib.index]; simp
  | b :: x, h => by
    have hbc : c ≠ b := fun e => h (by simp [e])
    rw [Lib.index, index_no c x (fun e => h (by simp [e]))]
    simp [List.isPrefixOf, hbc]
theorem cut_at (c : UInt8) (x y : List UInt8) (h : c ∉ x) : Lib.cut (x ++ c :: y) [c] = (x, y, true) := by
  unfold Lib.cut
  rw [index_at c x y h, if_pos (by omega)]
  simp
theorem cut_no (c : UInt8) (x : List UInt8) (h : c ∉ x) : Lib.cut x [c] = (x, [], false) := by
  unfold Lib.cut
  rw [index_no c x h, if_neg (by omega)]
theorem parts_at (c : UInt8) : ∀ (s : List UInt8), c ∈ s → ∃ x y, c ∉ x ∧ s = x ++ c :: y
  | [], h => by simp at h
  | b :: s, h => by
    by_cases hb : c = b
    · exact ⟨[], s, by simp, by simp [hb]⟩
    · obtain ⟨x, y, hx, rfl⟩ := parts_at c s (by simpa [hb] using h)
      exact ⟨b :: x, y, by simp [hb, hx], by simp⟩

theorem join_cons (w v : List UInt8) (ws : List (List UInt8)) (c : UInt8) : Lib.join (w :: v :: ws) [c] = w ++ c :: Lib.join (v :: ws) [c] := by
  simp [Lib.join, List.intercalate, List.intersperse]
theorem splitK_join (c : UInt8) : ∀ (w : List UInt8) (ws : List (List UInt8)), (∀ x ∈ w :: ws, c ∉ x) → Lib.splitK [c] 0 ws.length (Lib.join (w :: ws) [c]) = w :: ws
  | w, [], h => by simp [Lib.splitK, Lib.join, List.intercalate, List.intersperse]
  | w, v :: ws, h => by
    have hw := h w (by simp)
    rw [List.length_cons, Lib.splitK, join_cons, index_at c _ _ hw, if_neg (by simp)]
    simp [splitK_join c v ws fun x hx => h x (by simp at hx ⊢; exact .inr hx)]
theorem count_join (c : UInt8) : ∀ (w : List UInt8) (ws : List (List UInt8)), (∀ x ∈ w :: ws, c ∉ x) → (Lib.join (w :: ws) [c]).count c = ws.length
  | w, [], h => by
    have := List.count_eq_zero.2 (h w (by simp))
    simpa [Lib.join, List.intercalate, List.intersperse] using this
  | w, v :: ws, h => by
    have := List.count_eq_zero.2 (h w (by simp))
    rw [join_cons, List.count_append, this, List.count_cons_self, count_join c v ws fun x hx => h x (by simp at hx ⊢; exact .inr hx), List.length_cons]
    omega
theorem ba_ext {a b : ByteArray} (h : a.data.toList = b.data.toList) : a = b := by
  obtain ⟨⟨a⟩⟩ := a; obtain ⟨⟨b⟩⟩ := b; simp at h; rw [h]
theorem split_join (c : UInt8) (s : ByteArray) (w : ByteArray) (ws : List ByteArray) (h : ∀ x ∈ w :: ws, c ∉ x.data.toList) (hs : s.data.toList = Lib.join ((w :: ws).map (·.data.toList)) [c]) :
    Lib.countB s ⟨#[c]⟩ = ws.length ∧ Lib.splitB ⟨#[c]⟩ 0 ws.length s = w :: ws := by
  have h' : ∀ x ∈ w.data.toList :: ws.map (·.data.toList), c ∉ x := fun x hx => by
    simp only [List.mem_cons, List.mem_map] at hx
    rcases hx with rfl | ⟨y, hy, rfl⟩
    · exact h _ (by simp)
    · exact h _ (by simp [hy])
  rw [List.map_cons] at hs
  have hd : Lib.countB s ⟨#[c]⟩ = Lib.count s.data.toList [c] := rfl
  refine ⟨by rw [hd, Lib.count_one, hs, count_join c _ _ h']; simp, ?_⟩
  have hk := splitK_join c _ _ h'
  rw [← hs, List.length_map] at hk
  have hb := Lib.splitB_data ⟨#[c]⟩ 0 ws.length s
  rw [show (⟨#[c]⟩ : ByteArray).data.toList = [c] from rfl, hk] at hb
  have hinj : ∀ (a b : List ByteArray), a.map (·.data.toList) = b.map (·.data.toList) → a = b := by
    intro a
    induction a with
    | nil => intro b hb; cases b <;> simp at hb ⊢
    | cons x a ih =>
      intro b hb
      cases b with
      | nil => simp at hb
      | cons y b =>
        simp only [List.map_cons, List.cons.injEq] at hb
        rw [ba_ext hb.1, ih b hb.2]
  exact hinj _ (w :: ws) hb

/-- Digits only. -/
def digs (l : List UInt8) : Prop := ∀ x ∈ l, 48 ≤ x.toNat ∧ x.toNat ≤ 57
def val (l : List UInt8) : Nat := l.foldl (fun n c => 10 * n + (c.toNat - 48)) 0
theorem val_snoc (l : List UInt8) (c : UInt8) : val (l ++ [c]) = 10 * val l + (c.toNat - 48) := by simp [val, List.foldl_append]
theorem digit_nat {i : Nat} (h : i < 10) : (UInt8.ofNat (48 + i)).toNat = 48 + i := by
  simp [UInt8.toNat_ofNat']
  omega
theorem dec_facts : ∀ (u : Nat), digs (Lib.decDigits u) ∧ val (Lib.decDigits u) = u ∧ Lib.decDigits u ≠ []
  | u => by
    rw [Lib.decDigits]
    split
    · rename_i h
      have hd := digit_nat h
      refine ⟨fun x hx => ?_, ?_, by simp⟩
      · simp only [List.mem_cons, List.not_mem_nil, or_false] at hx
        subst hx; rw [hd]; omega
      · simp only [val, List.foldl_cons, List.foldl_nil, hd]; omega
    · rename_i h
      obtain ⟨h1, h2, h3⟩ := dec_facts (u / 10)
      have hd := digit_nat (show u % 10 < 10 by omega)
      refine ⟨fun x hx => ?_, ?_, by simp⟩
      · simp only [List.mem_append, List.mem_cons, List.not_mem_nil, or_false] at hx
        rcases hx with hx | rfl
        · exact h1 x hx
        · rw [hd]; omega
      · rw [val_snoc, h2, hd]; omega
termination_by u => u
theorem val_lt' : ∀ (l : List UInt8) (n : Nat), digs l → l.foldl (fun n c => 10 * n + (c.toNat - 48)) n < (n + 1) * 10 ^ l.length
  | [], n, _ => by simp
  | c :: l, n, h => by
    have h1 := val_lt' l (10 * n + (c.toNat - 48)) fun x hx => h x (by simp [hx])
    have h2 := h c (by simp)
    rw [List.foldl_cons, List.length_cons, Nat.pow_succ]
    refine Nat.lt_of_lt_of_le h1 ?_
    have : 10 * n + (c.toNat - 48) + 1 ≤ (n + 1) * 10 := by omega
    have := Nat.mul_le_mul_right (10 ^ l.length) this
    rw [Nat.mul_comm (10 ^ l.length) 10, ← Nat.mul_assoc]
    exact this
theorem val_lt (l : List UInt8) (h : digs l) : val l < 10 ^ l.length := by
  have := val_lt' l 0 h
  simpa [val] using this

/-- Numbers of at most fifteen digits. -/
def small (n : Int) : Prop := 0 ≤ n ∧ n ≤ 999999999999999
structure Rep.small (r : Rep) : Prop where
  a : YtohhkoojjelghaaDoor.small r.a
  b : YtohhkoojjelghaaDoor.small r.b
  c : YtohhkoojjelghaaDoor.small r.c
  d : YtohhkoojjelghaaDoor.small r.d
  e : YtohhkoojjelghaaDoor.small r.e
theorem Rep.small.fit {r : Rep} (h : r.small) : r.fit := by
  obtain ⟨a, b, c, d, e⟩ := h
  simp only [YtohhkoojjelghaaDoor.small] at a b c d e
  refine ⟨?_, ?_, ?_, ?_, ?_⟩ <;> omega
theorem ok_small {r : Rep} (h : r.ok = true) : r.small := by
  simp only [Rep.ok, mayOk, nOk, Bool.and_eq_true, decide_eq_true_eq] at h
  obtain ⟨⟨⟨⟨⟨h0, h1⟩, h2⟩, h3⟩, h4⟩, _⟩ := h
  refine ⟨?_, ?_, ?_, ?_, ?_⟩ <;> (simp only [YtohhkoojjelghaaDoor.small]; omega)
theorem dec_digs (n : Int) : digs (dec n).data.toList := by simpa [dec] using (dec_facts n.toNat).1
theorem dec_val (n : Int) (h : 0 ≤ n) : (val (dec n).data.toList : Int) = n := by
  have := (dec_facts n.toNat).2.1
  simp only [dec]
  rw [this]
  omega
theorem dec_ne (n : Int) : (dec n).data.toList ≠ [] := by simpa [dec] using (dec_facts n.toNat).2.2
theorem dec_short (n : Int) (h : small n) : (dec n).data.toList.length ≤ 15 := by
  have := dec_len 14 n.toNat (by have := h.2; omega)
  simpa [dec] using this
theorem digs_no (c : UInt8) (hc : c.toNat < 48) {l : List UInt8} (h : digs l) : c ∉ l := fun hm => by have := (h c hm).1; omega
theorem words_no (c : UInt8) (hc : c.toNat < 48) (r : Rep) : ∀ x ∈ words r, c ∉ x.data.toList := by
  intro x hx
  simp only [words, List.mem_cons, List.not_mem_nil, or_false] at hx
  have hn : ∀ y ∈ nms, c ∉ y.data.toList := fun y hy => by
    intro hm
    have hb : nms.all (fun y => y.data.toList.all fun b => decide (48 ≤ b.toNat)) = true := by decide
    have := List.all_eq_true.1 (List.all_eq_true.1 hb y hy) c hm
    simp at this
    omega
  have hd := fun n => digs_no c hc (dec_digs n)
  rcases hx with rfl | rfl | rfl | rfl | rfl | rfl | rfl | rfl | rfl | rfl
  · exact hn _ (by simp [nms])
  · exact hd _
  · exact hn _ (by simp [nms])
  · exact hd _
  · exact hn _ (by simp [nms])
  · exact hd _
  · exact hn _ (by simp [nms])
  · exact hd _
  · exact hn _ (by simp [nms])
  · exact hd _
theorem line_split (r : Rep) (s : ByteArray) (h : lineS r = s) : Lib.countB s ⟨#[32]⟩ = 9 ∧ Lib.splitB ⟨#[32]⟩ 0 9 s = words r :=
  split_join 32 s nm0 [dec r.a, nm1, dec r.b, nm2, dec r.c, nm3, dec r.d, nm4, dec r.e] (words_no 32 (by decide) r) (by rw [← h]; simp [lineS, words])
theorem line_inj {r r' : Rep} (h : r.fit) (h' : r'.fit) (he : lineS r = lineS r') : r = r' := by
  have h1 := (line_split r _ rfl).2
  have h2 := (line_split r' _ rfl).2
  rw [he, h2] at h1
  simp only [words, List.cons.injEq, and_true, true_and] at h1
  obtain ⟨e1, e2, e3, e4, e5⟩ := h1
  have back : ∀ {x y : Int}, 0 ≤ x → 0 ≤ y → dec x = dec y → x = y := fun hx hy h => by rw [← dec_val _ hx, h, dec_val _ hy]
  obtain ⟨a, b, c, d, e⟩ := r
  obtain ⟨a', b', c', d', e'⟩ := r'
  obtain ⟨f0, f1, f2, f3, f4⟩ := h
  obtain ⟨g0, g1, g2, g3, g4⟩ := h'
  simp only at *
  rw [back g0.1 f0.1 e1, back g1.1 f1.1 e2, back g2.1 f2.1 e3, back g3.1 f3.1 e4, back g4.1 f4.1 e5]
theorem line_no10 (r : Rep) : (10 : UInt8) ∉ (lineS r).data.toList := by
  intro hm
  have hw := words_no 10 (by decide) r
  have : ∀ (ws : List (List UInt8)), (∀ x ∈ ws, (10 : UInt8) ∉ x) → (10 : UInt8) ∉ Lib.join ws [32] := by
    intro ws
    induction ws with
    | nil => intro _; simp [Lib.join, List.intercalate, List.intersperse]
    | cons w ws ih =>
      intro h
      cases ws with
      | nil => simpa [Lib.join, List.intercalate, List.intersperse] using h w (by simp)
      | cons v ws =>
        rw [join_cons]
        have h1 := h w (by simp)
        have h2 := ih fun x hx => h x (by simp at hx ⊢; exact .inr hx)
        simp only [List.mem_append, List.mem_cons]
        rintro (h' | h' | h')
        · exact h1 h'
        · cases h'
        · exact h2 h'
  refine this ((words r).map (·.data.toList)) (fun x hx => ?_) (by simpa [lineS] using hm)
  obtain ⟨y, hy, rfl⟩ := List.mem_map.1 hx
  exact hw y hy

end Go.Proofs.YtohhkoojjelghaaDoor
