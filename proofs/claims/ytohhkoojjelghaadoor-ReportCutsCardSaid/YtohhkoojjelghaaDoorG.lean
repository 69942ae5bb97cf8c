/- report.Get: what it answers of a text, where the names and strconv's table are laid. -/
import Derived.Test.YtohhkoojjelghaaDoorF
set_option linter.unusedSimpArgs false
set_option linter.unusedVariables false
namespace Go.Proofs.YtohhkoojjelghaaDoor
open Go.RowKit Go.Plan Go.Sort

def flat (l : List Rep) : List Value := (l.map fun r => [Value.int .i64 r.a, .int .i64 r.b, .int .i64 r.c, .int .i64 r.d, .int .i64 r.e]).flatten
theorem flat_snoc (l : List Rep) (r : Rep) : flat (l ++ [r]) = flat l ++ [Value.int .i64 r.a, .int .i64 r.b, .int .i64 r.c, .int .i64 r.d, .int .i64 r.e] := by simp [flat]
theorem flat_at : ∀ (l : List Rep) (i : Nat) (r : Rep), l[i]? = some r → (flat l)[i * 5]? = some (.int .i64 r.a) ∧ (flat l)[i * 5 + 1]? = some (.int .i64 r.b) ∧ (flat l)[i * 5 + 2]? = some (.int .i64 r.c) ∧ (flat l)[i * 5 + 3]? = some (.int .i64 r.d) ∧ (flat l)[i * 5 + 4]? = some (.int .i64 r.e)
  | [], i, r, h => by simp at h
  | x :: l, 0, r, h => by
    obtain rfl : x = r := by simpa using h
    simp [flat]
  | x :: l, i + 1, r, h => by
    have ih := flat_at l i r (by simpa using h)
    have hf : flat (x :: l) = [Value.int .i64 x.a, .int .i64 x.b, .int .i64 x.c, .int .i64 x.d, .int .i64 x.e] ++ flat l := by simp [flat]
    have h0 : (i + 1) * 5 = 5 + i * 5 := by omega
    have key : ∀ k, (flat (x :: l))[5 + k]? = (flat l)[k]? := fun k => by rw [hf, List.getElem?_append_right (by simp)]; simp
    refine ⟨?_, ?_, ?_, ?_, ?_⟩
    · rw [h0, key]; exact ih.1
    · rw [h0, Nat.add_assoc, key]; exact ih.2.1
    · rw [h0, Nat.add_assoc, key]; exact ih.2.2.1
    · rw [h0, Nat.add_assoc, key]; exact ih.2.2.2.1
    · rw [h0, Nat.add_assoc, key]; exact ih.2.2.2.2
theorem reads_own {w : World} {base : Nat} {l : List Rep} {g cap : Nat} {n : Nat} (h : w.ownsRow base 35 5 (.slice (some ⟨g, 0, none⟩) n cap) l.length (flat l)) : Reads w (some ⟨g, 0, none⟩) l := by
  intro i r hi
  refine ⟨g, 0, rfl, ?_⟩
  have hc := World.ownsRow.cells h (g := g) rfl
  have f := flat_at l i r hi
  rw [Nat.zero_add]
  have key : ∀ j v, (flat l)[j]? = some v → w.cell? ⟨g, j, none⟩ = some v := fun j v hv => by
    have := hc j v hv
    simpa [add_plain] using this
  exact ⟨key _ _ f.1, key _ _ f.2.1, key _ _ f.2.2.1, key _ _ f.2.2.2.1, key _ _ f.2.2.2.2⟩

/-- What of a text is answered: its reports, or the first line that is none. -/
def Got (s : List UInt8) (e : Ending) (w : World) : Prop := ∃ l : List Rep, mayL l = true ∧ l.length ≤ s.length ∧
  ((putB l = s ∧ ∃ A c, e = .returned (.tuple #[.slice A l.length c, .int .i64 0, .int .i64 0]) ∧ Reads w A l) ∨
   ((∃ t, t ≠ [] ∧ s = putB l ++ t ∧ ∀ r, mayL (l ++ [r]) = true → ¬ lineB r <+: t) ∧ e = .returned (.tuple #[.slice none 0 0, .int .i64 (putB l).length, .int .i64 8])))

theorem cut_is (s sep : ByteArray) (m : Int) (w : World) (hs : s.size < 4294967281) (hm : w.cell? ⟨1, 0, none⟩ = some (.int .i64 m)) (x y : List UInt8) (b : Bool) (h : Lib.cut s.data.toList sep.data.toList = (x, y, b)) :
    Calls Tryd.prog 14 #[.string s, .string sep] w fun e w' => e = .returned (.tuple #[.string ⟨x.toArray⟩, .string ⟨y.toArray⟩, .bool b]) ∧ Below w.heap.size w w' :=
  (Tryd.strings_Cut s sep m w hs hm).mono fun e w' ⟨he, n, hw⟩ => by
    rw [h] at he
    exact ⟨he, hw ▸ below_drewN w n⟩
theorem news_two (w2 : World) (o : Obj) (news : List Value) : ∀ j u, news[j]? = some u → ((w2.alloc o).alloc (.cells news.toArray 35)).cell? ((⟨w2.heap.size + 1, 0, none⟩ : Addr).add j) = some u := by
  have h := heap_alloc_new (w2.alloc o) (.cells news.toArray 35)
  have hs : (w2.alloc o).heap.size = w2.heap.size + 1 := by simp
  rw [hs] at h
  intro j u hj
  rw [add_plain, Lib.cell_of_heap h]
  simpa using hj
theorem May_len (A : Option Addr) (cp n : Nat) (l : List Rep) (hn : l.length = n) (w : World) (hR : Reads w A l) (hl : l.length ≤ 9223372036854775807) (v : Bool) (h : mayL l = v) :
    Calls Tryd.prog 13 #[.slice A n cp] w fun r w' => r = .returned (.bool v) ∧ Below w.heap.size w w' := by subst hn; exact May_is A cp l w hR hl v h
theorem info35 : (Tryd.prog.info? 35).map (fun i => (i.zero, i.size, i.bytes)) = some (some (.agg #[.int .i64 0, .int .i64 0, .int .i64 0, .int .i64 0, .int .i64 0]), 5, 40) := by kernel_rfl

theorem line_pre {r : Rep} {x y : List UInt8} (hx : (10 : UInt8) ∉ x) (h : lineB r <+: x ++ 10 :: y) : lineS r = ⟨x.toArray⟩ := by
  obtain ⟨z, hz⟩ := h
  unfold lineB at hz
  rw [List.append_assoc] at hz
  have := List.append_eq_append_iff.1 hz
  refine ba_ext ?_
  rcases this with ⟨ys, h1, h2⟩ | ⟨ys, h1, h2⟩
  · cases ys with
    | nil => simpa using h1.symm
    | cons a zs =>
      simp only [List.cons_append, List.nil_append, List.cons.injEq] at h2
      exact absurd (by rw [h1]; simp [← h2.1]) hx
  · cases ys with
    | nil => simpa using h1
    | cons a zs =>
      simp only [List.cons_append, List.nil_append, List.cons.injEq] at h2
      exact absurd (by rw [h1]; simp [← h2.1]) (line_no10 r)
theorem may_last {l : List Rep} {r : Rep} (h : mayL (l ++ [r]) = true) : r.ok = true := by
  have := mayL_ok h l.length (by simp)
  simpa using this
theorem got_none {s : List UInt8} {w w' : World} {n : Int} (h : Got s (.returned (.tuple #[.slice none 0 0, .int .i64 n, .int .i64 8])) w) : Got s (.returned (.tuple #[.slice none 0 0, .int .i64 n, .int .i64 8])) w' := by
  obtain ⟨l, h1, h2, h3⟩ := h
  refine ⟨l, h1, h2, h3.imp (fun h => ?_) id⟩
  obtain ⟨_, A, c, he, _⟩ := h
  simp at he

set_option maxRecDepth 8000 in
set_option maxHeartbeats 4000000 in
theorem Get_any (s : ByteArray) (w : World) (hs : s.size ≤ 1000000) (he : Env w) :
    Calls Tryd.prog 7 #[.string s] w fun e w' => Got s.data.toList e w' ∧ Below w.heap.size w w' := by
  have HE := Lib.hid he
  have hs8 := he.size
  obtain ⟨mx, hmx⟩ := he.mx
  have HMX := Lib.hid hmx
  clear he hmx
  obtain ⟨i0, hi0, hzz⟩ := Option.map_eq_some_iff.1 info35
  simp only [Prod.mk.injEq] at hzz
  obtain ⟨hz0, hz1, hz2⟩ := hzz
  go_enter Tryd.func7, Tryd.ntmps7
  go_wp2
  go_loopw [5, 6] (fun v i wr => ∃ (l : List Rep) (t : List UInt8), i = .int .i64 (putB l).length ∧ Hid (s.data.toList = putB l ++ t) ∧ Hid (mayL l = true) ∧ l.length ≤ (putB l).length ∧ (putB l).length + t.length = s.size ∧ Hid (wr.ownsRow w.heap.size 35 5 v l.length (flat l)) ∧ Below w.heap.size w wr) (fun _ i _ => s.size - (intOf i).toNat)
  case atStart => exact ⟨[], s.data.toList, rfl, by simp [Hid, putB], rfl, by simp, by simp [putB], World.ownsRow_nil _ _ _ _, Below.refl _ _⟩
  case round =>
    obtain ⟨l, t, rfl, HS, HM, hll, hlt, HO, hB⟩ := hrel
    have hsz := hB.size
    by_cases ht : t = []
    · have hend : ¬ ((putB l).length : Int) < s.size := by subst ht; simp at hlt; omega
      have HSE : Hid (putB l = s.data.toList) := by have := HS.out; rw [ht, List.append_nil] at this; exact this.symm
      clear HS
      have HV : Hid (∃ A c, u5 = .slice A l.length c ∧ Reads wr A l) := by
        rcases HO.out.2 with ⟨rfl, hn⟩ | ⟨g, cap, cur, rfl, _⟩
        · have h0 : l.length = 0 := by simpa using hn
          obtain rfl := List.eq_nil_of_length_eq_zero h0
          exact ⟨none, 0, rfl, Reads.nil _ _⟩
        · exact ⟨_, cap, rfl, reads_own HO.out⟩
      have HLL : Hid (l.length ≤ s.data.toList.length) := by
        show _ ≤ _
        have h2 : s.data.toList.length = s.size := by rw [Array.length_toList]; rfl
        omega
      obtain ⟨A, c, rfl, hRe⟩ := HV.out
      have HRe := Lib.hid hRe
      clear hRe HV
      go_wp2
      go_ret3
      exact ⟨⟨l, HM.out, HLL.out, .inl ⟨HSE.out, A, c, rfl, HRe.out⟩⟩, hB⟩
    · have htl : 0 < t.length := List.length_pos_iff.2 ht
      have hend : ((putB l).length : Int) < s.size := by omega
      have hex : (s.extract (putB l).length s.size).data.toList = t := by
        rw [Lib.extract_to_end, HS.out, List.drop_left]
      have hes : (s.extract (putB l).length s.size).size < 4294967281 := by
        have : (s.extract (putB l).length s.size).size = t.length := by rw [← hex, Array.length_toList]; rfl
        omega
      have HEX := Lib.hid hex
      have HES := Lib.hid hes
      clear hex hes
      generalize hat : (putB l).length = at_ at *
      have hatn : (at_ : Int).toNat = at_ := rfl
      have HF : Hid ((∀ r, mayL (l ++ [r]) = true → ¬ lineB r <+: t) → Got s.data.toList (.returned (.tuple #[.slice none 0 0, .int .i64 at_, .int .i64 8])) w) := fun h => by
        refine ⟨l, HM.out, ?_, .inr ⟨⟨t, ht, HS.out, h⟩, by rw [hat]⟩⟩
        have h2 : s.data.toList.length = s.size := by rw [Array.length_toList]; rfl
        omega
      by_cases h10 : (10 : UInt8) ∈ t
      · obtain ⟨x, y, hx, htx⟩ := parts_at 10 t h10
        have HCUT : Hid (Lib.cut (s.extract at_ s.size).data.toList [10] = (x, y, true)) := by
          show _ = _
          rw [HEX.out, htx]; exact cut_at 10 x y hx
        have hxl : x.length < t.length := by rw [htx]; simp
        go_wp2_with (go_at_call 14; refine (cut_is _ _ mx _ HES.out (keep1 hB HMX.out) x y true HCUT.out).mono ?_; rintro q w1 ⟨rfl, hb1⟩)
        have hB1 : Below w.heap.size w w1 := hB.trans (hb1.mono hsz)
        have HO1 := Lib.hid (own_below HO.out hb1)
        clear hb1 HO HEX HES HCUT
        refine (read_any ⟨x.toArray⟩ w1 (by have : (⟨x.toArray⟩ : ByteArray).size = x.length := rfl; omega) (HE.out.below hB1)).mono ?_
        rintro q w2 ⟨⟨r, ok, rfl, hrd⟩, hb2⟩
        have hB2 : Below w.heap.size w w2 := hB1.trans (hb2.mono hB1.size)
        have HO2 := Lib.hid (own_below HO1.out hb2)
        have hs2 : w.heap.size ≤ w2.heap.size := hB2.size
        clear hb2 HO1 hB1 hB
        have HRD := Lib.hid hrd
        clear hrd
        unfold Rep.val
        cases ok
        · have HF2 : Hid (∀ r, mayL (l ++ [r]) = true → ¬ lineB r <+: t) := fun r' hr' hp => by
            have := line_pre hx (htx ▸ hp)
            exact HRD.out.2 rfl r' (ok_small (may_last hr')) (by rw [← this])
          go_wp2_with (first | (at_builtin; refine wpList_append_own _ rfl _ _ 23 rfl w.heap.size 35 i0 (.agg #[.int .i64 0, .int .i64 0, .int .i64 0, .int .i64 0, .int .i64 0]) 5 40 Tryd.underlying23 hi0 hz0 hz1 hz2 rfl (by decide) _ l.length (flat l) rfl ((HO2.out.alloc _).alloc _) ⟨w2.heap.size + 1, 0, none⟩ 1 1 [.int .i64 r.a, .int .i64 r.b, .int .i64 r.c, .int .i64 r.d, .int .i64 r.e] rfl rfl (news_two w2 _ _) (by simp [Value.oneCell']) (by unfold maxLen; omega) (by omega) (by simp; omega) ?_))
          intro v3 w3 HO3 hg3 _
          have hB3 : Below w.heap.size w w3 := ((hB2.alloc hs2 _).alloc (by simp; omega) _).grown hg3 (by simp; omega) (fun j hj => own_base HO2.out j hj)
          have HO4 : Hid (w3.ownsRow w.heap.size 35 5 v3 (l ++ [r]).length (flat (l ++ [r]))) := by
            rw [flat_snoc, List.length_append]; exact HO3
          clear HO3 hg3 HO2 hB2 hs2
          go_wp2
          go_ret3
          exact ⟨got_none (HF.out HF2.out), hB3⟩
        · have HLR : Hid (lineS r = ⟨x.toArray⟩) := (HRD.out.1 rfl).2
          cases hml : mayL (l ++ [r])
          · have HML := Lib.hid hml
            have HF2 : Hid (∀ r, mayL (l ++ [r]) = true → ¬ lineB r <+: t) := fun r' hr' hp => by
              have := line_pre hx (htx ▸ hp)
              have hrr : r' = r := line_inj (ok_small (may_last hr')).fit (HRD.out.1 rfl).1.fit (by rw [HLR.out, ← this])
              rw [hrr, HML.out] at hr'
              cases hr'
            clear hml
            go_wp2_with (first | (at_builtin; refine wpList_append_own _ rfl _ _ 23 rfl w.heap.size 35 i0 (.agg #[.int .i64 0, .int .i64 0, .int .i64 0, .int .i64 0, .int .i64 0]) 5 40 Tryd.underlying23 hi0 hz0 hz1 hz2 rfl (by decide) _ l.length (flat l) rfl ((HO2.out.alloc _).alloc _) ⟨w2.heap.size + 1, 0, none⟩ 1 1 [.int .i64 r.a, .int .i64 r.b, .int .i64 r.c, .int .i64 r.d, .int .i64 r.e] rfl rfl (news_two w2 _ _) (by simp [Value.oneCell']) (by unfold maxLen; omega) (by omega) (by simp; omega) ?_))
            intro v3 w3 HO3 hg3 _
            have hB3 : Below w.heap.size w w3 := ((hB2.alloc hs2 _).alloc (by simp; omega) _).grown hg3 (by simp; omega) (fun j hj => own_base HO2.out j hj)
            have HO4 : Hid (w3.ownsRow w.heap.size 35 5 v3 (l ++ [r]).length (flat (l ++ [r]))) := by
              rw [flat_snoc, List.length_append]; exact HO3
            clear HO3 hg3 HO2 hB2 hs2
            obtain ⟨g, cap, rfl, hgb, hgl⟩ := World.ownsRow.form HO4.out (by simp)
            go_wp2_with (go_at_call 13; refine (May_len _ _ _ (l ++ [r]) (by simp) _ (reads_own HO4.out) (by simp; omega) false HML.out).mono ?_; rintro q w4 ⟨rfl, hb4⟩)
            go_ret3
            exact ⟨got_none (HF.out HF2.out), hB3.trans (hb4.mono hB3.size)⟩
          · have HML := Lib.hid hml
            clear hml
            go_wp2_with (first | (at_builtin; refine wpList_append_own _ rfl _ _ 23 rfl w.heap.size 35 i0 (.agg #[.int .i64 0, .int .i64 0, .int .i64 0, .int .i64 0, .int .i64 0]) 5 40 Tryd.underlying23 hi0 hz0 hz1 hz2 rfl (by decide) _ l.length (flat l) rfl ((HO2.out.alloc _).alloc _) ⟨w2.heap.size + 1, 0, none⟩ 1 1 [.int .i64 r.a, .int .i64 r.b, .int .i64 r.c, .int .i64 r.d, .int .i64 r.e] rfl rfl (news_two w2 _ _) (by simp [Value.oneCell']) (by unfold maxLen; omega) (by omega) (by simp; omega) ?_))
            intro v3 w3 HO3 hg3 _
            have hB3 : Below w.heap.size w w3 := ((hB2.alloc hs2 _).alloc (by simp; omega) _).grown hg3 (by simp; omega) (fun j hj => own_base HO2.out j hj)
            have HO4 : Hid (w3.ownsRow w.heap.size 35 5 v3 (l ++ [r]).length (flat (l ++ [r]))) := by
              rw [flat_snoc, List.length_append]; exact HO3
            clear HO3 hg3 HO2 hB2 hs2
            obtain ⟨g, cap, rfl, hgb, hgl⟩ := World.ownsRow.form HO4.out (by simp)
            go_wp2_with (go_at_call 13; refine (May_len _ _ _ (l ++ [r]) (by simp) _ (reads_own HO4.out) (by simp; omega) true HML.out).mono ?_; rintro q w4 ⟨rfl, hb4⟩)
            have HPB : Hid (putB (l ++ [r]) = putB l ++ (x ++ [10])) := by
              show _ = _
              have h := put_take (l ++ [r]) l.length (by simp)
              rw [List.take_of_length_le (by simp), List.take_left] at h
              rw [h]
              simp [lineB, HLR.out]
            have HPL : Hid ((putB (l ++ [r])).length = at_ + (x.length + 1)) := by
              show _ = _
              rw [HPB.out, List.length_append, hat]; simp
            go_roundw
            case rel =>
              refine ⟨l ++ [r], y, ?_, ?_, HML.out, ?_, ?_, ?_, ?_⟩
              · rw [HPL.out]; simp
              · show _ = _
                rw [HPB.out, HS.out, htx]; simp
              · rw [HPL.out]; simp; omega
              · rw [HPL.out]; rw [htx] at hlt; simp at hlt; omega
              · have h := own_below HO4.out hb4
                have e : (l ++ [r]).length = l.length + 1 := by simp
                rw [e] at h ⊢
                exact h
              · exact hB3.trans (hb4.mono hB3.size)
            case measure => simp [intOf]; omega
      · have HCUT : Hid (Lib.cut (s.extract at_ s.size).data.toList [10] = (t, [], false)) := by
          show _ = _
          rw [HEX.out]; exact cut_no 10 t h10
        have HF2 : Hid (∀ r, mayL (l ++ [r]) = true → ¬ lineB r <+: t) := fun r' _ hp => h10 (hp.subset (by simp [lineB]))
        go_wp2_with (go_at_call 14; refine (cut_is _ _ mx _ HES.out (keep1 hB HMX.out) t [] false HCUT.out).mono ?_; rintro q w1 ⟨rfl, hb1⟩)
        have hB1 : Below w.heap.size w w1 := hB.trans (hb1.mono hsz)
        have HO1 := Lib.hid (own_below HO.out hb1)
        clear hb1 HO HEX HES HCUT
        refine (read_any ⟨t.toArray⟩ w1 (by have : (⟨t.toArray⟩ : ByteArray).size = t.length := rfl; omega) (HE.out.below hB1)).mono ?_
        rintro q w2 ⟨⟨r, ok, rfl, hrd⟩, hb2⟩
        have hB2 : Below w.heap.size w w2 := hB1.trans (hb2.mono hB1.size)
        have HO2 := Lib.hid (own_below HO1.out hb2)
        have hs2 : w.heap.size ≤ w2.heap.size := hB2.size
        clear hb2 HO1 hB1 hB
        have HRD := Lib.hid hrd
        clear hrd
        unfold Rep.val
        go_wp2_with (first | (at_builtin; refine wpList_append_own _ rfl _ _ 23 rfl w.heap.size 35 i0 (.agg #[.int .i64 0, .int .i64 0, .int .i64 0, .int .i64 0, .int .i64 0]) 5 40 Tryd.underlying23 hi0 hz0 hz1 hz2 rfl (by decide) _ l.length (flat l) rfl ((HO2.out.alloc _).alloc _) ⟨w2.heap.size + 1, 0, none⟩ 1 1 [.int .i64 r.a, .int .i64 r.b, .int .i64 r.c, .int .i64 r.d, .int .i64 r.e] rfl rfl (news_two w2 _ _) (by simp [Value.oneCell']) (by unfold maxLen; omega) (by omega) (by simp; omega) ?_))
        intro v3 w3 HO3 hg3 _
        have hB3 : Below w.heap.size w w3 := ((hB2.alloc hs2 _).alloc (by simp; omega) _).grown hg3 (by simp; omega) (fun j hj => own_base HO2.out j hj)
        have HO4 : Hid (w3.ownsRow w.heap.size 35 5 v3 (l ++ [r]).length (flat (l ++ [r]))) := by
          rw [flat_snoc, List.length_append]; exact HO3
        clear HO3 hg3 HO2 hB2 hs2
        go_wp2
        go_ret3
        exact ⟨got_none (HF.out HF2.out), hB3⟩

end Go.Proofs.YtohhkoojjelghaaDoor
