/- The document's own Get. -/
import Derived.Test.YtohhkoojjelghaaDoorL
set_option linter.unusedSimpArgs false
set_option linter.unusedVariables false
namespace Go.Proofs.YtohhkoojjelghaaDoor
open Go.RowKit Go.Plan Go.Sort

theorem news_one (w2 : World) (news : List Value) : ∀ j u, news[j]? = some u → (w2.alloc (.cells news.toArray 35)).cell? ((⟨w2.heap.size, 0, none⟩ : Addr).add j) = some u := by
  have h := heap_alloc_new w2 (.cells news.toArray 35)
  intro j u hj
  rw [add_plain, Lib.cell_of_heap h]
  simpa using hj
theorem own_form {w : World} {base : Nat} {v : Value} {l : List Rep} (h : w.ownsRow base 35 5 v l.length (flat l)) : ∃ A c, v = .slice A l.length c ∧ Reads w A l := by
  rcases h.2 with ⟨rfl, hn⟩ | ⟨g, cap, cur, rfl, _⟩
  · have h0 : l.length = 0 := by simpa using hn
    obtain rfl := List.eq_nil_of_length_eq_zero h0
    exact ⟨none, 0, rfl, Reads.nil _ _⟩
  · exact ⟨_, cap, rfl, reads_own h⟩
theorem good_snoc (l : List Rep) (r : Rep) (j : Nat) (hj : j < l.length) : good (l ++ [r]) j = good l j := by
  have h1 : (l ++ [r]).getD j Rep.zero = l.getD j Rep.zero := by simp [List.getD, List.getElem?_append_left hj]
  have h2 : (l ++ [r]).getD (j - 1) Rep.zero = l.getD (j - 1) Rep.zero := by simp [List.getD, List.getElem?_append_left (show j - 1 < l.length by omega)]
  unfold good
  rw [h1, h2]
theorem may_snoc {l : List Rep} {r : Rep} (h : mayL l = true) : mayL (l ++ [r]) = good (l ++ [r]) l.length := by
  cases hg : good (l ++ [r]) l.length
  · exact mayL_no (by simp) hg
  · refine mayL_yes fun j hj => ?_
    simp at hj
    rcases Nat.lt_or_ge j l.length with h' | h'
    · rw [good_snoc l r j h']
      unfold mayL at h
      exact List.all_eq_true.1 h j (by simpa using h')
    · obtain rfl : j = l.length := by omega
      exact hg
theorem may_one {r : Rep} (h : r.ok = true) : mayL ([] ++ [r]) = true := by
  rw [may_snoc (by rfl)]
  simp [good, h]
theorem may_more {l : List Rep} {r p : Rep} (h : mayL l = true) (hr : r.ok = true) (hp : l[l.length - 1]? = some p) (hl : 0 < l.length) : mayL (l ++ [r]) = decide (p.a < r.a) := by
  rw [may_snoc h]
  have h1 : (l ++ [r]).getD l.length Rep.zero = r := by simp
  have h2 : (l ++ [r]).getD (l.length - 1) Rep.zero = p := by
    simp only [List.getD, List.getElem?_append_left (show l.length - 1 < l.length by omega), hp]; rfl
  unfold good
  rw [h1, h2, hr]
  simp [show l.length ≠ 0 by omega]
  try (intro h; subst h; simp at hl)

set_option maxRecDepth 8000 in
set_option maxHeartbeats 4000000 in
theorem rGet_any (s : ByteArray) (w : World) (hs : s.size ≤ 1000000) :
    Calls Tryd.prog 8 #[.string s] w fun e w' => Got s.data.toList e w' ∧ Below w.heap.size w w' := by
  obtain ⟨i0, hi0, hzz⟩ := Option.map_eq_some_iff.1 info35
  simp only [Prod.mk.injEq] at hzz
  obtain ⟨hz0, hz1, hz2⟩ := hzz
  go_enter Tryd.func8, Tryd.ntmps8
  go_wp2
  go_loopw [5, 6] (fun v i wr => ∃ (l : List Rep) (t : List UInt8), i = .int .i64 (putB l).length ∧ Hid (s.data.toList = putB l ++ t) ∧ Hid (mayL l = true) ∧ l.length ≤ (putB l).length ∧ (putB l).length + t.length = s.size ∧ Hid (wr.ownsRow w.heap.size 35 5 v l.length (flat l)) ∧ Below w.heap.size w wr) (fun _ i _ => s.size - (intOf i).toNat)
  case atStart => exact ⟨[], s.data.toList, rfl, by simp [Hid, putB], rfl, by simp, by simp [putB], World.ownsRow_nil _ _ _ _, Below.refl _ _⟩
  case round =>
    obtain ⟨l, t, rfl, HS, HM, hll, hlt, HO, hB⟩ := hrel
    have hsz := hB.size
    obtain ⟨A, cA, rfl, hRe⟩ := own_form HO.out
    have HRe := Lib.hid hRe
    clear hRe
    have HLL : Hid (l.length ≤ s.data.toList.length) := by
      show _ ≤ _
      have h2 : s.data.toList.length = s.size := by rw [Array.length_toList]; rfl
      omega
    by_cases ht : t = []
    · have hend : ¬ ((putB l).length : Int) < s.size := by subst ht; simp at hlt; omega
      have HSE : Hid (putB l = s.data.toList) := by have := HS.out; rw [ht, List.append_nil] at this; exact this.symm
      clear HS
      go_wp2
      go_ret3
      exact ⟨⟨l, HM.out, HLL.out, .inl ⟨HSE.out, A, cA, rfl, HRe.out⟩⟩, hB⟩
    · have htl : 0 < t.length := List.length_pos_iff.2 ht
      have hend : ((putB l).length : Int) < s.size := by omega
      generalize hat : (putB l).length = at_ at *
      have HF : Hid ((∀ r, mayL (l ++ [r]) = true → ¬ lineB r <+: t) → Got s.data.toList (.returned (.tuple #[.slice none 0 0, .int .i64 at_, .int .i64 8])) w) := fun h =>
        ⟨l, HM.out, HLL.out, .inr ⟨⟨t, ht, HS.out, h⟩, by rw [hat]⟩⟩
      have HC : Hid (∀ (q : Nat) (hq : q < t.length) (h : at_ + q < s.size), s[at_ + q]'h = t[q]) := fun q hq h => by
        have h1 : s[at_ + q]'h = s.data.toList[at_ + q]'(by rw [Array.length_toList]; exact h) := rfl
        rw [h1, List.getElem_of_eq HS.out, List.getElem_append_right (by omega)]
        simp [hat]
      go_wp2
      go_loop [7] (fun v => ∃ q : Nat, q ≤ t.length ∧ v = .int .i64 ((at_ + q : Nat) : Int) ∧ Hid ((10 : UInt8) ∉ t.take q)) (fun v => s.size - (intOf v).toNat)
      case atStart => exact ⟨0, by omega, by simp, by simp [Hid]⟩
      case round =>
        obtain ⟨q, hq, rfl, HQ⟩ := hrel
        by_cases hqt : q < t.length
        · have hqi : (at_ : Int) + (q : Int) < (s.size : Int) := by omega
          have hqn : at_ + q < s.size := by omega
          obtain ⟨c, hc⟩ : ∃ c, s[at_ + q]'hqn = c := ⟨_, rfl⟩
          have HCQ : Hid (t[q] = c) := (HC.out q hqt hqn).symm.trans hc
          by_cases h10 : c = 10
          · have hc10 : s[at_ + q]'hqn = 10 := hc.trans h10
            clear hc
            have HTX : Hid (t = t.take q ++ 10 :: t.drop (q + 1)) := by
              show _ = _
              have : t.drop q = 10 :: t.drop (q + 1) := by rw [List.drop_eq_getElem_cons hqt, HCQ.out, h10]
              rw [← this, List.take_append_drop]
            have HXL : Hid ((t.take q).length = q) := by simp [Hid]; omega
            have HSX : Hid ((s.extract at_ (at_ + q + 1)).data.toList = t.take q ++ [10]) := by
              show _ = _
              rw [Lib.extract_data, HS.out]
              have hdrop : (putB l ++ t).drop at_ = t := by rw [← hat, List.drop_left]
              have h4 : at_ + q + 1 - at_ = q + 1 := by omega
              rw [hdrop, h4, List.take_succ_eq_append_getElem hqt, HCQ.out, h10]
            have hqe : ¬ ((at_ : Int) + (q : Int) = (s.size : Int)) := by omega
            generalize t.take q = x at *
            generalize t.drop (q + 1) = y at *
            have hxs : (s.extract at_ (at_ + q + 1)).size ≤ 1000000 := by
              have h1 := congrArg List.length HSX.out
              rw [Array.length_toList, List.length_append, HXL.out, List.length_singleton] at h1
              have h2 : (s.extract at_ (at_ + q + 1)).size = (s.extract at_ (at_ + q + 1)).data.size := rfl
              omega
            go_wp2_with (go_at_call 16; refine (rread_any _ _ hxs).mono ?_; rintro v2 w2 ⟨⟨r, ok, rfl, hrd⟩, hb2⟩; unfold Rep.val)
            have hB2 : Below w.heap.size w w2 := hB.trans (hb2.mono hsz)
            have HO2 := Lib.hid (own_below HO.out hb2)
            have HR2 := Lib.hid (HRe.out.below hb2)
            clear hb2 HO HRe hB
            have HRD := Lib.hid hrd
            clear hrd
            have hWc : ∀ (j : Nat) v, [Value.int .i64 r.a, .int .i64 r.b, .int .i64 r.c, .int .i64 r.d, .int .i64 r.e][j]? = some v → (w2.alloc (.cells #[.int .i64 r.a, .int .i64 r.b, .int .i64 r.c, .int .i64 r.d, .int .i64 r.e] 35)).cell? ⟨w2.heap.size, j, none⟩ = some v := fun j v hj => by
              rw [Lib.cell_of_heap (heap_alloc_new w2 _)]
              simpa using hj
            have d0 := hWc 0 _ rfl
            have d1 := hWc 1 _ rfl
            have d2 := hWc 2 _ rfl
            have d3 := hWc 3 _ rfl
            have d4 := hWc 4 _ rfl
            have HBW : Below w.heap.size w (w2.alloc (.cells #[.int .i64 r.a, .int .i64 r.b, .int .i64 r.c, .int .i64 r.d, .int .i64 r.e] 35)) := hB2.alloc hB2.size _
            have HOW := Lib.hid (HO2.out.alloc (.cells #[.int .i64 r.a, .int .i64 r.b, .int .i64 r.c, .int .i64 r.d, .int .i64 r.e] 35))
            have HRW : Hid (Reads (w2.alloc (.cells #[.int .i64 r.a, .int .i64 r.b, .int .i64 r.c, .int .i64 r.d, .int .i64 r.e] 35)) A l) := HR2.out.below ((Below.refl _ _).alloc (Nat.le_refl _) _)
            clear hWc hB2 HO2 HR2
            have HX10 : Hid ((10 : UInt8) ∉ x) := HQ.out
            have HPRE : Hid (∀ r' : Rep, lineB r' <+: t → lineB r' = x ++ [10]) := fun r' hp => by
              have := line_pre HX10.out (HTX.out ▸ hp)
              unfold lineB
              rw [this]
            cases ok
            · have HF2 : Hid (∀ r, mayL (l ++ [r]) = true → ¬ lineB r <+: t) := fun r' hr' hp => HRD.out.2 rfl r' (may_last hr') (by rw [HPRE.out r' hp, HSX.out])
              generalize w2.alloc (.cells #[.int .i64 r.a, .int .i64 r.b, .int .i64 r.c, .int .i64 r.d, .int .i64 r.e] 35) = W at *
              have dl := World.block_lt_of_cell? W _ d0
              refine region_plan [] (takes [0, 1, 2, 3, 4, 5, 6, 7, 8, 9, 10, 11, 12, 13, 14, 15, 16, 17, 18] .done) (by kernel_rfl) (by kernel_rfl) (by kernel_rfl) (fun _ _ d _ _ h => by cases d <;> exact h) ?_
              simp only [takes]
              iterate 19 ((first | refine take_no rfl rfl ?_ | (refine take_yes rfl rfl ?_; refine ⟨?_, ?_, ?_⟩; rotate_left; · (intro w' hw'; have hc := @Below.cell _ _ _ hw'; have z0 := keep1 hw' d0; go_simp; first | done | rfl))); try simp only [Act.put, List.setIfInBounds_toArray, List.set_cons_zero, List.set_cons_succ, List.getElem_toArray, List.getElem_cons_zero, List.getElem_cons_succ])
              refine plan_done ?_
              go_wp2
              go_ret3
              exact ⟨got_none (HF.out HF2.out), HBW.drew⟩
            · have HOK : Hid (r.ok = true) := (HRD.out.1 rfl).1
              have HLR : Hid (lineB r = x ++ [10]) := (HRD.out.1 rfl).2.trans HSX.out
              have HSM : Hid (∀ r' : Rep, mayL (l ++ [r']) = true → lineB r' <+: t → r' = r) := fun r' h1 h2 => by
                have h3 := (HPRE.out r' h2).trans HLR.out.symm
                unfold lineB at h3
                exact line_inj (ok_small (may_last h1)).fit (ok_small HOK.out).fit (ba_ext (List.append_cancel_right h3))
              rcases Nat.eq_zero_or_pos l.length with hl0 | hlp
              · have hle := List.eq_nil_of_length_eq_zero hl0
                have HML : Hid (mayL (l ++ [r]) = true) := by subst hle; exact may_one HOK.out
                have hl0i : ¬ (0 : Int) < (l.length : Int) := by omega
                have HLE := Lib.hid hle
                have hl0d : decide ((0 : Int) < (l.length : Int)) = false := decide_eq_false hl0i
                have hl0e : decide (0 < l.length) = false := decide_eq_false (by omega)
                have hl0f : ¬ 0 < l.length := by omega
                clear hl0 hle
                generalize w2.alloc (.cells #[.int .i64 r.a, .int .i64 r.b, .int .i64 r.c, .int .i64 r.d, .int .i64 r.e] 35) = W at *
                have dl := World.block_lt_of_cell? W _ d0
                refine region_plan [] (takes [0, 1, 2, 3, 4, 5, 6, 7, 8, 9, 10, 11, 12, 13, 14, 15, 16, 17, 18] .done) (by kernel_rfl) (by kernel_rfl) (by kernel_rfl) (fun _ _ d _ _ h => by cases d <;> exact h) ?_
                simp only [takes]
                iterate 19 ((first | refine take_no rfl rfl ?_ | (refine take_yes rfl rfl ?_; refine ⟨?_, ?_, ?_⟩; rotate_left; · (intro w' hw'; have hc := @Below.cell _ _ _ hw'; have z0 := keep1 hw' d0; go_simp; first | done | rfl))); try simp only [Act.put, List.setIfInBounds_toArray, List.set_cons_zero, List.set_cons_succ, List.getElem_toArray, List.getElem_cons_zero, List.getElem_cons_succ])
                refine plan_done ?_
                have HO3' := Lib.hid (own_below HOW.out (below_drewN W 1))
                go_wp2_with (first | (at_builtin; refine wpList_append_own _ rfl _ _ 23 rfl w.heap.size 35 i0 (.agg #[.int .i64 0, .int .i64 0, .int .i64 0, .int .i64 0, .int .i64 0]) 5 40 Tryd.underlying23 hi0 hz0 hz1 hz2 rfl (by decide) _ l.length (flat l) rfl (HO3'.out.alloc _) ⟨W.heap.size, 0, none⟩ 1 1 [.int .i64 r.a, .int .i64 r.b, .int .i64 r.c, .int .i64 r.d, .int .i64 r.e] rfl rfl (news_one W.drew _) (by simp [Value.oneCell']) (by unfold maxLen; omega) (by omega) (by simp; have := HBW.size; omega) ?_))
                intro v3 w3 HO3 hg3 _
                have hB3 : Below w.heap.size w w3 := (HBW.drew.alloc (by simp; have := HBW.size; omega) _).grown hg3 (by simp; have := HBW.size; omega) (fun j hj => own_base HOW.out j hj)
                have HO4 : Hid (w3.ownsRow w.heap.size 35 5 v3 (l ++ [r]).length (flat (l ++ [r]))) := by
                  rw [flat_snoc, List.length_append]; exact HO3
                clear HO3 hg3 HO3' HOW HBW
                have HPB : Hid (putB (l ++ [r]) = putB l ++ (x ++ [10])) := by
                  show _ = _
                  have h := put_take (l ++ [r]) l.length (by simp)
                  rw [List.take_of_length_le (by simp), List.take_left] at h
                  rw [h]
                  simp [HLR.out]
                have HPL : Hid ((putB (l ++ [r])).length = at_ + (q + 1)) := by
                  show _ = _
                  rw [HPB.out, List.length_append, hat]; simp [HXL.out]
                go_wp2
                go_roundw
                case rel =>
                  refine ⟨l ++ [r], y, ?_, ?_, HML.out, ?_, ?_, HO4.out, ?_⟩
                  · rw [HPL.out]; simp; omega
                  · show _ = _
                    rw [HPB.out, HS.out, HTX.out]; simp
                  · rw [HPL.out]; simp; omega
                  · rw [HPL.out]; have := congrArg List.length HTX.out; simp [HXL.out] at this; omega
                  · exact hB3
                case measure => simp [intOf]; omega
              · obtain ⟨p, hp⟩ : ∃ p, l[l.length - 1]? = some p := ⟨l[l.length - 1]'(by omega), by simp [show l.length - 1 < l.length by omega]⟩
                have HMM := Lib.hid (may_more HM.out HOK.out hp hlp)
                obtain ⟨bb, oo, hA, hat2⟩ := HRW.out (l.length - 1) p hp
                have q0 := hat2.c0
                subst hA
                clear hat2 hp
                have hl0i : (0 : Int) < (l.length : Int) := by omega
                have hk1 : IntKind.i64.wrap ((l.length : Int) - 1) = ((l.length - 1 : Nat) : Int) := by rw [IntWalk.i64_in _ (by omega)]; omega
                have hk2 : ((l.length - 1 : Nat) : Int) < (l.length : Int) := by omega
                have hk3 : (0 : Int) ≤ ((l.length - 1 : Nat) : Int) := by omega
                generalize w2.alloc (.cells #[.int .i64 r.a, .int .i64 r.b, .int .i64 r.c, .int .i64 r.d, .int .i64 r.e] 35) = W at *
                have dl := World.block_lt_of_cell? W _ d0
                by_cases hpr : p.a < r.a
                · have HML : Hid (mayL (l ++ [r]) = true) := HMM.out.trans (by simp [hpr])
                  have hpr2 : ¬ r.a ≤ p.a := by omega
                  refine region_plan [] (takes [0, 1, 2, 3, 4, 5, 6, 7, 8, 9, 10, 11, 12, 13, 14, 15, 16, 17, 18] .done) (by kernel_rfl) (by kernel_rfl) (by kernel_rfl) (fun _ _ d _ _ h => by cases d <;> exact h) ?_
                  simp only [takes]
                  iterate 19 ((first | refine take_no rfl rfl ?_ | (refine take_yes rfl rfl ?_; refine ⟨?_, ?_, ?_⟩; rotate_left; · (intro w' hw'; have hc := @Below.cell _ _ _ hw'; have z0 := keep1 hw' d0; have z1 := keep1 hw' q0; go_simp; first | done | rfl))); try simp only [Act.put, List.setIfInBounds_toArray, List.set_cons_zero, List.set_cons_succ, List.getElem_toArray, List.getElem_cons_zero, List.getElem_cons_succ])
                  refine plan_done ?_
                  have HO3' := Lib.hid (own_below HOW.out (below_drewN W 1))
                  go_wp2_with (first | (at_builtin; refine wpList_append_own _ rfl _ _ 23 rfl w.heap.size 35 i0 (.agg #[.int .i64 0, .int .i64 0, .int .i64 0, .int .i64 0, .int .i64 0]) 5 40 Tryd.underlying23 hi0 hz0 hz1 hz2 rfl (by decide) _ l.length (flat l) rfl (HO3'.out.alloc _) ⟨W.heap.size, 0, none⟩ 1 1 [.int .i64 r.a, .int .i64 r.b, .int .i64 r.c, .int .i64 r.d, .int .i64 r.e] rfl rfl (news_one W.drew _) (by simp [Value.oneCell']) (by unfold maxLen; omega) (by omega) (by simp; have := HBW.size; omega) ?_))
                  intro v3 w3 HO3 hg3 _
                  have hB3 : Below w.heap.size w w3 := (HBW.drew.alloc (by simp; have := HBW.size; omega) _).grown hg3 (by simp; have := HBW.size; omega) (fun j hj => own_base HOW.out j hj)
                  have HO4 : Hid (w3.ownsRow w.heap.size 35 5 v3 (l ++ [r]).length (flat (l ++ [r]))) := by
                    rw [flat_snoc, List.length_append]; exact HO3
                  clear HO3 hg3 HO3' HOW HBW
                  have HPB : Hid (putB (l ++ [r]) = putB l ++ (x ++ [10])) := by
                    show _ = _
                    have h := put_take (l ++ [r]) l.length (by simp)
                    rw [List.take_of_length_le (by simp), List.take_left] at h
                    rw [h]
                    simp [HLR.out]
                  have HPL : Hid ((putB (l ++ [r])).length = at_ + (q + 1)) := by
                    show _ = _
                    rw [HPB.out, List.length_append, hat]; simp [HXL.out]
                  go_wp2
                  go_roundw
                  case rel =>
                    refine ⟨l ++ [r], y, ?_, ?_, HML.out, ?_, ?_, HO4.out, ?_⟩
                    · rw [HPL.out]; simp; omega
                    · show _ = _
                      rw [HPB.out, HS.out, HTX.out]; simp
                    · rw [HPL.out]; simp; omega
                    · rw [HPL.out]; have := congrArg List.length HTX.out; simp [HXL.out] at this; omega
                    · exact hB3
                  case measure => simp [intOf]; omega
                · have HML : Hid (mayL (l ++ [r]) = false) := HMM.out.trans (by simp [hpr])
                  have hpr2 : r.a ≤ p.a := by omega
                  have HF2 : Hid (∀ r, mayL (l ++ [r]) = true → ¬ lineB r <+: t) := fun r' hr' hp => by
                    have := HSM.out r' hr' hp
                    rw [this, HML.out] at hr'
                    cases hr'
                  refine region_plan [] (takes [0, 1, 2, 3, 4, 5, 6, 7, 8, 9, 10, 11, 12, 13, 14, 15, 16, 17, 18] .done) (by kernel_rfl) (by kernel_rfl) (by kernel_rfl) (fun _ _ d _ _ h => by cases d <;> exact h) ?_
                  simp only [takes]
                  iterate 19 ((first | refine take_no rfl rfl ?_ | (refine take_yes rfl rfl ?_; refine ⟨?_, ?_, ?_⟩; rotate_left; · (intro w' hw'; have hc := @Below.cell _ _ _ hw'; have z0 := keep1 hw' d0; have z1 := keep1 hw' q0; go_simp; first | done | rfl))); try simp only [Act.put, List.setIfInBounds_toArray, List.set_cons_zero, List.set_cons_succ, List.getElem_toArray, List.getElem_cons_zero, List.getElem_cons_succ])
                  refine plan_done ?_
                  go_wp2
                  go_ret3
                  exact ⟨got_none (HF.out HF2.out), HBW.drew⟩
          · have hnc : ¬ c.toNat = 10 := fun h => h10 (UInt8.toNat_inj.1 h)
            go_wp2
            go_round
            case rel =>
              refine ⟨q + 1, by omega, by go_num, ?_⟩
              show _ ∉ _
              rw [List.take_succ_eq_append_getElem hqt, HCQ.out]
              simp only [List.mem_append, List.mem_singleton, not_or]
              exact ⟨HQ.out, fun h => h10 h.symm⟩
            case measure => simp [intOf]; omega
        · obtain rfl : q = t.length := by omega
          have hN10 : Hid ((10 : UInt8) ∉ t) := by have := HQ.out; rwa [List.take_length] at this
          have HF2 : Hid (∀ r, mayL (l ++ [r]) = true → ¬ lineB r <+: t) := fun r' _ hp => hN10.out (hp.subset (by simp [lineB]))
          have hqi : ¬ (at_ : Int) + (t.length : Int) < (s.size : Int) := by omega
          have hqe : (at_ : Int) + (t.length : Int) = (s.size : Int) := by omega
          go_wp2
          go_ret3
          exact ⟨got_none (HF.out HF2.out), hB⟩

end Go.Proofs.YtohhkoojjelghaaDoor
