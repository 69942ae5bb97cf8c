/- The document's own: one, May, Same, Dec, Line. -/
import Derived.Test.YtohhkoojjelghaaDoorG
set_option linter.unusedSimpArgs false
set_option linter.unusedVariables false
namespace Go.Proofs.YtohhkoojjelghaaDoor
open Go.RowKit Go.Plan Go.Sort

set_option maxHeartbeats 4000000 in
theorem one_any (a b c d e : Int) (w : World) :
    Calls Tryd.prog 17 #[.agg #[.int .i64 a, .int .i64 b, .int .i64 c, .int .i64 d, .int .i64 e]] w fun r w' => r = .returned (.bool (mayOk a b c d e)) ∧ Below w.heap.size w w' := by
  go_enter Tryd.func17, Tryd.ntmps17
  go_wp2
  obtain ⟨W, hW⟩ : ∃ W, W = (w.alloc (.cells #[.int .i64 a, .int .i64 b, .int .i64 c, .int .i64 d, .int .i64 e] 35)).alloc (.cells #[.int .i64 a, .int .i64 b, .int .i64 c, .int .i64 d, .int .i64 e] 3) := ⟨_, rfl⟩
  have HB : Below w.heap.size w W := by rw [hW]; exact ((Below.refl _ _).alloc (Nat.le_refl _) _).alloc (by simp) _
  have hcell : ∀ k, k < 5 → W.cell? ⟨w.heap.size + 1, k, none⟩ = some (.int .i64 (([a, b, c, d, e] : List Int).getD k 0)) := fun k hk => by
    subst hW
    match k, hk with
    | 0, _ => simp
    | 1, _ => simp
    | 2, _ => simp
    | 3, _ => simp
    | 4, _ => simp
  have c3 : W.cell? ⟨w.heap.size, 3, none⟩ = some (.int .i64 d) := by subst hW; simp
  have c2 : W.cell? ⟨w.heap.size, 2, none⟩ = some (.int .i64 c) := by subst hW; simp
  have hs : w.heap.size + 1 < W.heap.size := by subst hW; simp
  have HC := Lib.hid hcell
  clear hcell
  rw [← hW]
  clear hW
  go_loop [4] (fun i => ∃ k : Nat, k ≤ 5 ∧ i = .int .i64 k ∧ Hid (∀ j, j < k → nOk (([a, b, c, d, e] : List Int).getD j 0) = true)) (fun i => 5 - (intOf i).toNat)
  case atStart => exact ⟨0, by omega, rfl, fun j hj => by omega⟩
  case round =>
    obtain ⟨k, hk, rfl, HK⟩ := hrel
    by_cases hlt : k < 5
    · have hix := HC.out k hlt
      generalize hx : ([a, b, c, d, e] : List Int).getD k 0 = x at *
      have HX := Lib.hid hx
      clear hx
      have hno : nOk x = false → mayOk a b c d e = false := fun h => may_no a b c d e k hlt (by rw [HX.out]; exact h)
      have hyes : nOk x = true → ∀ j, j < k + 1 → nOk (([a, b, c, d, e] : List Int).getD j 0) = true := fun h j hj => by
        rcases Nat.lt_or_ge j k with h' | h'
        · exact HK.out j h'
        · obtain rfl : j = k := by omega
          rw [HX.out]; exact h
      have HN := Lib.hid hno
      have HY := Lib.hid hyes
      clear hno hyes
      have hk5 : (k : Int) < 5 := by omega
      by_cases h0 : x < 0
      · go_wp2
        go_ret
        exact ⟨ret_bool (HN.out (by simp [nOk]; omega)).symm, HB⟩
      · by_cases h1 : x > 1099511627776
        · go_wp2
          go_ret
          exact ⟨ret_bool (HN.out (by simp [nOk]; omega)).symm, HB⟩
        · go_wp2
          go_round
          case rel => exact ⟨k + 1, by omega, by go_num, HY.out (by simp [nOk]; omega)⟩
          case measure => simp [intOf]; omega
    · obtain rfl : k = 5 := by omega
      have HM : Hid (mayOk a b c d e = decide (d ≤ c)) := may_yes a b c d e HK.out
      go_wp2
      go_ret
      exact ⟨ret_bool HM.out.symm, HB⟩
theorem one_is (a b c d e : Int) (v : Bool) (h : mayOk a b c d e = v) (w : World) :
    Calls Tryd.prog 17 #[.agg #[.int .i64 a, .int .i64 b, .int .i64 c, .int .i64 d, .int .i64 e]] w fun r w' => r = .returned (.bool v) ∧ Below w.heap.size w w' :=
  (one_any a b c d e w).mono fun _ _ ⟨hr, hb⟩ => ⟨by rw [hr, h], hb⟩

set_option maxHeartbeats 4000000 in
theorem rMay_any (A : Option Addr) (cp : Nat) (l : List Rep) (w : World) (hR : Reads w A l) (hl : l.length ≤ 9223372036854775807) :
    Calls Tryd.prog 10 #[.slice A l.length cp] w fun r w' => r = .returned (.bool (mayL l)) ∧ Below w.heap.size w w' := by
  have HR := Lib.hid hR
  clear hR
  go_enter Tryd.func10, Tryd.ntmps10
  go_wp2
  go_loopw [3] (fun i wr => ∃ k : Nat, k ≤ l.length ∧ i = .int .i64 k ∧ Hid (∀ j, j < k → good l j = true) ∧ Below w.heap.size w wr) (fun i _ => l.length - (intOf i).toNat)
  case atStart => exact ⟨0, by omega, rfl, fun j hj => by omega, Below.refl _ _⟩
  case round =>
    obtain ⟨k, hk, rfl, HK, hB⟩ := hrel
    have hsz := hB.size
    by_cases hlt : k < l.length
    · obtain ⟨b, o, hA, hr⟩ := HR.out k l[k] (by simp [hlt])
      subst hA
      have hbl := hr.lt
      obtain ⟨c0, c1, c2, c3, c4⟩ := hr.below hB
      generalize hg : l[k] = r at *
      have HG := Lib.hid hg
      clear hg hr
      have hkl : (k : Int) < (l.length : Int) := by omega
      go_wp2
      rcases k with _ | m
      · rw [Nat.zero_mul, Nat.add_zero] at c0 c1 c2 c3 c4
        have hgd : good l 0 = r.ok := (good_zero hlt).trans (congrArg Rep.ok HG.out)
        cases hok : r.ok
        · have HGd := Lib.hid (mayL_no hlt (hgd.trans hok))
          have HOK := Lib.hid hok
          clear hgd hok
          refine region_plan [] (takes [0, 1, 2, 3] (.one 4 (takes [5, 6, 7, 8, 9, 10, 11, 12, 13, 14, 15, 16, 17, 18, 19, 20, 21, 22, 23] .done))) (by kernel_rfl) (by kernel_rfl) (by kernel_rfl) (fun _ _ d _ _ h => by cases d <;> exact h) ?_
          simp only [takes]
          iterate 4 ((first | refine take_no rfl rfl ?_ | (refine take_yes rfl rfl ?_; refine ⟨?_, ?_, ?_⟩; rotate_left; · (intro w' hw'; have hc := @Below.cell _ _ _ hw'; have z0 := keep1 hw' c0; have z1 := keep1 hw' c1; have z2 := keep1 hw' c2; have z3 := keep1 hw' c3; have z4 := keep1 hw' c4; go_simp; first | done | rfl))); try simp only [Act.put, List.setIfInBounds_toArray, List.set_cons_zero, List.set_cons_succ, List.getElem_toArray, List.getElem_cons_zero, List.getElem_cons_succ])
          refine loud_yes rfl rfl (fun K hK => ?_)
          go_simp
          refine (one_is _ _ _ _ _ false HOK.out _).mono ?_
          rintro q w1 ⟨rfl, hb⟩
          refine hK _ _ (.inr hb) ?_
          clear hK K
          try simp only [Act.put, List.setIfInBounds_toArray, List.set_cons_zero, List.set_cons_succ, List.getElem_toArray, List.getElem_cons_zero, List.getElem_cons_succ]
          have HB1 : Below w.heap.size w w1 := hB.drew.trans (hb.mono hsz)
          iterate 19 ((first | refine take_no rfl rfl ?_ | (refine take_yes rfl rfl ?_; refine ⟨?_, ?_, ?_⟩; rotate_left; · (intro w' hw'; have hc := @Below.cell _ _ _ hw'; go_simp; first | done | rfl))); try simp only [Act.put, List.setIfInBounds_toArray, List.set_cons_zero, List.set_cons_succ, List.getElem_toArray, List.getElem_cons_zero, List.getElem_cons_succ])
          refine plan_done ?_
          go_wp2
          go_ret
          exact ⟨ret_bool HGd.out.symm, HB1⟩
        · have HGd := Lib.hid (hgd.trans hok)
          have HOK := Lib.hid hok
          clear hgd hok
          refine region_plan [] (takes [0, 1, 2, 3] (.one 4 (takes [5, 6, 7, 8, 9, 10, 11, 12, 13, 14, 15, 16, 17, 18, 19, 20, 21, 22, 23] .done))) (by kernel_rfl) (by kernel_rfl) (by kernel_rfl) (fun _ _ d _ _ h => by cases d <;> exact h) ?_
          simp only [takes]
          iterate 4 ((first | refine take_no rfl rfl ?_ | (refine take_yes rfl rfl ?_; refine ⟨?_, ?_, ?_⟩; rotate_left; · (intro w' hw'; have hc := @Below.cell _ _ _ hw'; have z0 := keep1 hw' c0; have z1 := keep1 hw' c1; have z2 := keep1 hw' c2; have z3 := keep1 hw' c3; have z4 := keep1 hw' c4; go_simp; first | done | rfl))); try simp only [Act.put, List.setIfInBounds_toArray, List.set_cons_zero, List.set_cons_succ, List.getElem_toArray, List.getElem_cons_zero, List.getElem_cons_succ])
          refine loud_yes rfl rfl (fun K hK => ?_)
          go_simp
          refine (one_is _ _ _ _ _ true HOK.out _).mono ?_
          rintro q w1 ⟨rfl, hb⟩
          refine hK _ _ (.inr hb) ?_
          clear hK K
          try simp only [Act.put, List.setIfInBounds_toArray, List.set_cons_zero, List.set_cons_succ, List.getElem_toArray, List.getElem_cons_zero, List.getElem_cons_succ]
          have HB1 : Below w.heap.size w w1 := hB.drew.trans (hb.mono hsz)
          iterate 19 ((first | refine take_no rfl rfl ?_ | (refine take_yes rfl rfl ?_; refine ⟨?_, ?_, ?_⟩; rotate_left; · (intro w' hw'; have hc := @Below.cell _ _ _ hw'; go_simp; first | done | rfl))); try simp only [Act.put, List.setIfInBounds_toArray, List.set_cons_zero, List.set_cons_succ, List.getElem_toArray, List.getElem_cons_zero, List.getElem_cons_succ])
          refine plan_done ?_
          go_wp2
          go_roundw
          case rel => exact ⟨1, by omega, by go_num, good_step HK.out HGd.out, HB1⟩
          case measure => simp [intOf]; omega
      · obtain ⟨b', o', hA', hr'⟩ := HR.out m (l[m]'(by omega)) (by simp [show m < l.length by omega])
        obtain ⟨rfl, rfl⟩ : b = b' ∧ o = o' := by injection hA' with h; injection h with h1 h2; exact ⟨h1, h2⟩
        clear hA'
        obtain ⟨d0, _, _, _, _⟩ := hr'.below hB
        clear hr'
        have hgd : good l (m + 1) = (r.ok && decide ((l[m]'(by omega)).a < r.a)) := by rw [good_succ hlt, HG.out]
        generalize hp : (l[m]'(by omega)).a = p at *
        clear hp
        have hm1 : (0 : Int) ≤ (m : Int) := by omega
        have hm2 : (m : Int) < (l.length : Int) := by omega
        have hm3 : (0 : Int) < (m : Int) + 1 := by omega
        have hm4 : (0 : Int) ≤ (m : Int) + 1 := by omega
        have hm5 : (m : Int) + 1 < (l.length : Int) := by omega
        have hmw : IntKind.i64.wrap (m : Int) = m := IntWalk.i64_in _ (by omega)
        cases hok : r.ok
        · have HGd := Lib.hid (mayL_no hlt (hgd.trans (by rw [hok]; rfl)))
          have HOK := Lib.hid hok
          clear hgd hok
          refine region_plan [] (takes [0, 1, 2, 3] (.one 4 (takes [5, 6, 7, 8, 9, 10, 11, 12, 13, 14, 15, 16, 17, 18, 19, 20, 21, 22, 23] .done))) (by kernel_rfl) (by kernel_rfl) (by kernel_rfl) (fun _ _ d _ _ h => by cases d <;> exact h) ?_
          simp only [takes]
          iterate 4 ((first | refine take_no rfl rfl ?_ | (refine take_yes rfl rfl ?_; refine ⟨?_, ?_, ?_⟩; rotate_left; · (intro w' hw'; have hc := @Below.cell _ _ _ hw'; have z0 := keep1 hw' c0; have z1 := keep1 hw' c1; have z2 := keep1 hw' c2; have z3 := keep1 hw' c3; have z4 := keep1 hw' c4; go_simp; first | done | rfl))); try simp only [Act.put, List.setIfInBounds_toArray, List.set_cons_zero, List.set_cons_succ, List.getElem_toArray, List.getElem_cons_zero, List.getElem_cons_succ])
          refine loud_yes rfl rfl (fun K hK => ?_)
          go_simp
          refine (one_is _ _ _ _ _ false HOK.out _).mono ?_
          rintro q w1 ⟨rfl, hb⟩
          refine hK _ _ (.inr hb) ?_
          clear hK K
          try simp only [Act.put, List.setIfInBounds_toArray, List.set_cons_zero, List.set_cons_succ, List.getElem_toArray, List.getElem_cons_zero, List.getElem_cons_succ]
          have HB1 : Below w.heap.size w w1 := hB.drew.trans (hb.mono hsz)
          have e0 := keep1 hb (keep1 ((Below.refl _ _).drew) c0)
          have e1 := keep1 hb (keep1 ((Below.refl _ _).drew) d0)
          iterate 19 ((first | refine take_no rfl rfl ?_ | (refine take_yes rfl rfl ?_; refine ⟨?_, ?_, ?_⟩; rotate_left; · (intro w' hw'; have hc := @Below.cell _ _ _ hw'; have z0 := keep1 hw' e0; have z1 := keep1 hw' e1; go_simp; first | done | rfl))); try simp only [Act.put, List.setIfInBounds_toArray, List.set_cons_zero, List.set_cons_succ, List.getElem_toArray, List.getElem_cons_zero, List.getElem_cons_succ])
          refine plan_done ?_
          go_wp2
          go_ret
          exact ⟨ret_bool HGd.out.symm, HB1⟩
        · have HOK := Lib.hid hok
          by_cases hpr : p < r.a
          · have HGd := Lib.hid (hgd.trans (show (r.ok && decide (p < r.a)) = true from by simp [hok, hpr]))
            have hpr2 : ¬ r.a ≤ p := by omega
            clear hgd hok
            refine region_plan [] (takes [0, 1, 2, 3] (.one 4 (takes [5, 6, 7, 8, 9, 10, 11, 12, 13, 14, 15, 16, 17, 18, 19, 20, 21, 22, 23] .done))) (by kernel_rfl) (by kernel_rfl) (by kernel_rfl) (fun _ _ d _ _ h => by cases d <;> exact h) ?_
            simp only [takes]
            iterate 4 ((first | refine take_no rfl rfl ?_ | (refine take_yes rfl rfl ?_; refine ⟨?_, ?_, ?_⟩; rotate_left; · (intro w' hw'; have hc := @Below.cell _ _ _ hw'; have z0 := keep1 hw' c0; have z1 := keep1 hw' c1; have z2 := keep1 hw' c2; have z3 := keep1 hw' c3; have z4 := keep1 hw' c4; go_simp; first | done | rfl))); try simp only [Act.put, List.setIfInBounds_toArray, List.set_cons_zero, List.set_cons_succ, List.getElem_toArray, List.getElem_cons_zero, List.getElem_cons_succ])
            refine loud_yes rfl rfl (fun K hK => ?_)
            go_simp
            refine (one_is _ _ _ _ _ true HOK.out _).mono ?_
            rintro q w1 ⟨rfl, hb⟩
            refine hK _ _ (.inr hb) ?_
            clear hK K
            try simp only [Act.put, List.setIfInBounds_toArray, List.set_cons_zero, List.set_cons_succ, List.getElem_toArray, List.getElem_cons_zero, List.getElem_cons_succ]
            have HB1 : Below w.heap.size w w1 := hB.drew.trans (hb.mono hsz)
            have e0 := keep1 hb (keep1 ((Below.refl _ _).drew) c0)
            have e1 := keep1 hb (keep1 ((Below.refl _ _).drew) d0)
            iterate 19 ((first | refine take_no rfl rfl ?_ | (refine take_yes rfl rfl ?_; refine ⟨?_, ?_, ?_⟩; rotate_left; · (intro w' hw'; have hc := @Below.cell _ _ _ hw'; have z0 := keep1 hw' e0; have z1 := keep1 hw' e1; go_simp; first | done | rfl))); try simp only [Act.put, List.setIfInBounds_toArray, List.set_cons_zero, List.set_cons_succ, List.getElem_toArray, List.getElem_cons_zero, List.getElem_cons_succ])
            refine plan_done ?_
            go_wp2
            go_roundw
            case rel => exact ⟨m + 2, by omega, by go_num, good_step HK.out HGd.out, HB1⟩
            case measure => simp [intOf]; omega
          · have HGd := Lib.hid (mayL_no hlt (hgd.trans (show (r.ok && decide (p < r.a)) = false from by simp [hpr])))
            have hpr2 : r.a ≤ p := by omega
            clear hgd hok
            refine region_plan [] (takes [0, 1, 2, 3] (.one 4 (takes [5, 6, 7, 8, 9, 10, 11, 12, 13, 14, 15, 16, 17, 18, 19, 20, 21, 22, 23] .done))) (by kernel_rfl) (by kernel_rfl) (by kernel_rfl) (fun _ _ d _ _ h => by cases d <;> exact h) ?_
            simp only [takes]
            iterate 4 ((first | refine take_no rfl rfl ?_ | (refine take_yes rfl rfl ?_; refine ⟨?_, ?_, ?_⟩; rotate_left; · (intro w' hw'; have hc := @Below.cell _ _ _ hw'; have z0 := keep1 hw' c0; have z1 := keep1 hw' c1; have z2 := keep1 hw' c2; have z3 := keep1 hw' c3; have z4 := keep1 hw' c4; go_simp; first | done | rfl))); try simp only [Act.put, List.setIfInBounds_toArray, List.set_cons_zero, List.set_cons_succ, List.getElem_toArray, List.getElem_cons_zero, List.getElem_cons_succ])
            refine loud_yes rfl rfl (fun K hK => ?_)
            go_simp
            refine (one_is _ _ _ _ _ true HOK.out _).mono ?_
            rintro q w1 ⟨rfl, hb⟩
            refine hK _ _ (.inr hb) ?_
            clear hK K
            try simp only [Act.put, List.setIfInBounds_toArray, List.set_cons_zero, List.set_cons_succ, List.getElem_toArray, List.getElem_cons_zero, List.getElem_cons_succ]
            have HB1 : Below w.heap.size w w1 := hB.drew.trans (hb.mono hsz)
            have e0 := keep1 hb (keep1 ((Below.refl _ _).drew) c0)
            have e1 := keep1 hb (keep1 ((Below.refl _ _).drew) d0)
            iterate 19 ((first | refine take_no rfl rfl ?_ | (refine take_yes rfl rfl ?_; refine ⟨?_, ?_, ?_⟩; rotate_left; · (intro w' hw'; have hc := @Below.cell _ _ _ hw'; have z0 := keep1 hw' e0; have z1 := keep1 hw' e1; go_simp; first | done | rfl))); try simp only [Act.put, List.setIfInBounds_toArray, List.set_cons_zero, List.set_cons_succ, List.getElem_toArray, List.getElem_cons_zero, List.getElem_cons_succ])
            refine plan_done ?_
            go_wp2
            go_ret
            exact ⟨ret_bool HGd.out.symm, HB1⟩
    · have HM : Hid (mayL l = true) := mayL_yes fun j hj => HK.out j (by omega)
      have hkl : ¬ (k : Int) < (l.length : Int) := by omega
      go_wp2
      go_ret
      exact ⟨ret_bool HM.out.symm, hB⟩

theorem neq_rep {r q : Rep} (h : r ≠ q) : ¬ (r.a = q.a ∧ r.b = q.b ∧ r.c = q.c ∧ r.d = q.d ∧ r.e = q.e) := fun ⟨h1, h2, h3, h4, h5⟩ => h (by cases r; cases q; simp at *; exact ⟨h1, h2, h3, h4, h5⟩)
theorem neq_if {α : Type} {r q : Rep} (h : ¬ (r.a = q.a ∧ r.b = q.b ∧ r.c = q.c ∧ r.d = q.d ∧ r.e = q.e)) (x y : α) :
    (if r.a = q.a then if r.b = q.b then if r.c = q.c then if r.d = q.d then if r.e = q.e then x else y else y else y else y else y) = y := by
  split
  · split
    · split
      · split
        · split
          · exact absurd ⟨by assumption, by assumption, by assumption, by assumption, by assumption⟩ h
          all_goals rfl
        all_goals rfl
      all_goals rfl
    all_goals rfl
  all_goals rfl
instance : DecidableEq Rep := fun r q => decidable_of_iff (r.a = q.a ∧ r.b = q.b ∧ r.c = q.c ∧ r.d = q.d ∧ r.e = q.e) ⟨fun ⟨h1, h2, h3, h4, h5⟩ => by cases r; cases q; simp at *; exact ⟨h1, h2, h3, h4, h5⟩, fun h => by rw [h]; simp⟩
/-- Same. -/
theorem getD_of {l : List Rep} {i : Nat} (h : i < l.length) : l[i]? = some l[i] := by simp [h]
set_option maxHeartbeats 4000000 in
theorem Same_any (A B : Option Addr) (cp cq : Nat) (l m : List Rep) (w : World) (hR : Reads w A l) (hS : Reads w B m) (hl : l.length ≤ 9223372036854775807) (hm : m.length ≤ 9223372036854775807) :
    Calls Tryd.prog 9 #[.slice A l.length cp, .slice B m.length cq] w fun r w' => r = .returned (.bool (decide (l = m))) ∧ Below w.heap.size w w' := by
  have HR := Lib.hid hR
  have HS := Lib.hid hS
  clear hR hS
  by_cases hlm : l.length = m.length
  · go_enter Tryd.func9, Tryd.ntmps9
    have hlmi : (l.length : Int) = m.length := by omega
    go_wp2
    go_loopw [5] (fun i wr => ∃ k : Nat, k ≤ l.length ∧ i = .int .i64 k ∧ Hid (∀ j, j < k → l[j]? = m[j]?) ∧ Below w.heap.size w wr) (fun i _ => l.length - (intOf i).toNat)
    case atStart => exact ⟨0, by omega, rfl, fun j hj => by omega, Below.refl _ _⟩
    case round =>
      obtain ⟨k, hk, rfl, HK, hB⟩ := hrel
      have hsz := hB.size
      by_cases hlt : k < l.length
      · obtain ⟨b, o, hA, hr⟩ := HR.out k l[k] (by simp [hlt])
        obtain ⟨b', o', hA', hr'⟩ := HS.out k (m[k]'(by omega)) (by simp [show k < m.length by omega])
        subst hA
        subst hA'
        have hbl := hr.lt
        obtain ⟨c0, c1, c2, c3, c4⟩ := hr.below hB
        obtain ⟨d0, d1, d2, d3, d4⟩ := hr'.below hB
        have hkl : (k : Int) < (l.length : Int) := by omega
        have hkm : (k : Int) < (m.length : Int) := by omega
        have HE : Hid (l[k]? = m[k]? ↔ l[k] = m[k]'(by omega)) := by
          show _ ↔ _
          rw [getD_of hlt, getD_of (by omega : k < m.length)]
          simp
        have HNE : Hid (l[k] ≠ m[k]'(by omega) → l ≠ m) := fun h e => h (by subst e; rfl)
        clear hr hr'
        generalize l[k] = r at *
        generalize (m[k]'(by omega)) = q at *
        go_wp2
        by_cases hrq : r = q
        · subst hrq
          clear HNE
          refine region_plan [] (takes [0, 1, 2, 3, 4, 5, 6, 7, 8] .done) (by kernel_rfl) (by kernel_rfl) (by kernel_rfl) (fun _ _ d _ _ h => by cases d <;> exact h) ?_
          simp only [takes]
          iterate 9 ((first | refine take_no rfl rfl ?_ | (refine take_yes rfl rfl ?_; refine ⟨?_, ?_, ?_⟩; rotate_left; · (intro w' hw'; have hc := @Below.cell _ _ _ hw'; have z0 := keep1 hw' c0; have y0 := keep1 hw' d0; have z1 := keep1 hw' c1; have y1 := keep1 hw' d1; have z2 := keep1 hw' c2; have y2 := keep1 hw' d2; have z3 := keep1 hw' c3; have y3 := keep1 hw' d3; have z4 := keep1 hw' c4; have y4 := keep1 hw' d4; go_simp; first | done | rfl))); try simp only [Act.put, List.setIfInBounds_toArray, List.set_cons_zero, List.set_cons_succ, List.getElem_toArray, List.getElem_cons_zero, List.getElem_cons_succ])
          refine plan_done ?_
          go_wp2
          go_roundw
          case rel =>
            refine ⟨k + 1, by omega, by go_num, fun j hj => ?_, hB.drew⟩
            by_cases hjk : j = k
            · subst hjk; exact HE.out.2 rfl
            · exact HK.out j (by omega)
          case measure => simp [intOf]; omega
        · clear HE
          have HQ := Lib.hid (HNE.out hrq)
          have HNR := Lib.hid (neq_rep hrq)
          clear hrq HNE
          refine region_plan [] (takes [0, 1, 2, 3, 4, 5, 6, 7, 8] .done) (by kernel_rfl) (by kernel_rfl) (by kernel_rfl) (fun _ _ d _ _ h => by cases d <;> exact h) ?_
          simp only [takes]
          iterate 8 ((first | refine take_no rfl rfl ?_ | (refine take_yes rfl rfl ?_; refine ⟨?_, ?_, ?_⟩; rotate_left; · (intro w' hw'; have hc := @Below.cell _ _ _ hw'; have z0 := keep1 hw' c0; have y0 := keep1 hw' d0; have z1 := keep1 hw' c1; have y1 := keep1 hw' d1; have z2 := keep1 hw' c2; have y2 := keep1 hw' d2; have z3 := keep1 hw' c3; have y3 := keep1 hw' d3; have z4 := keep1 hw' c4; have y4 := keep1 hw' d4; go_simp; first | done | rfl))); try simp only [Act.put, List.setIfInBounds_toArray, List.set_cons_zero, List.set_cons_succ, List.getElem_toArray, List.getElem_cons_zero, List.getElem_cons_succ])
          refine take_yes rfl rfl ⟨.bool true, fun w' hw' => ?_, ?_⟩
          · go_simp
            exact fun h1 h2 h3 h4 h5 => HNR.out ⟨h1, h2, h3, h4, h5⟩
          refine plan_done ?_
          go_wp2
          go_ret
          exact ⟨ret_bool (by simp [HQ.out]), hB.drew⟩
      · have hkl : ¬ (k : Int) < (l.length : Int) := by omega
        have hkl2 : ¬ (k : Int) < (m.length : Int) := by omega
        have HEQ : Hid (l = m) := by
          refine List.ext_getElem? fun j => ?_
          rcases Nat.lt_or_ge j k with h | h
          · exact HK.out j h
          · rw [List.getElem?_eq_none (by omega), List.getElem?_eq_none (by omega)]
        go_wp2
        go_ret
        exact ⟨ret_bool (by simp [HEQ.out]), hB⟩
  · have hne : ((l.length : Int) != (m.length : Int)) = true := by simp; omega
    have HQ : Hid (l ≠ m) := fun e => hlm (by rw [e])
    go_enter Tryd.func9, Tryd.ntmps9
    go_wp2
    go_ret
    exact ⟨ret_bool (by simp [HQ.out]), Below.refl _ _⟩

end Go.Proofs.YtohhkoojjelghaaDoor
