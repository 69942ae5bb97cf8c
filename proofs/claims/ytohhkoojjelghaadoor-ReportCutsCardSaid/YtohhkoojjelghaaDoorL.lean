/- The document's own reading of a line: the walk. -/
import Derived.Test.YtohhkoojjelghaaDoorK
set_option linter.unusedSimpArgs false
set_option linter.unusedVariables false
namespace Go.Proofs.YtohhkoojjelghaaDoor
open Go.RowKit Go.Plan Go.Sort

def RR (s : ByteArray) (r : Rep) (ok : Bool) : Prop := (ok = true → r.ok = true ∧ lineB r = s.data.toList) ∧ (ok = false → ∀ r' : Rep, r'.ok = true → lineB r' ≠ s.data.toList)
def RRE (s : ByteArray) (e : Ending) : Prop := ∃ r ok, e = .returned (.tuple #[Rep.val r, .bool ok]) ∧ RR s r ok

theorem scan_dead {s : List UInt8} {m : Nat} (h : scan sc0 (s.take m) = none) : ∀ r' : Rep, r'.ok = true → lineB r' ≠ s := by
  intro r' hr e
  obtain ⟨st, hs, _⟩ := scan_line r' hr
  rw [e, ← List.take_append_drop m s, scan_app, h] at hs
  cases hs
theorem Line_is (r : Rep) (w : World) (hf : r.fit) (ln : ByteArray) (h : (⟨(lineB r).toArray⟩ : ByteArray) = ln) :
    Calls Tryd.prog 25 #[r.val] w fun e w' => e = .returned (.string ln) ∧ Below w.heap.size w w' := by subst h; exact Line_any r w hf

set_option maxRecDepth 8000 in
set_option maxHeartbeats 4000000 in
theorem rread_any (s : ByteArray) (w : World) (hs : s.size ≤ 1000000) :
    Calls Tryd.prog 16 #[.string s] w fun e w' => RRE s e ∧ Below w.heap.size w w' := by
  go_enter Tryd.func16, Tryd.ntmps16
  go_wp2
  go_loopw [5, 6, 7] (fun kv iv i wr => ∃ (m : Nat) (st : Sc), m ≤ s.size ∧ i = .int .i64 m ∧ kv = .int .i64 ((st.n : Int) - 1) ∧ iv = .bool st.ins ∧ Hid (scan sc0 (s.data.toList.take m) = some st) ∧
      Hid (wr.heap[w.heap.size + 1]? = some (.cells (nArr st.f) 58 (0, 0))) ∧ Hid (wr.heap[w.heap.size]? = some (.cells #[.int .i64 0, .int .i64 0, .int .i64 0, .int .i64 0, .int .i64 0] 35 (0, 0))) ∧
      Hid (∀ j, 0 ≤ st.f j ∧ st.f j ≤ 10995116277769) ∧ (st.ins = true → 1 ≤ st.n) ∧ st.n ≤ 5 ∧ Below w.heap.size w wr) (fun _ _ i _ => s.size - (intOf i).toNat)
  case atStart =>
    refine ⟨0, sc0, by omega, rfl, rfl, rfl, rfl, ?_, ?_, fun j => by simp [sc0], by simp [sc0], by simp [sc0], ((Below.refl _ _).alloc (Nat.le_refl _) _).alloc (by simp) _⟩
    · show ((w.heap.push _).push _)[_]? = _
      simp only [Array.getElem?_push, Array.size_push]
      rw [if_pos trivial]; rfl
    · show ((w.heap.push _).push _)[_]? = _
      simp only [Array.getElem?_push, Array.size_push]
      rw [if_neg (by omega), if_pos trivial]
  case round =>
    obtain ⟨m, ⟨n, ins, f⟩, hm, rfl, rfl, rfl, HSC, HN, HZ, HF, hins, hn5, hB⟩ := hrel
    simp only at HN HF hins hn5
    have hsz : w.heap.size + 1 < wr.heap.size := (Array.getElem?_eq_some_iff.1 HN.out).1
    by_cases hlt : m < s.size
    · have hml : m < s.data.toList.length := by rw [Array.length_toList]; exact hlt
      have htk : s.data.toList.take (m + 1) = s.data.toList.take m ++ [s[m]'hlt] := by rw [List.take_succ_eq_append_getElem hml]; rfl
      have hmi : (m : Int) < (s.size : Int) := by omega
      have hcl : (s[m]'hlt).toNat < 256 := UInt8.toNat_lt _
      obtain ⟨c, hsm⟩ : ∃ c, s[m]'hlt = c := ⟨_, rfl⟩
      rw [hsm] at htk hcl
      have HST : Hid (scan sc0 (s.data.toList.take (m + 1)) = stp ⟨n, ins, f⟩ c) := by
        show _ = _
        rw [htk, scan_snoc, HSC.out, Option.bind_some]
      clear htk HSC
      by_cases h48 : c.toNat < 48
      · have hdg : Hid (isDig c = false) := by simp [Hid, isDig]; omega
        have h48i : ¬ (48 : Int) ≤ (c.toNat : Int) := by omega
        have HST2 : Hid (stp ⟨n, ins, f⟩ c = some ⟨n, false, f⟩) := by show _ = _; simp [stp, hdg.out]
        go_wp2
        go_roundw
        case rel => exact ⟨m + 1, ⟨n, false, f⟩, by omega, by go_num, rfl, rfl, HST.out.trans HST2.out, HN.out, HZ.out, HF.out, (fun h => by cases h), hn5, hB⟩
        case measure => simp [intOf]; omega
      · have h48i : (48 : Int) ≤ (c.toNat : Int) := by omega
        by_cases h57 : 57 < c.toNat
        · have hdg : Hid (isDig c = false) := by simp [Hid, isDig]; omega
          have h57i : ¬ (c.toNat : Int) ≤ 57 := by omega
          have HST2 : Hid (stp ⟨n, ins, f⟩ c = some ⟨n, false, f⟩) := by show _ = _; simp [stp, hdg.out]
          go_wp2
          go_roundw
          case rel => exact ⟨m + 1, ⟨n, false, f⟩, by omega, by go_num, rfl, rfl, HST.out.trans HST2.out, HN.out, HZ.out, HF.out, (fun h => by cases h), hn5, hB⟩
          case measure => simp [intOf]; omega
        · have h57i : (c.toNat : Int) ≤ 57 := by omega
          have hdg : Hid (isDig c = true) := by simp [Hid, isDig]; omega
          cases ins
          · clear hins
            by_cases hg5 : n = 5
            · subst hg5
              have HBAD : Hid (∀ r' : Rep, r'.ok = true → lineB r' ≠ s.data.toList) := scan_dead (m := m + 1) (HST.out.trans (by simp [stp, hdg.out, Sc.grp]))
              have z0 : wr.cell? ⟨w.heap.size, 0, none⟩ = some (.int .i64 0) := by rw [Lib.cell_of_heap HZ.out]; rfl
              have z1 : wr.cell? ⟨w.heap.size, 1, none⟩ = some (.int .i64 0) := by rw [Lib.cell_of_heap HZ.out]; rfl
              have z2 : wr.cell? ⟨w.heap.size, 2, none⟩ = some (.int .i64 0) := by rw [Lib.cell_of_heap HZ.out]; rfl
              have z3 : wr.cell? ⟨w.heap.size, 3, none⟩ = some (.int .i64 0) := by rw [Lib.cell_of_heap HZ.out]; rfl
              have z4 : wr.cell? ⟨w.heap.size, 4, none⟩ = some (.int .i64 0) := by rw [Lib.cell_of_heap HZ.out]; rfl
              have zf := Lib.frozen_of_heap HZ.out
              go_wp2
              have HBE := below_set5 hB (Nat.le_refl _) (.int .i64 0) (.int .i64 0) (.int .i64 0) (.int .i64 0) (.int .i64 0)
              have HTE := set5 (x0 := (.int .i64 0)) (x1 := (.int .i64 0)) (x2 := (.int .i64 0)) (x3 := (.int .i64 0)) (x4 := (.int .i64 0)) HZ.out
              generalize ((((((((((wr).setCell ⟨w.heap.size, 0, none⟩ (.int .i64 0))).setCell ⟨w.heap.size, 1, none⟩ (.int .i64 0))).setCell ⟨w.heap.size, 2, none⟩ (.int .i64 0))).setCell ⟨w.heap.size, 3, none⟩ (.int .i64 0))).setCell ⟨w.heap.size, 4, none⟩ (.int .i64 0)) = WE at *
              have y0 : WE.cell? ⟨w.heap.size, 0, none⟩ = some (.int .i64 0) := by rw [Lib.cell_of_heap HTE]; rfl
              have y1 : WE.cell? ⟨w.heap.size, 1, none⟩ = some (.int .i64 0) := by rw [Lib.cell_of_heap HTE]; rfl
              have y2 : WE.cell? ⟨w.heap.size, 2, none⟩ = some (.int .i64 0) := by rw [Lib.cell_of_heap HTE]; rfl
              have y3 : WE.cell? ⟨w.heap.size, 3, none⟩ = some (.int .i64 0) := by rw [Lib.cell_of_heap HTE]; rfl
              have y4 : WE.cell? ⟨w.heap.size, 4, none⟩ = some (.int .i64 0) := by rw [Lib.cell_of_heap HTE]; rfl
              have yl := World.block_lt_of_cell? WE _ y0
              refine bodyPost_ret (v := .tuple #[.agg #[.int .i64 0, .int .i64 0, .int .i64 0, .int .i64 0, .int .i64 0], .bool false]) (by simp [results, Tryd.results16, go_sem, y0, y1, y2, y3, y4, yl]) rfl ⟨⟨⟨0, 0, 0, 0, 0⟩, false, rfl, ⟨(fun h => by cases h), fun _ => HBAD.out⟩⟩, HBE⟩
            · have hg : n < 5 := by omega
              have hgi : ¬ (4 : Int) < (n : Int) := by omega
              have hgi0 : (0 : Int) ≤ (n : Int) := by omega
              have hgi5 : (n : Int) < 5 := by omega
              have hnc := nArr_cell HN.out n hg
              have hnl := World.block_lt_of_cell? wr _ hnc
              have hfb := HF.out n
              by_cases hbig : 1099511627776 < f n
              · have HBAD : Hid (∀ r' : Rep, r'.ok = true → lineB r' ≠ s.data.toList) := scan_dead (m := m + 1) (HST.out.trans (by simp [stp, hdg.out, Sc.grp, hbig]))
                have z0 : wr.cell? ⟨w.heap.size, 0, none⟩ = some (.int .i64 0) := by rw [Lib.cell_of_heap HZ.out]; rfl
                have z1 : wr.cell? ⟨w.heap.size, 1, none⟩ = some (.int .i64 0) := by rw [Lib.cell_of_heap HZ.out]; rfl
                have z2 : wr.cell? ⟨w.heap.size, 2, none⟩ = some (.int .i64 0) := by rw [Lib.cell_of_heap HZ.out]; rfl
                have z3 : wr.cell? ⟨w.heap.size, 3, none⟩ = some (.int .i64 0) := by rw [Lib.cell_of_heap HZ.out]; rfl
                have z4 : wr.cell? ⟨w.heap.size, 4, none⟩ = some (.int .i64 0) := by rw [Lib.cell_of_heap HZ.out]; rfl
                have zf := Lib.frozen_of_heap HZ.out
                go_wp2
                have HBE := below_set5 hB (Nat.le_refl _) (.int .i64 0) (.int .i64 0) (.int .i64 0) (.int .i64 0) (.int .i64 0)
                have HTE := set5 (x0 := (.int .i64 0)) (x1 := (.int .i64 0)) (x2 := (.int .i64 0)) (x3 := (.int .i64 0)) (x4 := (.int .i64 0)) HZ.out
                generalize ((((((((((wr).setCell ⟨w.heap.size, 0, none⟩ (.int .i64 0))).setCell ⟨w.heap.size, 1, none⟩ (.int .i64 0))).setCell ⟨w.heap.size, 2, none⟩ (.int .i64 0))).setCell ⟨w.heap.size, 3, none⟩ (.int .i64 0))).setCell ⟨w.heap.size, 4, none⟩ (.int .i64 0)) = WE at *
                have y0 : WE.cell? ⟨w.heap.size, 0, none⟩ = some (.int .i64 0) := by rw [Lib.cell_of_heap HTE]; rfl
                have y1 : WE.cell? ⟨w.heap.size, 1, none⟩ = some (.int .i64 0) := by rw [Lib.cell_of_heap HTE]; rfl
                have y2 : WE.cell? ⟨w.heap.size, 2, none⟩ = some (.int .i64 0) := by rw [Lib.cell_of_heap HTE]; rfl
                have y3 : WE.cell? ⟨w.heap.size, 3, none⟩ = some (.int .i64 0) := by rw [Lib.cell_of_heap HTE]; rfl
                have y4 : WE.cell? ⟨w.heap.size, 4, none⟩ = some (.int .i64 0) := by rw [Lib.cell_of_heap HTE]; rfl
                have yl := World.block_lt_of_cell? WE _ y0
                refine bodyPost_ret (v := .tuple #[.agg #[.int .i64 0, .int .i64 0, .int .i64 0, .int .i64 0, .int .i64 0], .bool false]) (by simp [results, Tryd.results16, go_sem, y0, y1, y2, y3, y4, yl]) rfl ⟨⟨⟨0, 0, 0, 0, 0⟩, false, rfl, ⟨(fun h => by cases h), fun _ => HBAD.out⟩⟩, HBE⟩
              · have HST2 : Hid (stp ⟨n, false, f⟩ c = some ⟨n + 1, true, upd f n (10 * f n + ((c.toNat : Int) - 48))⟩) := by
                  show _ = _
                  simp [stp, hdg.out, Sc.grp, hbig, hg5]
                  omega
                have HFB := Lib.hid hfb
                have hnf := Lib.frozen_of_heap HN.out
                obtain ⟨P, hP⟩ : ∃ P, f n = P := ⟨_, rfl⟩
                rw [hP] at hnc hfb hbig HFB HST2
                have hp1 : IntKind.i64.wrap (10 * P) = 10 * P := IntWalk.i64_in _ (by omega)
                have hp2 : IntKind.i64.wrap (10 * P + (c.toNat : Int)) = 10 * P + (c.toNat : Int) := IntWalk.i64_in _ (by omega)
                have hp3 : IntKind.i64.wrap (10 * P + (c.toNat : Int) - 48) = 10 * P + (c.toNat : Int) - 48 := IntWalk.i64_in _ (by omega)
                have hp4 : IntKind.i64.wrap (c.toNat : Int) = (c.toNat : Int) := IntWalk.i64_in _ (by omega)
                have HP := Lib.hid hP
                clear hP
                go_wp2
                refine region_plan [12] (takes [0, 1, 2, 3, 4, 5, 6, 7, 8, 9, 10, 11] (.one 12 .done)) (by kernel_rfl) (by kernel_rfl) (by kernel_rfl) (fun _ _ d _ _ h => by cases d <;> exact h) ?_
                simp only [takes]
                iterate 12 ((first | refine take_no rfl rfl ?_ | (refine take_yes rfl rfl ?_; refine ⟨?_, ?_, ?_⟩; rotate_left; · (intro w' hw'; have hc := @Below.cell _ _ _ hw'; have z0 := keep1 hw' hnc; go_simp; first | done | rfl))); try simp only [Act.put, List.setIfInBounds_toArray, List.set_cons_zero, List.set_cons_succ, List.getElem_toArray, List.getElem_cons_zero, List.getElem_cons_succ])
                have hnc2 : wr.drew.cell? ⟨w.heap.size + 1, n, none⟩ = some (.int .i64 P) := hnc
                have hnf2 : wr.drew.frozen? ⟨w.heap.size + 1, n, none⟩ = false := hnf _
                refine loud_yes rfl rfl (fun K hK => ?_)
                go_simp
                refine hK _ _ (.inl rfl) ?_
                clear hK K
                try simp only [Act.put, List.setIfInBounds_toArray, List.set_cons_zero, List.set_cons_succ, List.getElem_toArray, List.getElem_cons_zero, List.getElem_cons_succ]
                refine plan_done ?_
                go_wp2
                go_roundw
                case rel =>
                  refine ⟨m + 1, ⟨n + 1, true, upd f n (10 * P + ((c.toNat : Int) - 48))⟩, by omega, by go_num, by simp, rfl, HST.out.trans HST2.out, ?_, ?_, fun j => ?_, fun _ => by simp, by simp; omega, (hB.setCell (by simp) _).drew⟩
                  · show _ = _
                    refine (nArr_set (w := wr) HN.out n hg _).trans ?_
                    congr 3
                    funext j
                    by_cases hj : j = n
                    · simp [upd, hj]; omega
                    · simp [upd, hj]
                  · show _ = _
                    exact (Below.heap_setCell wr _ _ _ (by simp)).trans HZ.out
                  · have := HF.out j
                    by_cases hj : j = n
                    · simp [upd, hj]; omega
                    · simpa [upd, hj] using this
                case measure => simp [intOf]; omega
          · obtain ⟨p, rfl⟩ : ∃ p, n = p + 1 := ⟨n - 1, by have := hins rfl; omega⟩
            clear hins
            have hg : p < 5 := by omega
            have hgi : ¬ (4 : Int) < (p : Int) := by omega
            have hgi0 : (0 : Int) ≤ (p : Int) := by omega
            have hgi5 : (p : Int) < 5 := by omega
            have hnc := nArr_cell HN.out p hg
            have hnl := World.block_lt_of_cell? wr _ hnc
            have hfb := HF.out p
            by_cases hbig : 1099511627776 < f p
            · have HBAD : Hid (∀ r' : Rep, r'.ok = true → lineB r' ≠ s.data.toList) := scan_dead (m := m + 1) (HST.out.trans (by simp [stp, hdg.out, Sc.grp, hbig]))
              have z0 : wr.cell? ⟨w.heap.size, 0, none⟩ = some (.int .i64 0) := by rw [Lib.cell_of_heap HZ.out]; rfl
              have z1 : wr.cell? ⟨w.heap.size, 1, none⟩ = some (.int .i64 0) := by rw [Lib.cell_of_heap HZ.out]; rfl
              have z2 : wr.cell? ⟨w.heap.size, 2, none⟩ = some (.int .i64 0) := by rw [Lib.cell_of_heap HZ.out]; rfl
              have z3 : wr.cell? ⟨w.heap.size, 3, none⟩ = some (.int .i64 0) := by rw [Lib.cell_of_heap HZ.out]; rfl
              have z4 : wr.cell? ⟨w.heap.size, 4, none⟩ = some (.int .i64 0) := by rw [Lib.cell_of_heap HZ.out]; rfl
              have zf := Lib.frozen_of_heap HZ.out
              go_wp2
              have HBE := below_set5 hB (Nat.le_refl _) (.int .i64 0) (.int .i64 0) (.int .i64 0) (.int .i64 0) (.int .i64 0)
              have HTE := set5 (x0 := (.int .i64 0)) (x1 := (.int .i64 0)) (x2 := (.int .i64 0)) (x3 := (.int .i64 0)) (x4 := (.int .i64 0)) HZ.out
              generalize ((((((((((wr).setCell ⟨w.heap.size, 0, none⟩ (.int .i64 0))).setCell ⟨w.heap.size, 1, none⟩ (.int .i64 0))).setCell ⟨w.heap.size, 2, none⟩ (.int .i64 0))).setCell ⟨w.heap.size, 3, none⟩ (.int .i64 0))).setCell ⟨w.heap.size, 4, none⟩ (.int .i64 0)) = WE at *
              have y0 : WE.cell? ⟨w.heap.size, 0, none⟩ = some (.int .i64 0) := by rw [Lib.cell_of_heap HTE]; rfl
              have y1 : WE.cell? ⟨w.heap.size, 1, none⟩ = some (.int .i64 0) := by rw [Lib.cell_of_heap HTE]; rfl
              have y2 : WE.cell? ⟨w.heap.size, 2, none⟩ = some (.int .i64 0) := by rw [Lib.cell_of_heap HTE]; rfl
              have y3 : WE.cell? ⟨w.heap.size, 3, none⟩ = some (.int .i64 0) := by rw [Lib.cell_of_heap HTE]; rfl
              have y4 : WE.cell? ⟨w.heap.size, 4, none⟩ = some (.int .i64 0) := by rw [Lib.cell_of_heap HTE]; rfl
              have yl := World.block_lt_of_cell? WE _ y0
              refine bodyPost_ret (v := .tuple #[.agg #[.int .i64 0, .int .i64 0, .int .i64 0, .int .i64 0, .int .i64 0], .bool false]) (by simp [results, Tryd.results16, go_sem, y0, y1, y2, y3, y4, yl]) rfl ⟨⟨⟨0, 0, 0, 0, 0⟩, false, rfl, ⟨(fun h => by cases h), fun _ => HBAD.out⟩⟩, HBE⟩
            · have HST2 : Hid (stp ⟨p + 1, true, f⟩ c = some ⟨p + 1, true, upd f p (10 * f p + ((c.toNat : Int) - 48))⟩) := by
                show _ = _
                simp [stp, hdg.out, Sc.grp, hbig]
                omega
              have HFB := Lib.hid hfb
              have hnf := Lib.frozen_of_heap HN.out
              obtain ⟨P, hP⟩ : ∃ P, f p = P := ⟨_, rfl⟩
              rw [hP] at hnc hfb hbig HFB HST2
              have hp1 : IntKind.i64.wrap (10 * P) = 10 * P := IntWalk.i64_in _ (by omega)
              have hp2 : IntKind.i64.wrap (10 * P + (c.toNat : Int)) = 10 * P + (c.toNat : Int) := IntWalk.i64_in _ (by omega)
              have hp3 : IntKind.i64.wrap (10 * P + (c.toNat : Int) - 48) = 10 * P + (c.toNat : Int) - 48 := IntWalk.i64_in _ (by omega)
              have hp4 : IntKind.i64.wrap (c.toNat : Int) = (c.toNat : Int) := IntWalk.i64_in _ (by omega)
              have HP := Lib.hid hP
              clear hP
              go_wp2
              refine region_plan [12] (takes [0, 1, 2, 3, 4, 5, 6, 7, 8, 9, 10, 11] (.one 12 .done)) (by kernel_rfl) (by kernel_rfl) (by kernel_rfl) (fun _ _ d _ _ h => by cases d <;> exact h) ?_
              simp only [takes]
              iterate 12 ((first | refine take_no rfl rfl ?_ | (refine take_yes rfl rfl ?_; refine ⟨?_, ?_, ?_⟩; rotate_left; · (intro w' hw'; have hc := @Below.cell _ _ _ hw'; have z0 := keep1 hw' hnc; go_simp; first | done | rfl))); try simp only [Act.put, List.setIfInBounds_toArray, List.set_cons_zero, List.set_cons_succ, List.getElem_toArray, List.getElem_cons_zero, List.getElem_cons_succ])
              have hnc2 : wr.drew.cell? ⟨w.heap.size + 1, p, none⟩ = some (.int .i64 P) := hnc
              have hnf2 : wr.drew.frozen? ⟨w.heap.size + 1, p, none⟩ = false := hnf _
              refine loud_yes rfl rfl (fun K hK => ?_)
              go_simp
              refine hK _ _ (.inl rfl) ?_
              clear hK K
              try simp only [Act.put, List.setIfInBounds_toArray, List.set_cons_zero, List.set_cons_succ, List.getElem_toArray, List.getElem_cons_zero, List.getElem_cons_succ]
              refine plan_done ?_
              go_wp2
              go_roundw
              case rel =>
                refine ⟨m + 1, ⟨p + 1, true, upd f p (10 * P + ((c.toNat : Int) - 48))⟩, by omega, by go_num, by simp, rfl, HST.out.trans HST2.out, ?_, ?_, fun j => ?_, fun _ => by simp, by simp; omega, (hB.setCell (by simp) _).drew⟩
                · show _ = _
                  refine (nArr_set (w := wr) HN.out p hg _).trans ?_
                  congr 3
                  funext j
                  by_cases hj : j = p
                  · simp [upd, hj]; omega
                  · simp [upd, hj]
                · show _ = _
                  exact (Below.heap_setCell wr _ _ _ (by simp)).trans HZ.out
                · have := HF.out j
                  by_cases hj : j = p
                  · simp [upd, hj]; omega
                  · simpa [upd, hj] using this
              case measure => simp [intOf]; omega
    · obtain rfl : m = s.size := by omega
      have hsc := HSC.out
      rw [List.take_of_length_le (by rw [Array.length_toList]; exact Nat.le_refl _)] at hsc
      have hmi : ¬ ((s.size : Int) < (s.size : Int)) := by omega
      have HR : Hid (∀ r' : Rep, r'.ok = true → lineB r' = s.data.toList → r' = ⟨f 0, f 1, f 2, f 3, f 4⟩) := fun r' hr he => by
        obtain ⟨st, h, h0, h1, h2, h3, h4⟩ := scan_line r' hr
        rw [he, hsc] at h
        obtain rfl := Option.some.inj h
        simp only at h0 h1 h2 h3 h4
        rw [h0, h1, h2, h3, h4]
      have c0 := nArr_cell HN.out 0 (by omega)
      have c1 := nArr_cell HN.out 1 (by omega)
      have c2 := nArr_cell HN.out 2 (by omega)
      have c3 := nArr_cell HN.out 3 (by omega)
      have c4 := nArr_cell HN.out 4 (by omega)
      have HFT : Hid (Rep.fit ⟨f 0, f 1, f 2, f 3, f 4⟩) := by
        have h0 := HF.out 0
        have h1 := HF.out 1
        have h2 := HF.out 2
        have h3 := HF.out 3
        have h4 := HF.out 4
        exact ⟨⟨h0.1, Int.le_trans h0.2 (by decide)⟩, ⟨h1.1, Int.le_trans h1.2 (by decide)⟩, ⟨h2.1, Int.le_trans h2.2 (by decide)⟩, ⟨h3.1, Int.le_trans h3.2 (by decide)⟩, ⟨h4.1, Int.le_trans h4.2 (by decide)⟩⟩
      clear hsc HF HSC hins
      generalize f 0 = n0 at *
      generalize f 1 = n1 at *
      generalize f 2 = n2 at *
      generalize f 3 = n3 at *
      generalize f 4 = n4 at *
      go_wp2
      clear c0 c1 c2 c3 c4
      generalize hW : wr.alloc (.cells #[.int .i64 n0, .int .i64 n1, .int .i64 n2, .int .i64 n3, .int .i64 n4] 35) = W
      have HBW : Below w.heap.size w W := by rw [← hW]; exact hB.alloc hB.size _
      have HZW : W.heap[w.heap.size]? = some (.cells #[.int .i64 0, .int .i64 0, .int .i64 0, .int .i64 0, .int .i64 0] 35 (0, 0)) := by rw [← hW, Lib.alloc_old _ _ _ (by omega)]; exact HZ.out
      have hwl : w.heap.size < W.heap.size := (Array.getElem?_eq_some_iff.1 HZW).1
      have d0 : W.cell? ⟨wr.heap.size, 0, none⟩ = some (.int .i64 n0) := by rw [← hW]; simp
      have d1 : W.cell? ⟨wr.heap.size, 1, none⟩ = some (.int .i64 n1) := by rw [← hW]; simp
      have d2 : W.cell? ⟨wr.heap.size, 2, none⟩ = some (.int .i64 n2) := by rw [← hW]; simp
      have d3 : W.cell? ⟨wr.heap.size, 3, none⟩ = some (.int .i64 n3) := by rw [← hW]; simp
      have d4 : W.cell? ⟨wr.heap.size, 4, none⟩ = some (.int .i64 n4) := by rw [← hW]; simp
      have dl := World.block_lt_of_cell? W _ d0
      have hwg : w.heap.size < wr.heap.size := by omega
      clear hW HZ HN hB
      cases hone : mayOk n0 n1 n2 n3 n4
      · have HONE := Lib.hid hone
        clear hone
        refine PlanS.region_plan (PlanS.But w.heap.size) [] (takes [0, 1] (.one 2 (takes [3, 4, 6] (.one 5 (takes [7, 8] (.one 9 (takes [10] .done))))))) (by kernel_rfl) (by kernel_rfl) (by kernel_rfl) (fun _ _ d _ _ h => by cases d <;> exact h) ?_
        simp only [takes]
        iterate 2 ((first | refine PlanS.take_no rfl rfl ?_ | (refine PlanS.take_yes rfl rfl ?_; refine ⟨?_, ?_, ?_⟩; rotate_left; · (intro w' hw'; have z0 := PlanS.But.cell hw' d0 (Nat.ne_of_gt hwg); have z1 := PlanS.But.cell hw' d1 (Nat.ne_of_gt hwg); have z2 := PlanS.But.cell hw' d2 (Nat.ne_of_gt hwg); have z3 := PlanS.But.cell hw' d3 (Nat.ne_of_gt hwg); have z4 := PlanS.But.cell hw' d4 (Nat.ne_of_gt hwg); go_simp; first | done | rfl))); try simp only [Act.put, List.setIfInBounds_toArray, List.set_cons_zero, List.set_cons_succ, List.getElem_toArray, List.getElem_cons_zero, List.getElem_cons_succ])
        refine PlanS.loud_yes rfl rfl (fun K hK => ?_)
        go_simp
        refine (one_is _ _ _ _ _ false HONE.out _).mono ?_
        rintro q w2 ⟨rfl, hb⟩
        refine hK _ _ (.inr (PlanS.But.below hb)) ?_
        clear hK K
        try simp only [Act.put, List.setIfInBounds_toArray, List.set_cons_zero, List.set_cons_succ, List.getElem_toArray, List.getElem_cons_zero, List.getElem_cons_succ]
        have HB2 : Below w.heap.size w w2 := HBW.drew.trans (hb.mono HBW.size)
        have HZ2 : w2.heap[w.heap.size]? = some (.cells #[.int .i64 0, .int .i64 0, .int .i64 0, .int .i64 0, .int .i64 0] 35 (0, 0)) := (hb.block _ hwl).trans HZW
        have e0 : w2.cell? ⟨wr.heap.size, 0, none⟩ = some (.int .i64 n0) := keep1 hb d0
        have e1 : w2.cell? ⟨wr.heap.size, 1, none⟩ = some (.int .i64 n1) := keep1 hb d1
        have e2 : w2.cell? ⟨wr.heap.size, 2, none⟩ = some (.int .i64 n2) := keep1 hb d2
        have e3 : w2.cell? ⟨wr.heap.size, 3, none⟩ = some (.int .i64 n3) := keep1 hb d3
        have e4 : w2.cell? ⟨wr.heap.size, 4, none⟩ = some (.int .i64 n4) := keep1 hb d4
        have el := World.block_lt_of_cell? w2 _ e0
        clear hb HZW HBW d0 d1 d2 d3 d4 dl hwl
        iterate 3 ((first | refine PlanS.take_no rfl rfl ?_ | (refine PlanS.take_yes rfl rfl ?_; refine ⟨?_, ?_, ?_⟩; rotate_left; · (intro w' hw'; have z0 := PlanS.But.cell hw' e0 (Nat.ne_of_gt hwg); have z1 := PlanS.But.cell hw' e1 (Nat.ne_of_gt hwg); have z2 := PlanS.But.cell hw' e2 (Nat.ne_of_gt hwg); have z3 := PlanS.But.cell hw' e3 (Nat.ne_of_gt hwg); have z4 := PlanS.But.cell hw' e4 (Nat.ne_of_gt hwg); go_simp; first | done | rfl))); try simp only [Act.put, List.setIfInBounds_toArray, List.set_cons_zero, List.set_cons_succ, List.getElem_toArray, List.getElem_cons_zero, List.getElem_cons_succ])
        refine PlanS.loud_no rfl rfl ?_
        try simp only [Act.put, List.setIfInBounds_toArray, List.set_cons_zero, List.set_cons_succ, List.getElem_toArray, List.getElem_cons_zero, List.getElem_cons_succ]
        have f0 : w2.cell? ⟨w.heap.size, 0, none⟩ = some (.int .i64 0) := by rw [Lib.cell_of_heap HZ2]; rfl
        have f1 : w2.cell? ⟨w.heap.size, 1, none⟩ = some (.int .i64 0) := by rw [Lib.cell_of_heap HZ2]; rfl
        have f2 : w2.cell? ⟨w.heap.size, 2, none⟩ = some (.int .i64 0) := by rw [Lib.cell_of_heap HZ2]; rfl
        have f3 : w2.cell? ⟨w.heap.size, 3, none⟩ = some (.int .i64 0) := by rw [Lib.cell_of_heap HZ2]; rfl
        have f4 : w2.cell? ⟨w.heap.size, 4, none⟩ = some (.int .i64 0) := by rw [Lib.cell_of_heap HZ2]; rfl
        have fl := World.block_lt_of_cell? w2 _ f0
        have ff := Lib.frozen_of_heap HZ2
        iterate 2 ((first | refine PlanS.take_no rfl rfl ?_ | (refine PlanS.take_yes rfl rfl ?_; refine ⟨?_, ?_, ?_⟩; rotate_left; · (intro w' hw'; go_simp; first | done | rfl))); try simp only [Act.put, List.setIfInBounds_toArray, List.set_cons_zero, List.set_cons_succ, List.getElem_toArray, List.getElem_cons_zero, List.getElem_cons_succ])
        refine PlanS.loud_yes rfl rfl (fun K hK => ?_)
        go_simp
        refine hK _ _ (.inr (PlanS.But.set5 _ _ _ _ _)) ?_
        clear hK K
        try simp only [Act.put, List.setIfInBounds_toArray, List.set_cons_zero, List.set_cons_succ, List.getElem_toArray, List.getElem_cons_zero, List.getElem_cons_succ]
        have HBE := below_set5 HB2 (Nat.le_refl _) (.int .i64 n0) (.int .i64 n1) (.int .i64 n2) (.int .i64 n3) (.int .i64 n4)
        have HTE := set5 (x0 := (.int .i64 n0)) (x1 := (.int .i64 n1)) (x2 := (.int .i64 n2)) (x3 := (.int .i64 n3)) (x4 := (.int .i64 n4)) HZ2
        generalize ((((((((((w2).setCell ⟨w.heap.size, 0, none⟩ (.int .i64 n0))).setCell ⟨w.heap.size, 1, none⟩ (.int .i64 n1))).setCell ⟨w.heap.size, 2, none⟩ (.int .i64 n2))).setCell ⟨w.heap.size, 3, none⟩ (.int .i64 n3))).setCell ⟨w.heap.size, 4, none⟩ (.int .i64 n4)) = WE at *
        have y0 : WE.cell? ⟨w.heap.size, 0, none⟩ = some (.int .i64 n0) := by rw [Lib.cell_of_heap HTE]; rfl
        have y1 : WE.cell? ⟨w.heap.size, 1, none⟩ = some (.int .i64 n1) := by rw [Lib.cell_of_heap HTE]; rfl
        have y2 : WE.cell? ⟨w.heap.size, 2, none⟩ = some (.int .i64 n2) := by rw [Lib.cell_of_heap HTE]; rfl
        have y3 : WE.cell? ⟨w.heap.size, 3, none⟩ = some (.int .i64 n3) := by rw [Lib.cell_of_heap HTE]; rfl
        have y4 : WE.cell? ⟨w.heap.size, 4, none⟩ = some (.int .i64 n4) := by rw [Lib.cell_of_heap HTE]; rfl
        have yl := World.block_lt_of_cell? WE _ y0
        clear f0 f1 f2 f3 f4 fl ff
        iterate 1 ((first | refine PlanS.take_no rfl rfl ?_ | (refine PlanS.take_yes rfl rfl ?_; refine ⟨?_, ?_, ?_⟩; rotate_left; · (intro w' hw'; go_simp; first | done | rfl))); try simp only [Act.put, List.setIfInBounds_toArray, List.set_cons_zero, List.set_cons_succ, List.getElem_toArray, List.getElem_cons_zero, List.getElem_cons_succ])
        refine PlanS.plan_done ?_
        go_wp2
        refine bodyPost_ret (v := .tuple #[.agg #[.int .i64 n0, .int .i64 n1, .int .i64 n2, .int .i64 n3, .int .i64 n4], .bool false]) (by simp [results, Tryd.results16, go_sem, y0, y1, y2, y3, y4, yl]) rfl ⟨⟨⟨n0, n1, n2, n3, n4⟩, false, rfl, ⟨(fun h => by cases h), fun _ r' h1 h2 => by have h3 := HR.out r' h1 h2; subst h3; exact absurd ((show mayOk n0 n1 n2 n3 n4 = true from h1).symm.trans HONE.out) (by simp)⟩⟩, HBE⟩
      · have HONE := Lib.hid hone
        clear hone
        obtain ⟨ln, hln⟩ : ∃ ln : ByteArray, (⟨(lineB ⟨n0, n1, n2, n3, n4⟩).toArray⟩ : ByteArray) = ln := ⟨_, rfl⟩
        have HLN := Lib.hid hln
        clear hln
        by_cases hq : ln = s
        · subst hq
          refine PlanS.region_plan (PlanS.But w.heap.size) [] (takes [0, 1] (.one 2 (takes [3, 4, 6] (.one 5 (takes [7, 8] (.one 9 (takes [10] .done))))))) (by kernel_rfl) (by kernel_rfl) (by kernel_rfl) (fun _ _ d _ _ h => by cases d <;> exact h) ?_
          simp only [takes]
          iterate 2 ((first | refine PlanS.take_no rfl rfl ?_ | (refine PlanS.take_yes rfl rfl ?_; refine ⟨?_, ?_, ?_⟩; rotate_left; · (intro w' hw'; have z0 := PlanS.But.cell hw' d0 (Nat.ne_of_gt hwg); have z1 := PlanS.But.cell hw' d1 (Nat.ne_of_gt hwg); have z2 := PlanS.But.cell hw' d2 (Nat.ne_of_gt hwg); have z3 := PlanS.But.cell hw' d3 (Nat.ne_of_gt hwg); have z4 := PlanS.But.cell hw' d4 (Nat.ne_of_gt hwg); go_simp; first | done | rfl))); try simp only [Act.put, List.setIfInBounds_toArray, List.set_cons_zero, List.set_cons_succ, List.getElem_toArray, List.getElem_cons_zero, List.getElem_cons_succ])
          refine PlanS.loud_yes rfl rfl (fun K hK => ?_)
          go_simp
          refine (one_is _ _ _ _ _ true HONE.out _).mono ?_
          rintro q w2 ⟨rfl, hb⟩
          refine hK _ _ (.inr (PlanS.But.below hb)) ?_
          clear hK K
          try simp only [Act.put, List.setIfInBounds_toArray, List.set_cons_zero, List.set_cons_succ, List.getElem_toArray, List.getElem_cons_zero, List.getElem_cons_succ]
          have HB2 : Below w.heap.size w w2 := HBW.drew.trans (hb.mono HBW.size)
          have HZ2 : w2.heap[w.heap.size]? = some (.cells #[.int .i64 0, .int .i64 0, .int .i64 0, .int .i64 0, .int .i64 0] 35 (0, 0)) := (hb.block _ hwl).trans HZW
          have e0 : w2.cell? ⟨wr.heap.size, 0, none⟩ = some (.int .i64 n0) := keep1 hb d0
          have e1 : w2.cell? ⟨wr.heap.size, 1, none⟩ = some (.int .i64 n1) := keep1 hb d1
          have e2 : w2.cell? ⟨wr.heap.size, 2, none⟩ = some (.int .i64 n2) := keep1 hb d2
          have e3 : w2.cell? ⟨wr.heap.size, 3, none⟩ = some (.int .i64 n3) := keep1 hb d3
          have e4 : w2.cell? ⟨wr.heap.size, 4, none⟩ = some (.int .i64 n4) := keep1 hb d4
          have el := World.block_lt_of_cell? w2 _ e0
          clear hb HZW HBW d0 d1 d2 d3 d4 dl hwl
          iterate 3 ((first | refine PlanS.take_no rfl rfl ?_ | (refine PlanS.take_yes rfl rfl ?_; refine ⟨?_, ?_, ?_⟩; rotate_left; · (intro w' hw'; have z0 := PlanS.But.cell hw' e0 (Nat.ne_of_gt hwg); have z1 := PlanS.But.cell hw' e1 (Nat.ne_of_gt hwg); have z2 := PlanS.But.cell hw' e2 (Nat.ne_of_gt hwg); have z3 := PlanS.But.cell hw' e3 (Nat.ne_of_gt hwg); have z4 := PlanS.But.cell hw' e4 (Nat.ne_of_gt hwg); go_simp; first | done | rfl))); try simp only [Act.put, List.setIfInBounds_toArray, List.set_cons_zero, List.set_cons_succ, List.getElem_toArray, List.getElem_cons_zero, List.getElem_cons_succ])
          refine PlanS.loud_yes rfl rfl (fun K hK => ?_)
          go_simp
          refine (Line_is ⟨n0, n1, n2, n3, n4⟩ _ HFT.out ln HLN.out).mono ?_
          rintro q w3 ⟨rfl, hb⟩
          refine hK _ _ (.inr (PlanS.But.below hb)) ?_
          clear hK K
          try simp only [Act.put, List.setIfInBounds_toArray, List.set_cons_zero, List.set_cons_succ, List.getElem_toArray, List.getElem_cons_zero, List.getElem_cons_succ]
          have hwl2 : w.heap.size < w2.heap.size := (Array.getElem?_eq_some_iff.1 HZ2).1
          have HB3 : Below w.heap.size w w3 := HB2.trans (hb.mono HB2.size)
          have HZ3 : w3.heap[w.heap.size]? = some (.cells #[.int .i64 0, .int .i64 0, .int .i64 0, .int .i64 0, .int .i64 0] 35 (0, 0)) := (hb.block _ hwl2).trans HZ2
          clear hb
          have f0 : w3.cell? ⟨w.heap.size, 0, none⟩ = some (.int .i64 0) := by rw [Lib.cell_of_heap HZ3]; rfl
          have f1 : w3.cell? ⟨w.heap.size, 1, none⟩ = some (.int .i64 0) := by rw [Lib.cell_of_heap HZ3]; rfl
          have f2 : w3.cell? ⟨w.heap.size, 2, none⟩ = some (.int .i64 0) := by rw [Lib.cell_of_heap HZ3]; rfl
          have f3 : w3.cell? ⟨w.heap.size, 3, none⟩ = some (.int .i64 0) := by rw [Lib.cell_of_heap HZ3]; rfl
          have f4 : w3.cell? ⟨w.heap.size, 4, none⟩ = some (.int .i64 0) := by rw [Lib.cell_of_heap HZ3]; rfl
          have fl := World.block_lt_of_cell? w3 _ f0
          have ff := Lib.frozen_of_heap HZ3
          iterate 2 ((first | refine PlanS.take_no rfl rfl ?_ | (refine PlanS.take_yes rfl rfl ?_; refine ⟨?_, ?_, ?_⟩; rotate_left; · (intro w' hw'; go_simp; first | done | rfl))); try simp only [Act.put, List.setIfInBounds_toArray, List.set_cons_zero, List.set_cons_succ, List.getElem_toArray, List.getElem_cons_zero, List.getElem_cons_succ])
          refine PlanS.loud_yes rfl rfl (fun K hK => ?_)
          go_simp
          refine hK _ _ (.inr (PlanS.But.set5 _ _ _ _ _)) ?_
          clear hK K
          try simp only [Act.put, List.setIfInBounds_toArray, List.set_cons_zero, List.set_cons_succ, List.getElem_toArray, List.getElem_cons_zero, List.getElem_cons_succ]
          have HBE := below_set5 HB3 (Nat.le_refl _) (.int .i64 n0) (.int .i64 n1) (.int .i64 n2) (.int .i64 n3) (.int .i64 n4)
          have HTE := set5 (x0 := (.int .i64 n0)) (x1 := (.int .i64 n1)) (x2 := (.int .i64 n2)) (x3 := (.int .i64 n3)) (x4 := (.int .i64 n4)) HZ3
          generalize ((((((((((w3).setCell ⟨w.heap.size, 0, none⟩ (.int .i64 n0))).setCell ⟨w.heap.size, 1, none⟩ (.int .i64 n1))).setCell ⟨w.heap.size, 2, none⟩ (.int .i64 n2))).setCell ⟨w.heap.size, 3, none⟩ (.int .i64 n3))).setCell ⟨w.heap.size, 4, none⟩ (.int .i64 n4)) = WE at *
          have y0 : WE.cell? ⟨w.heap.size, 0, none⟩ = some (.int .i64 n0) := by rw [Lib.cell_of_heap HTE]; rfl
          have y1 : WE.cell? ⟨w.heap.size, 1, none⟩ = some (.int .i64 n1) := by rw [Lib.cell_of_heap HTE]; rfl
          have y2 : WE.cell? ⟨w.heap.size, 2, none⟩ = some (.int .i64 n2) := by rw [Lib.cell_of_heap HTE]; rfl
          have y3 : WE.cell? ⟨w.heap.size, 3, none⟩ = some (.int .i64 n3) := by rw [Lib.cell_of_heap HTE]; rfl
          have y4 : WE.cell? ⟨w.heap.size, 4, none⟩ = some (.int .i64 n4) := by rw [Lib.cell_of_heap HTE]; rfl
          have yl := World.block_lt_of_cell? WE _ y0
          clear f0 f1 f2 f3 f4 fl ff
          iterate 1 ((first | refine PlanS.take_no rfl rfl ?_ | (refine PlanS.take_yes rfl rfl ?_; refine ⟨?_, ?_, ?_⟩; rotate_left; · (intro w' hw'; go_simp; first | done | rfl))); try simp only [Act.put, List.setIfInBounds_toArray, List.set_cons_zero, List.set_cons_succ, List.getElem_toArray, List.getElem_cons_zero, List.getElem_cons_succ])
          refine PlanS.plan_done ?_
          go_wp2
          refine bodyPost_ret (v := .tuple #[.agg #[.int .i64 n0, .int .i64 n1, .int .i64 n2, .int .i64 n3, .int .i64 n4], .bool true]) (by simp [results, Tryd.results16, go_sem, y0, y1, y2, y3, y4, yl]) rfl ⟨⟨⟨n0, n1, n2, n3, n4⟩, true, rfl, ⟨fun _ => ⟨HONE.out, by rw [← HLN.out]⟩, fun h => by cases h⟩⟩, HBE⟩
        · have HQ := Lib.hid hq
          have hql := list_ne hq
          refine PlanS.region_plan (PlanS.But w.heap.size) [] (takes [0, 1] (.one 2 (takes [3, 4, 6] (.one 5 (takes [7, 8] (.one 9 (takes [10] .done))))))) (by kernel_rfl) (by kernel_rfl) (by kernel_rfl) (fun _ _ d _ _ h => by cases d <;> exact h) ?_
          simp only [takes]
          iterate 2 ((first | refine PlanS.take_no rfl rfl ?_ | (refine PlanS.take_yes rfl rfl ?_; refine ⟨?_, ?_, ?_⟩; rotate_left; · (intro w' hw'; have z0 := PlanS.But.cell hw' d0 (Nat.ne_of_gt hwg); have z1 := PlanS.But.cell hw' d1 (Nat.ne_of_gt hwg); have z2 := PlanS.But.cell hw' d2 (Nat.ne_of_gt hwg); have z3 := PlanS.But.cell hw' d3 (Nat.ne_of_gt hwg); have z4 := PlanS.But.cell hw' d4 (Nat.ne_of_gt hwg); go_simp; first | done | rfl))); try simp only [Act.put, List.setIfInBounds_toArray, List.set_cons_zero, List.set_cons_succ, List.getElem_toArray, List.getElem_cons_zero, List.getElem_cons_succ])
          refine PlanS.loud_yes rfl rfl (fun K hK => ?_)
          go_simp
          refine (one_is _ _ _ _ _ true HONE.out _).mono ?_
          rintro q w2 ⟨rfl, hb⟩
          refine hK _ _ (.inr (PlanS.But.below hb)) ?_
          clear hK K
          try simp only [Act.put, List.setIfInBounds_toArray, List.set_cons_zero, List.set_cons_succ, List.getElem_toArray, List.getElem_cons_zero, List.getElem_cons_succ]
          have HB2 : Below w.heap.size w w2 := HBW.drew.trans (hb.mono HBW.size)
          have HZ2 : w2.heap[w.heap.size]? = some (.cells #[.int .i64 0, .int .i64 0, .int .i64 0, .int .i64 0, .int .i64 0] 35 (0, 0)) := (hb.block _ hwl).trans HZW
          have e0 : w2.cell? ⟨wr.heap.size, 0, none⟩ = some (.int .i64 n0) := keep1 hb d0
          have e1 : w2.cell? ⟨wr.heap.size, 1, none⟩ = some (.int .i64 n1) := keep1 hb d1
          have e2 : w2.cell? ⟨wr.heap.size, 2, none⟩ = some (.int .i64 n2) := keep1 hb d2
          have e3 : w2.cell? ⟨wr.heap.size, 3, none⟩ = some (.int .i64 n3) := keep1 hb d3
          have e4 : w2.cell? ⟨wr.heap.size, 4, none⟩ = some (.int .i64 n4) := keep1 hb d4
          have el := World.block_lt_of_cell? w2 _ e0
          clear hb HZW HBW d0 d1 d2 d3 d4 dl hwl
          iterate 3 ((first | refine PlanS.take_no rfl rfl ?_ | (refine PlanS.take_yes rfl rfl ?_; refine ⟨?_, ?_, ?_⟩; rotate_left; · (intro w' hw'; have z0 := PlanS.But.cell hw' e0 (Nat.ne_of_gt hwg); have z1 := PlanS.But.cell hw' e1 (Nat.ne_of_gt hwg); have z2 := PlanS.But.cell hw' e2 (Nat.ne_of_gt hwg); have z3 := PlanS.But.cell hw' e3 (Nat.ne_of_gt hwg); have z4 := PlanS.But.cell hw' e4 (Nat.ne_of_gt hwg); go_simp; first | done | rfl))); try simp only [Act.put, List.setIfInBounds_toArray, List.set_cons_zero, List.set_cons_succ, List.getElem_toArray, List.getElem_cons_zero, List.getElem_cons_succ])
          refine PlanS.loud_yes rfl rfl (fun K hK => ?_)
          go_simp
          refine (Line_is ⟨n0, n1, n2, n3, n4⟩ _ HFT.out ln HLN.out).mono ?_
          rintro q w3 ⟨rfl, hb⟩
          refine hK _ _ (.inr (PlanS.But.below hb)) ?_
          clear hK K
          try simp only [Act.put, List.setIfInBounds_toArray, List.set_cons_zero, List.set_cons_succ, List.getElem_toArray, List.getElem_cons_zero, List.getElem_cons_succ]
          have hwl2 : w.heap.size < w2.heap.size := (Array.getElem?_eq_some_iff.1 HZ2).1
          have HB3 : Below w.heap.size w w3 := HB2.trans (hb.mono HB2.size)
          have HZ3 : w3.heap[w.heap.size]? = some (.cells #[.int .i64 0, .int .i64 0, .int .i64 0, .int .i64 0, .int .i64 0] 35 (0, 0)) := (hb.block _ hwl2).trans HZ2
          clear hb
          have f0 : w3.cell? ⟨w.heap.size, 0, none⟩ = some (.int .i64 0) := by rw [Lib.cell_of_heap HZ3]; rfl
          have f1 : w3.cell? ⟨w.heap.size, 1, none⟩ = some (.int .i64 0) := by rw [Lib.cell_of_heap HZ3]; rfl
          have f2 : w3.cell? ⟨w.heap.size, 2, none⟩ = some (.int .i64 0) := by rw [Lib.cell_of_heap HZ3]; rfl
          have f3 : w3.cell? ⟨w.heap.size, 3, none⟩ = some (.int .i64 0) := by rw [Lib.cell_of_heap HZ3]; rfl
          have f4 : w3.cell? ⟨w.heap.size, 4, none⟩ = some (.int .i64 0) := by rw [Lib.cell_of_heap HZ3]; rfl
          have fl := World.block_lt_of_cell? w3 _ f0
          have ff := Lib.frozen_of_heap HZ3
          iterate 2 ((first | refine PlanS.take_no rfl rfl ?_ | (refine PlanS.take_yes rfl rfl ?_; refine ⟨?_, ?_, ?_⟩; rotate_left; · (intro w' hw'; go_simp; first | done | rfl))); try simp only [Act.put, List.setIfInBounds_toArray, List.set_cons_zero, List.set_cons_succ, List.getElem_toArray, List.getElem_cons_zero, List.getElem_cons_succ])
          refine PlanS.loud_yes rfl rfl (fun K hK => ?_)
          go_simp
          refine hK _ _ (.inr (PlanS.But.set5 _ _ _ _ _)) ?_
          clear hK K
          try simp only [Act.put, List.setIfInBounds_toArray, List.set_cons_zero, List.set_cons_succ, List.getElem_toArray, List.getElem_cons_zero, List.getElem_cons_succ]
          have HBE := below_set5 HB3 (Nat.le_refl _) (.int .i64 n0) (.int .i64 n1) (.int .i64 n2) (.int .i64 n3) (.int .i64 n4)
          have HTE := set5 (x0 := (.int .i64 n0)) (x1 := (.int .i64 n1)) (x2 := (.int .i64 n2)) (x3 := (.int .i64 n3)) (x4 := (.int .i64 n4)) HZ3
          generalize ((((((((((w3).setCell ⟨w.heap.size, 0, none⟩ (.int .i64 n0))).setCell ⟨w.heap.size, 1, none⟩ (.int .i64 n1))).setCell ⟨w.heap.size, 2, none⟩ (.int .i64 n2))).setCell ⟨w.heap.size, 3, none⟩ (.int .i64 n3))).setCell ⟨w.heap.size, 4, none⟩ (.int .i64 n4)) = WE at *
          have y0 : WE.cell? ⟨w.heap.size, 0, none⟩ = some (.int .i64 n0) := by rw [Lib.cell_of_heap HTE]; rfl
          have y1 : WE.cell? ⟨w.heap.size, 1, none⟩ = some (.int .i64 n1) := by rw [Lib.cell_of_heap HTE]; rfl
          have y2 : WE.cell? ⟨w.heap.size, 2, none⟩ = some (.int .i64 n2) := by rw [Lib.cell_of_heap HTE]; rfl
          have y3 : WE.cell? ⟨w.heap.size, 3, none⟩ = some (.int .i64 n3) := by rw [Lib.cell_of_heap HTE]; rfl
          have y4 : WE.cell? ⟨w.heap.size, 4, none⟩ = some (.int .i64 n4) := by rw [Lib.cell_of_heap HTE]; rfl
          have yl := World.block_lt_of_cell? WE _ y0
          clear f0 f1 f2 f3 f4 fl ff
          iterate 1 ((first | refine PlanS.take_no rfl rfl ?_ | (refine PlanS.take_yes rfl rfl ?_; refine ⟨?_, ?_, ?_⟩; rotate_left; · (intro w' hw'; go_simp; first | done | rfl))); try simp only [Act.put, List.setIfInBounds_toArray, List.set_cons_zero, List.set_cons_succ, List.getElem_toArray, List.getElem_cons_zero, List.getElem_cons_succ])
          refine PlanS.plan_done ?_
          go_wp2
          refine bodyPost_ret (v := .tuple #[.agg #[.int .i64 n0, .int .i64 n1, .int .i64 n2, .int .i64 n3, .int .i64 n4], .bool false]) (by simp [results, Tryd.results16, go_sem, y0, y1, y2, y3, y4, yl, hql]) rfl ⟨⟨⟨n0, n1, n2, n3, n4⟩, false, rfl, ⟨(fun h => by cases h), fun _ r' h1 h2 => HQ.out (by rw [← HLN.out, ← HR.out r' h1 h2]; exact ba_ext (by rw [← h2]))⟩⟩, HBE⟩

end Go.Proofs.YtohhkoojjelghaaDoor
