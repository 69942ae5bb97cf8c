/- The document's own line. -/
import Derived.Test.YtohhkoojjelghaaDoorI
set_option linter.unusedSimpArgs false
set_option linter.unusedVariables false
namespace Go.Proofs.YtohhkoojjelghaaDoor
open Go.RowKit Go.Plan Go.Sort

theorem dec_size (n : Int) (h : n ≤ 4611686018427387904) : (dec n).size ≤ 19 := by
  have := dec_len' n h
  rwa [Array.length_toList] at this
set_option maxHeartbeats 4000000 in
theorem Line_any (r : Rep) (w : World) (hf : r.fit) :
    Calls Tryd.prog 25 #[r.val] w fun e w' => e = .returned (.string ⟨(lineB r).toArray⟩) ∧ Below w.heap.size w w' := by
  obtain ⟨hf0, hf1, hf2, hf3, hf4⟩ := hf
  unfold Rep.val
  go_enter Tryd.func25, Tryd.ntmps25
  go_wp2
  obtain ⟨W, hW⟩ : ∃ W, W = w.alloc (.cells #[.int .i64 r.a, .int .i64 r.b, .int .i64 r.c, .int .i64 r.d, .int .i64 r.e] 35) := ⟨_, rfl⟩
  have HB : Below w.heap.size w W := by rw [hW]; exact (Below.refl _ _).alloc (Nat.le_refl _) _
  have c0 : W.cell? ⟨w.heap.size, 0, none⟩ = some (.int .i64 r.a) := by rw [hW]; simp
  have c1 : W.cell? ⟨w.heap.size, 1, none⟩ = some (.int .i64 r.b) := by rw [hW]; simp
  have c2 : W.cell? ⟨w.heap.size, 2, none⟩ = some (.int .i64 r.c) := by rw [hW]; simp
  have c3 : W.cell? ⟨w.heap.size, 3, none⟩ = some (.int .i64 r.d) := by rw [hW]; simp
  have c4 : W.cell? ⟨w.heap.size, 4, none⟩ = some (.int .i64 r.e) := by rw [hW]; simp
  have hwl := World.block_lt_of_cell? W _ c0
  rw [← hW]
  clear hW
  refine region_plan [] (takes [0, 1, 5, 6, 10, 11, 15, 16, 20, 21] (.one 2 (takes [3, 4] (.one 7 (takes [8, 9] (.one 12 (takes [13, 14] (.one 17 (takes [18, 19] (.one 22 (takes [23, 24, 25] .done))))))))))) (by kernel_rfl) (by kernel_rfl) (by kernel_rfl) (fun _ _ d _ _ h => by cases d <;> exact h) ?_
  simp only [takes]
  iterate 10 ((first | refine take_no rfl rfl ?_ | (refine take_yes rfl rfl ?_; refine ⟨?_, ?_, ?_⟩; rotate_left; · (intro w' hw'; have hc := @Below.cell _ _ _ hw'; have z0 := keep1 hw' c0; have z1 := keep1 hw' c1; have z2 := keep1 hw' c2; have z3 := keep1 hw' c3; have z4 := keep1 hw' c4; go_simp; first | done | rfl))); try simp only [Act.put, List.setIfInBounds_toArray, List.set_cons_zero, List.set_cons_succ, List.getElem_toArray, List.getElem_cons_zero, List.getElem_cons_succ])
  refine loud_yes rfl rfl (fun K hK => ?_)
  go_simp
  refine (Dec_any _ _ hf0.1 hf0.2).mono ?_
  rintro q w1 ⟨rfl, hb0⟩
  refine hK _ _ (.inr hb0) ?_
  clear hK K
  try simp only [Act.put, List.setIfInBounds_toArray, List.set_cons_zero, List.set_cons_succ, List.getElem_toArray, List.getElem_cons_zero, List.getElem_cons_succ]
  have HB1 : Below w.heap.size w w1 := HB.drew.trans (hb0.mono HB.drew.size)
  clear hb0
  have hn0 : (dec r.a).size ≤ 19 := dec_size _ hf0.2
  have g0 : ¬ (9223372036854775807 < 6 + (dec r.a).size) := by omega
  have g0' : ¬ (9223372036854775807 < 6 + (dec r.a).size + 6) := by omega
  iterate 2 ((first | refine take_no rfl rfl ?_ | (refine take_yes rfl rfl ?_; refine ⟨?_, ?_, ?_⟩; rotate_left; · (intro w' hw'; have hc := @Below.cell _ _ _ hw'; go_simp; first | done | rfl))); try simp only [Act.put, List.setIfInBounds_toArray, List.set_cons_zero, List.set_cons_succ, List.getElem_toArray, List.getElem_cons_zero, List.getElem_cons_succ])
  refine loud_yes rfl rfl (fun K hK => ?_)
  go_simp
  refine (Dec_any _ _ hf1.1 hf1.2).mono ?_
  rintro q w2 ⟨rfl, hb1⟩
  refine hK _ _ (.inr hb1) ?_
  clear hK K
  try simp only [Act.put, List.setIfInBounds_toArray, List.set_cons_zero, List.set_cons_succ, List.getElem_toArray, List.getElem_cons_zero, List.getElem_cons_succ]
  have HB2 : Below w.heap.size w w2 := HB1.trans (hb1.mono HB1.size)
  clear hb1
  have hn1 : (dec r.b).size ≤ 19 := dec_size _ hf1.2
  have g1 : ¬ (9223372036854775807 < 6 + (dec r.a).size + 6 + (dec r.b).size) := by omega
  have g1' : ¬ (9223372036854775807 < 6 + (dec r.a).size + 6 + (dec r.b).size + 6) := by omega
  iterate 2 ((first | refine take_no rfl rfl ?_ | (refine take_yes rfl rfl ?_; refine ⟨?_, ?_, ?_⟩; rotate_left; · (intro w' hw'; have hc := @Below.cell _ _ _ hw'; go_simp; first | done | rfl))); try simp only [Act.put, List.setIfInBounds_toArray, List.set_cons_zero, List.set_cons_succ, List.getElem_toArray, List.getElem_cons_zero, List.getElem_cons_succ])
  refine loud_yes rfl rfl (fun K hK => ?_)
  go_simp
  refine (Dec_any _ _ hf2.1 hf2.2).mono ?_
  rintro q w3 ⟨rfl, hb2⟩
  refine hK _ _ (.inr hb2) ?_
  clear hK K
  try simp only [Act.put, List.setIfInBounds_toArray, List.set_cons_zero, List.set_cons_succ, List.getElem_toArray, List.getElem_cons_zero, List.getElem_cons_succ]
  have HB3 : Below w.heap.size w w3 := HB2.trans (hb2.mono HB2.size)
  clear hb2
  have hn2 : (dec r.c).size ≤ 19 := dec_size _ hf2.2
  have g2 : ¬ (9223372036854775807 < 6 + (dec r.a).size + 6 + (dec r.b).size + 6 + (dec r.c).size) := by omega
  have g2' : ¬ (9223372036854775807 < 6 + (dec r.a).size + 6 + (dec r.b).size + 6 + (dec r.c).size + 10) := by omega
  iterate 2 ((first | refine take_no rfl rfl ?_ | (refine take_yes rfl rfl ?_; refine ⟨?_, ?_, ?_⟩; rotate_left; · (intro w' hw'; have hc := @Below.cell _ _ _ hw'; go_simp; first | done | rfl))); try simp only [Act.put, List.setIfInBounds_toArray, List.set_cons_zero, List.set_cons_succ, List.getElem_toArray, List.getElem_cons_zero, List.getElem_cons_succ])
  refine loud_yes rfl rfl (fun K hK => ?_)
  go_simp
  refine (Dec_any _ _ hf3.1 hf3.2).mono ?_
  rintro q w4 ⟨rfl, hb3⟩
  refine hK _ _ (.inr hb3) ?_
  clear hK K
  try simp only [Act.put, List.setIfInBounds_toArray, List.set_cons_zero, List.set_cons_succ, List.getElem_toArray, List.getElem_cons_zero, List.getElem_cons_succ]
  have HB4 : Below w.heap.size w w4 := HB3.trans (hb3.mono HB3.size)
  clear hb3
  have hn3 : (dec r.d).size ≤ 19 := dec_size _ hf3.2
  have g3 : ¬ (9223372036854775807 < 6 + (dec r.a).size + 6 + (dec r.b).size + 6 + (dec r.c).size + 10 + (dec r.d).size) := by omega
  have g3' : ¬ (9223372036854775807 < 6 + (dec r.a).size + 6 + (dec r.b).size + 6 + (dec r.c).size + 10 + (dec r.d).size + 7) := by omega
  iterate 2 ((first | refine take_no rfl rfl ?_ | (refine take_yes rfl rfl ?_; refine ⟨?_, ?_, ?_⟩; rotate_left; · (intro w' hw'; have hc := @Below.cell _ _ _ hw'; go_simp; first | done | rfl))); try simp only [Act.put, List.setIfInBounds_toArray, List.set_cons_zero, List.set_cons_succ, List.getElem_toArray, List.getElem_cons_zero, List.getElem_cons_succ])
  refine loud_yes rfl rfl (fun K hK => ?_)
  go_simp
  refine (Dec_any _ _ hf4.1 hf4.2).mono ?_
  rintro q w5 ⟨rfl, hb4⟩
  refine hK _ _ (.inr hb4) ?_
  clear hK K
  try simp only [Act.put, List.setIfInBounds_toArray, List.set_cons_zero, List.set_cons_succ, List.getElem_toArray, List.getElem_cons_zero, List.getElem_cons_succ]
  have HB5 : Below w.heap.size w w5 := HB4.trans (hb4.mono HB4.size)
  clear hb4
  have hn4 : (dec r.e).size ≤ 19 := dec_size _ hf4.2
  have g4 : ¬ (9223372036854775807 < 6 + (dec r.a).size + 6 + (dec r.b).size + 6 + (dec r.c).size + 10 + (dec r.d).size + 7 + (dec r.e).size) := by omega
  have g4' : ¬ (9223372036854775807 < 6 + (dec r.a).size + 6 + (dec r.b).size + 6 + (dec r.c).size + 10 + (dec r.d).size + 7 + (dec r.e).size + 1) := by omega
  iterate 3 ((first | refine take_no rfl rfl ?_ | (refine take_yes rfl rfl ?_; refine ⟨?_, ?_, ?_⟩; rotate_left; · (intro w' hw'; have hc := @Below.cell _ _ _ hw'; go_simp; first | done | rfl))); try simp only [Act.put, List.setIfInBounds_toArray, List.set_cons_zero, List.set_cons_succ, List.getElem_toArray, List.getElem_cons_zero, List.getElem_cons_succ])
  refine plan_done ?_
  go_wp2
  go_ret
  refine ⟨ret_str (ba_ext ?_), HB5⟩
  simp [lineB, lineS, words, Lib.join, List.intercalate, List.intersperse, nm0, nm1, nm2, nm3, nm4, ByteArray.data_append]

end Go.Proofs.YtohhkoojjelghaaDoor
