/- report.numbers, report.may, report.May: what each call answers, of whatever reports; nothing that was there turns. -/
import Derived.Test.YtohhkoojjelghaaDoorProg
import Derived.WalkKit
import Derived.WalkSpells
import Derived.WalkLawsBesides
import Derived.Deep.LoopGhost
import Derived.Deep.QuietTactic
import Derived.BigQuiet
import Derived.Lib.Hide
import Derived.Deep.RegionHeld3
import Derived.Test.YtohhkoojjelghaaDoorRg
set_option linter.unusedSimpArgs false
set_option linter.unusedVariables false
namespace Go.Proofs.YtohhkoojjelghaaDoor
open Go.RowKit Go.Plan

set_option maxHeartbeats 400000 in
theorem numbers_any (a b c d e : Int) (w : World) :
    Calls Tryd.prog 27 #[.agg #[.int .i64 a, .int .i64 b, .int .i64 c, .int .i64 d, .int .i64 e]] w fun r w' => r = .returned (.agg #[.int .i64 a, .int .i64 b, .int .i64 c, .int .i64 d, .int .i64 e]) ∧ Below w.heap.size w w' := by
  go_enter Tryd.func27, Tryd.ntmps27
  go_wp2
  refine bodyPost_ret (v := .agg #[.int .i64 a, .int .i64 b, .int .i64 c, .int .i64 d, .int .i64 e]) (by simp [results, Tryd.results27, go_sem]) rfl ⟨rfl, ?_⟩
  exact ((Below.refl _ _).alloc (Nat.le_refl _) _).alloc (by simp) _



theorem ret_bool {a b : Bool} (h : a = b) : Ending.returned (.bool a) = .returned (.bool b) := by rw [h]
theorem ret_int {k : IntKind} {a b : Int} (h : a = b) : Ending.returned (.int k a) = .returned (.int k b) := by rw [h]
theorem ret_str {a b : ByteArray} (h : a = b) : Ending.returned (.string a) = .returned (.string b) := by rw [h]
def nOk (n : Int) : Bool := decide (0 ≤ n) && decide (n ≤ 1099511627776)
def mayOk (a b c d e : Int) : Bool := nOk a && nOk b && nOk c && nOk d && nOk e && decide (d ≤ c)
theorem may_no (a b c d e : Int) (k : Nat) (hk : k < 5) (h : nOk (([a, b, c, d, e] : List Int).getD k 0) = false) : mayOk a b c d e = false := by
  match k, hk with
  | 0, _ => simp at h; simp [mayOk, h]
  | 1, _ => simp at h; simp [mayOk, h]
  | 2, _ => simp at h; simp [mayOk, h]
  | 3, _ => simp at h; simp [mayOk, h]
  | 4, _ => simp at h; simp [mayOk, h]
theorem may_yes (a b c d e : Int) (h : ∀ j, j < 5 → nOk (([a, b, c, d, e] : List Int).getD j 0) = true) : mayOk a b c d e = decide (d ≤ c) := by
  have h0 := h 0 (by omega)
  have h1 := h 1 (by omega)
  have h2 := h 2 (by omega)
  have h3 := h 3 (by omega)
  have h4 := h 4 (by omega)
  simp at h0 h1 h2 h3 h4
  simp [mayOk, h0, h1, h2, h3, h4]
theorem idx5 (a b c d e : Int) (k : Nat) (hk : k < 5) : ∀ w : World, (Instr.index 58 (.agg #[.int .i64 a, .int .i64 b, .int .i64 c, .int .i64 d, .int .i64 e]) (.int .i64 (k : Int))).run Tryd.prog w = .ok (.int .i64 ([a, b, c, d, e].getD k 0)) w := by
  intro w
  match k, hk with
  | 0, _ => rfl
  | 1, _ => rfl
  | 2, _ => rfl
  | 3, _ => rfl
  | 4, _ => rfl

set_option maxHeartbeats 400000 in
theorem may_any (a b c d e : Int) (w : World) :
    Calls Tryd.prog 22 #[.agg #[.int .i64 a, .int .i64 b, .int .i64 c, .int .i64 d, .int .i64 e]] w fun r w' => r = .returned (.bool (mayOk a b c d e)) ∧ Below w.heap.size w w' := by
  go_enter Tryd.func22, Tryd.ntmps22
  go_wp2_with (go_at_call 27; refine (numbers_any _ _ _ _ _ _).mono ?_; rintro r w1 ⟨rfl, hb⟩)
  have c3 : w1.cell? ⟨w.heap.size, 3, none⟩ = some (.int .i64 d) := by rw [hb.cell (by simp)]; simp
  have c2 : w1.cell? ⟨w.heap.size, 2, none⟩ = some (.int .i64 c) := by rw [hb.cell (by simp)]; simp
  have hB : Below w.heap.size w w1 := ((Below.refl _ _).alloc (Nat.le_refl _) _).trans (hb.mono (by simp))
  clear hb
  go_loop [7] (fun i => ∃ k : Nat, k ≤ 5 ∧ i = .int .i64 k ∧ Hid (∀ j, j < k → nOk (([a, b, c, d, e] : List Int).getD j 0) = true)) (fun i => 5 - (intOf i).toNat)
  case atStart => exact ⟨0, by omega, rfl, fun j hj => by omega⟩
  case round =>
    obtain ⟨k, hk, rfl, HK⟩ := hrel
    by_cases hlt : k < 5
    · have hix := idx5 a b c d e k hlt
      generalize hx : ([a, b, c, d, e] : List Int).getD k 0 = x at *
      have HX := Lib.hid hx
      clear hx
      have hno : nOk x = false → mayOk a b c d e = false := fun h => may_no a b c d e k hlt (by rw [HX.out]; exact h)
      have hyes : nOk x = true → ∀ j, j < k + 1 → nOk (([a, b, c, d, e] : List Int).getD j 0) = true := fun h j hj => by
        rcases Nat.lt_or_ge j k with h' | h'
        · exact HK.out j h'
        · obtain rfl : j = k := by omega
          rw [HX.out]; exact h
      have HN := Lib.hid hno
      have HY := Lib.hid hyes
      clear hno hyes
      by_cases h0 : x < 0
      · go_wp2
        go_ret
        exact ⟨ret_bool (HN.out (by simp [nOk]; omega)).symm, hB⟩
      · by_cases h1 : x > 1099511627776
        · go_wp2
          go_ret
          exact ⟨ret_bool (HN.out (by simp [nOk]; omega)).symm, hB⟩
        · go_wp2
          go_round
          case rel => exact ⟨k + 1, by omega, by go_num, HY.out (by simp [nOk]; omega)⟩
          case measure => simp [intOf]; omega
    · obtain rfl : k = 5 := by omega
      have HM : Hid (mayOk a b c d e = decide (d ≤ c)) := may_yes a b c d e HK.out
      go_wp2
      go_ret
      exact ⟨ret_bool HM.out.symm, hB⟩


theorem may_is (a b c d e : Int) (v : Bool) (h : mayOk a b c d e = v) (w : World) :
    Calls Tryd.prog 22 #[.agg #[.int .i64 a, .int .i64 b, .int .i64 c, .int .i64 d, .int .i64 e]] w fun r w' => r = .returned (.bool v) ∧ Below w.heap.size w w' :=
  (may_any a b c d e w).mono fun _ _ ⟨hr, hb⟩ => ⟨by rw [hr, h], hb⟩

structure Rep where
  a : Int
  b : Int
  c : Int
  d : Int
  e : Int
def Rep.val (r : Rep) : Value := .agg #[.int .i64 r.a, .int .i64 r.b, .int .i64 r.c, .int .i64 r.d, .int .i64 r.e]
def Rep.ok (r : Rep) : Bool := mayOk r.a r.b r.c r.d r.e
def Rep.zero : Rep := ⟨0, 0, 0, 0, 0⟩
/-- A report's cells at a place. -/
structure RAt (w : World) (b o : Nat) (r : Rep) : Prop where
  c0 : w.cell? ⟨b, o, none⟩ = some (.int .i64 r.a)
  c1 : w.cell? ⟨b, o + 1, none⟩ = some (.int .i64 r.b)
  c2 : w.cell? ⟨b, o + 2, none⟩ = some (.int .i64 r.c)
  c3 : w.cell? ⟨b, o + 3, none⟩ = some (.int .i64 r.d)
  c4 : w.cell? ⟨b, o + 4, none⟩ = some (.int .i64 r.e)
theorem RAt.lt {w : World} {b o : Nat} {r : Rep} (h : RAt w b o r) : b < w.heap.size := World.block_lt_of_cell? w ⟨b, o, none⟩ h.c0
theorem RAt.below {w w' : World} {b o : Nat} {r : Rep} (h : RAt w b o r) (hb : Below w.heap.size w w') : RAt w' b o r :=
  ⟨(hb.cell h.lt).trans h.c0, (hb.cell h.lt).trans h.c1, (hb.cell h.lt).trans h.c2, (hb.cell h.lt).trans h.c3, (hb.cell h.lt).trans h.c4⟩
/-- A cell lives on. -/
theorem keep1 {w w' : World} {a : Addr} {v : Value} (hb : Below w.heap.size w w') (h : w.cell? a = some v) : w'.cell? a = some v := (hb.cell (World.block_lt_of_cell? w a h)).trans h
/-- A slice reads as these reports. -/
def Reads (w : World) (A : Option Addr) (l : List Rep) : Prop := ∀ i r, l[i]? = some r → ∃ b o, A = some ⟨b, o, none⟩ ∧ RAt w b (o + i * 5) r
theorem Reads.below {w w' : World} {A : Option Addr} {l : List Rep} (h : Reads w A l) (hb : Below w.heap.size w w') : Reads w' A l := fun i r hi =>
  let ⟨b, o, hA, hr⟩ := h i r hi; ⟨b, o, hA, hr.below hb⟩
theorem Reads.nil (w : World) (A : Option Addr) : Reads w A [] := fun i r h => by simp at h
def good (l : List Rep) (j : Nat) : Bool := (l.getD j Rep.zero).ok && (decide (j = 0) || decide ((l.getD (j - 1) Rep.zero).a < (l.getD j Rep.zero).a))
def mayL (l : List Rep) : Bool := (List.range l.length).all (good l)
theorem mayL_no {l : List Rep} {j : Nat} (h : j < l.length) (hg : good l j = false) : mayL l = false := by
  unfold mayL
  rw [List.all_eq_false]
  exact ⟨j, by simp [h], by simp [hg]⟩
theorem mayL_yes {l : List Rep} (h : ∀ j, j < l.length → good l j = true) : mayL l = true := by
  unfold mayL
  rw [List.all_eq_true]
  intro j hj
  exact h j (by simpa using hj)

theorem good_zero {l : List Rep} (h : 0 < l.length) : good l 0 = l[0].ok := by simp [good, h]
theorem good_succ {l : List Rep} {m : Nat} (h : m + 1 < l.length) : good l (m + 1) = (l[m + 1].ok && decide ((l[m]'(by omega)).a < l[m + 1].a)) := by
  simp [good, h, show m < l.length by omega]
theorem good_step {l : List Rep} {k : Nat} (h : ∀ j, j < k → good l j = true) (hk : good l k = true) : ∀ j, j < k + 1 → good l j = true := fun j hj => by
  rcases Nat.lt_or_ge j k with h' | h'
  · exact h j h'
  · obtain rfl : j = k := by omega
    exact hk

set_option maxHeartbeats 4000000 in
theorem May_any (A : Option Addr) (cp : Nat) (l : List Rep) (w : World) (hR : Reads w A l) (hl : l.length ≤ 9223372036854775807) :
    Calls Tryd.prog 13 #[.slice A l.length cp] w fun r w' => r = .returned (.bool (mayL l)) ∧ Below w.heap.size w w' := by
  have HR := Lib.hid hR
  clear hR
  go_enter Tryd.func13, Tryd.ntmps13
  go_wp2
  go_loopw [7] (fun i wr => ∃ k : Nat, k ≤ l.length ∧ i = .int .i64 k ∧ Hid (∀ j, j < k → good l j = true) ∧ Below w.heap.size w wr) (fun i _ => l.length - (intOf i).toNat)
  case atStart => exact ⟨0, by omega, rfl, fun j hj => by omega, Below.refl _ _⟩
  case round =>
    obtain ⟨k, hk, rfl, HK, hB⟩ := hrel
    have hsz := hB.size
    by_cases hlt : k < l.length
    · obtain ⟨b, o, hA, hr⟩ := HR.out k l[k] (by simp [hlt])
      subst hA
      have hbl := hr.lt
      obtain ⟨c0, c1, c2, c3, c4⟩ := hr.below hB
      generalize hg : l[k] = r at *
      have HG := Lib.hid hg
      clear hg hr
      go_wp2
      have HB : Below w.heap.size w (wr.alloc (.cells #[.int .i64 r.a, .int .i64 r.b, .int .i64 r.c, .int .i64 r.d, .int .i64 r.e] 35)) := hB.alloc hsz _
      have hbl2 : b < wr.heap.size + 1 := by omega
      rcases k with _ | m
      · have hgd : good l 0 = r.ok := (good_zero hlt).trans (congrArg Rep.ok HG.out)
        cases hok : r.ok
        · have HGd := Lib.hid (mayL_no hlt (hgd.trans hok))
          have HOK := Lib.hid hok
          clear hgd hok
          refine region_plan [] (takes [0] (.one 1 (takes [2, 3, 4, 5, 6, 7, 8, 9, 10, 11, 12, 13, 14, 15, 16, 17] .done))) (by kernel_rfl) (by kernel_rfl) (by kernel_rfl) (fun _ _ d _ _ h => by cases d <;> exact h) ?_
          simp only [takes]
          iterate 1 ((first | refine take_no rfl rfl ?_ | (refine take_yes rfl rfl ?_; refine ⟨?_, ?_, ?_⟩; rotate_left; · (intro w' hw'; have hc := @Below.cell _ _ _ hw'; go_simp; first | done | rfl))); try simp only [Act.put, List.setIfInBounds_toArray, List.set_cons_zero, List.set_cons_succ, List.getElem_toArray, List.getElem_cons_zero, List.getElem_cons_succ])
          refine loud_yes rfl rfl (fun K hK => ?_)
          go_simp
          refine (may_is _ _ _ _ _ false HOK.out _).mono ?_
          rintro q w1 ⟨rfl, hb⟩
          refine hK _ _ (.inr hb) ?_
          clear hK K
          try simp only [Act.put, List.setIfInBounds_toArray, List.set_cons_zero, List.set_cons_succ, List.getElem_toArray, List.getElem_cons_zero, List.getElem_cons_succ]
          have e1 : w1.cell? ⟨wr.heap.size, 0, none⟩ = some (.int .i64 r.a) := keep1 hb (by simp)
          have s1 := World.block_lt_of_cell? w1 _ e1
          have HB1 : Below w.heap.size w w1 := HB.drew.trans (hb.mono (by simp; omega))
          iterate 16 ((first | refine take_no rfl rfl ?_ | (refine take_yes rfl rfl ?_; refine ⟨?_, ?_, ?_⟩; rotate_left; · (intro w' hw'; have hc := @Below.cell _ _ _ hw'; go_simp; first | done | rfl))); try simp only [Act.put, List.setIfInBounds_toArray, List.set_cons_zero, List.set_cons_succ, List.getElem_toArray, List.getElem_cons_zero, List.getElem_cons_succ])
          refine plan_done ?_
          go_wp2
          go_ret
          exact ⟨ret_bool HGd.out.symm, HB1⟩
        · have HGd := Lib.hid (hgd.trans hok)
          clear hgd
          have HOK := Lib.hid hok
          clear hok
          refine region_plan [] (takes [0] (.one 1 (takes [2, 3, 4, 5, 6, 7, 8, 9, 10, 11, 12, 13, 14, 15, 16, 17] .done))) (by kernel_rfl) (by kernel_rfl) (by kernel_rfl) (fun _ _ d _ _ h => by cases d <;> exact h) ?_
          simp only [takes]
          iterate 1 ((first | refine take_no rfl rfl ?_ | (refine take_yes rfl rfl ?_; refine ⟨?_, ?_, ?_⟩; rotate_left; · (intro w' hw'; have hc := @Below.cell _ _ _ hw'; go_simp; first | done | rfl))); try simp only [Act.put, List.setIfInBounds_toArray, List.set_cons_zero, List.set_cons_succ, List.getElem_toArray, List.getElem_cons_zero, List.getElem_cons_succ])
          refine loud_yes rfl rfl (fun K hK => ?_)
          go_simp
          refine (may_is _ _ _ _ _ true HOK.out _).mono ?_
          rintro q w1 ⟨rfl, hb⟩
          refine hK _ _ (.inr hb) ?_
          clear hK K
          try simp only [Act.put, List.setIfInBounds_toArray, List.set_cons_zero, List.set_cons_succ, List.getElem_toArray, List.getElem_cons_zero, List.getElem_cons_succ]
          have e1 : w1.cell? ⟨wr.heap.size, 0, none⟩ = some (.int .i64 r.a) := keep1 hb (by simp)
          have s1 := World.block_lt_of_cell? w1 _ e1
          have HB1 : Below w.heap.size w w1 := HB.drew.trans (hb.mono (by simp; omega))
          iterate 16 ((first | refine take_no rfl rfl ?_ | (refine take_yes rfl rfl ?_; refine ⟨?_, ?_, ?_⟩; rotate_left; · (intro w' hw'; have hc := @Below.cell _ _ _ hw'; go_simp; first | done | rfl))); try simp only [Act.put, List.setIfInBounds_toArray, List.set_cons_zero, List.set_cons_succ, List.getElem_toArray, List.getElem_cons_zero, List.getElem_cons_succ])
          refine plan_done ?_
          go_wp2
          go_roundw
          case rel => exact ⟨1, by omega, by go_num, good_step HK.out HGd.out, HB1⟩
          case measure => simp [intOf]; omega
      · obtain ⟨b', o', hA', hr'⟩ := HR.out m (l[m]'(by omega)) (by simp [show m < l.length by omega])
        obtain ⟨rfl, rfl⟩ : b = b' ∧ o = o' := by injection hA' with h; injection h with h1 h2; exact ⟨h1, h2⟩
        clear hA'
        obtain ⟨d0, _, _, _, _⟩ := hr'.below hB
        clear hr'
        have hgd : good l (m + 1) = (r.ok && decide ((l[m]'(by omega)).a < r.a)) := by rw [good_succ hlt, HG.out]
        generalize hp : (l[m]'(by omega)).a = p at *
        clear hp
        have hm1 : (0 : Int) ≤ (m : Int) := by omega
        have hm2 : (m : Int) < (l.length : Int) := by omega
        have hm3 : (0 : Int) < (m : Int) + 1 := by omega
        have hmw : IntKind.i64.wrap (m : Int) = m := IntWalk.i64_in _ (by omega)
        cases hok : r.ok
        · have HGd := Lib.hid (mayL_no hlt (hgd.trans (by rw [hok]; rfl)))
          have HOK := Lib.hid hok
          clear hgd hok
          refine region_plan [] (takes [0] (.one 1 (takes [2, 3, 4, 5, 6, 7, 8, 9, 10, 11, 12, 13, 14, 15, 16, 17] .done))) (by kernel_rfl) (by kernel_rfl) (by kernel_rfl) (fun _ _ d _ _ h => by cases d <;> exact h) ?_
          simp only [takes]
          iterate 1 ((first | refine take_no rfl rfl ?_ | (refine take_yes rfl rfl ?_; refine ⟨?_, ?_, ?_⟩; rotate_left; · (intro w' hw'; have hc := @Below.cell _ _ _ hw'; go_simp; first | done | rfl))); try simp only [Act.put, List.setIfInBounds_toArray, List.set_cons_zero, List.set_cons_succ, List.getElem_toArray, List.getElem_cons_zero, List.getElem_cons_succ])
          refine loud_yes rfl rfl (fun K hK => ?_)
          go_simp
          refine (may_is _ _ _ _ _ false HOK.out _).mono ?_
          rintro q w1 ⟨rfl, hb⟩
          refine hK _ _ (.inr hb) ?_
          clear hK K
          try simp only [Act.put, List.setIfInBounds_toArray, List.set_cons_zero, List.set_cons_succ, List.getElem_toArray, List.getElem_cons_zero, List.getElem_cons_succ]
          have e1 : w1.cell? ⟨wr.heap.size, 0, none⟩ = some (.int .i64 r.a) := keep1 hb (by simp)
          have s1 := World.block_lt_of_cell? w1 _ e1
          have HB1 : Below w.heap.size w w1 := HB.drew.trans (hb.mono (by simp; omega))
          iterate 16 ((first | refine take_no rfl rfl ?_ | (refine take_yes rfl rfl ?_; refine ⟨?_, ?_, ?_⟩; rotate_left; · (intro w' hw'; have hc := @Below.cell _ _ _ hw'; go_simp; first | done | rfl))); try simp only [Act.put, List.setIfInBounds_toArray, List.set_cons_zero, List.set_cons_succ, List.getElem_toArray, List.getElem_cons_zero, List.getElem_cons_succ])
          refine plan_done ?_
          go_wp2
          go_ret
          exact ⟨ret_bool HGd.out.symm, HB1⟩
        · have HOK := Lib.hid hok
          by_cases hpr : p < r.a
          · have HGd := Lib.hid (hgd.trans (show (r.ok && decide (p < r.a)) = true from by simp [hok, hpr]))
            clear hgd hok
            refine region_plan [] (takes [0] (.one 1 (takes [2, 3, 4, 5, 6, 7, 8, 9, 10, 11, 12, 13, 14, 15, 16, 17] .done))) (by kernel_rfl) (by kernel_rfl) (by kernel_rfl) (fun _ _ d _ _ h => by cases d <;> exact h) ?_
            simp only [takes]
            iterate 1 ((first | refine take_no rfl rfl ?_ | (refine take_yes rfl rfl ?_; refine ⟨?_, ?_, ?_⟩; rotate_left; · (intro w' hw'; have hc := @Below.cell _ _ _ hw'; go_simp; first | done | rfl))); try simp only [Act.put, List.setIfInBounds_toArray, List.set_cons_zero, List.set_cons_succ, List.getElem_toArray, List.getElem_cons_zero, List.getElem_cons_succ])
            refine loud_yes rfl rfl (fun K hK => ?_)
            go_simp
            refine (may_is _ _ _ _ _ true HOK.out _).mono ?_
            rintro q w1 ⟨rfl, hb⟩
            refine hK _ _ (.inr hb) ?_
            clear hK K
            try simp only [Act.put, List.setIfInBounds_toArray, List.set_cons_zero, List.set_cons_succ, List.getElem_toArray, List.getElem_cons_zero, List.getElem_cons_succ]
            have e1 : w1.cell? ⟨wr.heap.size, 0, none⟩ = some (.int .i64 r.a) := keep1 hb (by simp)
            have s1 := World.block_lt_of_cell? w1 _ e1
            have HB1 : Below w.heap.size w w1 := HB.drew.trans (hb.mono (by simp; omega))
            have e0 : w1.cell? ⟨b, o + m * 5, none⟩ = some (.int .i64 p) := keep1 hb (keep1 (((Below.refl _ _).alloc (Nat.le_refl _) _).drew) d0)
            have s0 := World.block_lt_of_cell? w1 _ e0
            iterate 16 ((first | refine take_no rfl rfl ?_ | (refine take_yes rfl rfl ?_; refine ⟨?_, ?_, ?_⟩; rotate_left; · (intro w' hw'; have hc := @Below.cell _ _ _ hw'; go_simp; first | done | rfl))); try simp only [Act.put, List.setIfInBounds_toArray, List.set_cons_zero, List.set_cons_succ, List.getElem_toArray, List.getElem_cons_zero, List.getElem_cons_succ])
            refine plan_done ?_
            go_wp2
            go_roundw
            case rel => exact ⟨m + 2, by omega, by go_num, good_step HK.out HGd.out, HB1⟩
            case measure => simp [intOf]; omega
          · have HGd := Lib.hid (mayL_no hlt (hgd.trans (show (r.ok && decide (p < r.a)) = false from by simp [hpr])))
            clear hgd hok
            refine region_plan [] (takes [0] (.one 1 (takes [2, 3, 4, 5, 6, 7, 8, 9, 10, 11, 12, 13, 14, 15, 16, 17] .done))) (by kernel_rfl) (by kernel_rfl) (by kernel_rfl) (fun _ _ d _ _ h => by cases d <;> exact h) ?_
            simp only [takes]
            iterate 1 ((first | refine take_no rfl rfl ?_ | (refine take_yes rfl rfl ?_; refine ⟨?_, ?_, ?_⟩; rotate_left; · (intro w' hw'; have hc := @Below.cell _ _ _ hw'; go_simp; first | done | rfl))); try simp only [Act.put, List.setIfInBounds_toArray, List.set_cons_zero, List.set_cons_succ, List.getElem_toArray, List.getElem_cons_zero, List.getElem_cons_succ])
            refine loud_yes rfl rfl (fun K hK => ?_)
            go_simp
            refine (may_is _ _ _ _ _ true HOK.out _).mono ?_
            rintro q w1 ⟨rfl, hb⟩
            refine hK _ _ (.inr hb) ?_
            clear hK K
            try simp only [Act.put, List.setIfInBounds_toArray, List.set_cons_zero, List.set_cons_succ, List.getElem_toArray, List.getElem_cons_zero, List.getElem_cons_succ]
            have e1 : w1.cell? ⟨wr.heap.size, 0, none⟩ = some (.int .i64 r.a) := keep1 hb (by simp)
            have s1 := World.block_lt_of_cell? w1 _ e1
            have HB1 : Below w.heap.size w w1 := HB.drew.trans (hb.mono (by simp; omega))
            have e0 : w1.cell? ⟨b, o + m * 5, none⟩ = some (.int .i64 p) := keep1 hb (keep1 (((Below.refl _ _).alloc (Nat.le_refl _) _).drew) d0)
            have s0 := World.block_lt_of_cell? w1 _ e0
            iterate 16 ((first | refine take_no rfl rfl ?_ | (refine take_yes rfl rfl ?_; refine ⟨?_, ?_, ?_⟩; rotate_left; · (intro w' hw'; have hc := @Below.cell _ _ _ hw'; go_simp; first | done | rfl))); try simp only [Act.put, List.setIfInBounds_toArray, List.set_cons_zero, List.set_cons_succ, List.getElem_toArray, List.getElem_cons_zero, List.getElem_cons_succ])
            refine plan_done ?_
            go_wp2
            go_ret
            exact ⟨ret_bool HGd.out.symm, HB1⟩
    · have HM : Hid (mayL l = true) := mayL_yes fun j hj => HK.out j (by omega)
      go_wp2
      go_ret
      exact ⟨ret_bool HM.out.symm, hB⟩

end Go.Proofs.YtohhkoojjelghaaDoor
