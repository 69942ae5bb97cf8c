/- report.sum of two numbers; report.Total: the sums, of at most a million reports. -/
import Derived.Test.YtohhkoojjelghaaDoorB
import Derived.Test.YtohhkoojjelghaaDoorUn
set_option linter.unusedSimpArgs false
set_option linter.unusedVariables false
namespace Go.Proofs.YtohhkoojjelghaaDoor
open Go.RowKit Go.Plan Go.Sort

theorem sum_any (b cp : Nat) (x y : Int) (w : World) (hx : w.cell? ⟨b, 0, none⟩ = some (.int .i64 x)) (hy : w.cell? ⟨b, 1, none⟩ = some (.int .i64 y)) (h0 : 0 ≤ x) (h1 : x ≤ 2305843009213693952) (h2 : 0 ≤ y) (h3 : y ≤ 2305843009213693952) :
    Calls Tryd.prog 21 #[.slice (some ⟨b, 0, none⟩) 2 cp] w fun e w' => e = .returned (.int .i64 (x + y)) ∧ w = w' := by
  go_enter Tryd.func21, Tryd.ntmps21
  go_wp2
  go_loop [3, 8] (fun n i => ∃ k : Nat, k ≤ 2 ∧ i = .int .i64 k ∧ ∃ m : Int, n = .int .i64 m ∧ Hid (m = if k = 0 then 0 else if k = 1 then x else x + y)) (fun _ i => 2 - (intOf i).toNat)
  case atStart => exact ⟨0, by omega, rfl, 0, rfl, rfl⟩
  case round =>
    obtain ⟨k, hk, rfl, m, rfl, HM⟩ := hrel
    have hm := HM.out
    rcases k with _ | _ | _ | k
    · simp at hm
      subst hm
      clear HM
      go_wp2
      go_round
      case rel => exact ⟨1, by omega, by go_num, _, rfl, by simp [Hid]⟩
      case measure => simp [intOf]
    · simp at hm
      subst hm
      clear HM
      go_wp2
      go_round
      case rel => exact ⟨2, by omega, by go_num, _, rfl, by simp [Hid]⟩
      case measure => simp [intOf]
    · simp at hm
      subst hm
      clear HM
      go_wp2
      go_ret
      exact ⟨rfl, rfl⟩
    · omega

/-- A step of a uniform region: a value, the world as it was. -/
theorem uni_val {ops : Array Oper} {Q : Exit → Act → World → Prop} {F : World → Value → Prop} {i : Nat} {o : Oper} {a : Act} {w : World} {v : Value} (ho : ops[i]? = some o) (hg : o.guard = none)
    (hrun : (execOp a.eval o).run Tryd.prog w = .ok (.value v) w) (hF : F w v) : wpOp Tryd.prog ops Q i (fun a'' w'' => Below w.heap.size w w'' ∧ ∃ v, a'' = a.put o.dst v ∧ F w'' v) a w := by
  unfold wpOp
  simp only [ho, Region.wanted, hg, if_true, Oper.wp, hrun, Oper.upon]
  exact .inl ⟨Below.refl _ _, v, rfl, hF⟩
def Sl (x y : Int) (w : World) (v : Value) : Prop := ∃ b, v = .slice (some ⟨b, 0, none⟩) 2 2 ∧ w.cell? ⟨b, 0, none⟩ = some (.int .i64 x) ∧ w.cell? ⟨b, 1, none⟩ = some (.int .i64 y)
theorem uni_sl {ops : Array Oper} {Q : Exit → Act → World → Prop} {i : Nat} {o : Oper} {a : Act} {w : World} {x y : Int} (ho : ops[i]? = some o) (hg : o.guard = none)
    (hrun : (execOp a.eval o).run Tryd.prog w = .ok (.value (.slice (some ⟨w.heap.size, 0, none⟩) 2 2)) (w.alloc (.cells #[.int .i64 x, .int .i64 y] 3))) :
    wpOp Tryd.prog ops Q i (fun a'' w'' => Below w.heap.size w w'' ∧ ∃ v, a'' = a.put o.dst v ∧ Sl x y w'' v) a w := by
  unfold wpOp
  simp only [ho, Region.wanted, hg, if_true, Oper.wp, hrun, Oper.upon]
  exact .inl ⟨(Below.refl _ _).alloc (Nat.le_refl _) _, _, rfl, _, rfl, by simp, by simp⟩
theorem uni_sum {ops : Array Oper} {Q : Exit → Act → World → Prop} {i : Nat} {o : Oper} {a : Act} {w : World} {x y : Int} {b : Nat} (ho : ops[i]? = some o) (hg : o.guard = none)
    (hrun : (execOp a.eval o).run Tryd.prog w = .ok (.enter 21 #[.slice (some ⟨b, 0, none⟩) 2 2]) w) (hx : w.cell? ⟨b, 0, none⟩ = some (.int .i64 x)) (hy : w.cell? ⟨b, 1, none⟩ = some (.int .i64 y))
    (h0 : 0 ≤ x ∧ x ≤ 2305843009213693952) (h1 : 0 ≤ y ∧ y ≤ 2305843009213693952) :
    wpOp Tryd.prog ops Q i (fun a'' w'' => Below w.heap.size w w'' ∧ ∃ v, a'' = a.put o.dst v ∧ v = .int .i64 (x + y)) a w := by
  unfold wpOp
  simp only [ho, Region.wanted, hg, if_true, Oper.wp, hrun, Oper.upon]
  exact .inl ((sum_any b 2 x y w hx hy h0.1 h0.2 h1.1 h1.2).mono fun e w' ⟨he, hw⟩ => by subst he; subst hw; exact ⟨Below.refl _ _, _, rfl, rfl⟩)
/-- Bounds of the numbers of a sum. -/
structure Bd (r : Rep) : Prop where
  a : 0 ≤ r.a ∧ r.a ≤ 2305843009213693952
  b : 0 ≤ r.b ∧ r.b ≤ 2305843009213693952
  c : 0 ≤ r.c ∧ r.c ≤ 2305843009213693952
  d : 0 ≤ r.d ∧ r.d ≤ 2305843009213693952
  e : 0 ≤ r.e ∧ r.e ≤ 2305843009213693952
theorem Sl_mono {x y : Int} {w w' : World} {v : Value} (h : Sl x y w v) (hb : Below w.heap.size w w') : Sl x y w' v :=
  let ⟨b, hv, hx, hy⟩ := h; ⟨b, hv, keep1 hb hx, keep1 hb hy⟩
def totF (bt br : Nat) (t r : Rep) : List (World → Value → Prop) := [
  fun _ v => v = .pointer (some ⟨bt, 0, none⟩),
  fun _ v => v = .int .i64 t.a,
  Sl t.a 1,
  fun _ v => v = .int .i64 (t.a + 1),
  fun _ v => v = .pointer (some ⟨bt, 1, none⟩),
  fun _ v => v = .int .i64 t.b,
  fun _ v => v = .pointer (some ⟨br, 1, none⟩),
  fun _ v => v = .int .i64 r.b,
  Sl t.b r.b,
  fun _ v => v = .int .i64 (t.b + r.b),
  fun _ v => v = .pointer (some ⟨bt, 2, none⟩),
  fun _ v => v = .int .i64 t.c,
  fun _ v => v = .pointer (some ⟨br, 2, none⟩),
  fun _ v => v = .int .i64 r.c,
  Sl t.c r.c,
  fun _ v => v = .int .i64 (t.c + r.c),
  fun _ v => v = .pointer (some ⟨bt, 3, none⟩),
  fun _ v => v = .int .i64 t.d,
  fun _ v => v = .pointer (some ⟨br, 3, none⟩),
  fun _ v => v = .int .i64 r.d,
  Sl t.d r.d,
  fun _ v => v = .int .i64 (t.d + r.d),
  fun _ v => v = .pointer (some ⟨bt, 4, none⟩),
  fun _ v => v = .int .i64 t.e,
  fun _ v => v = .pointer (some ⟨br, 4, none⟩),
  fun _ v => v = .int .i64 r.e,
  Sl t.e r.e,
  fun _ v => v = .int .i64 (t.e + r.e),
  fun _ v => v = .agg #[.int .i64 (t.a + 1), .int .i64 (t.b + r.b), .int .i64 (t.c + r.c), .int .i64 (t.d + r.d), .int .i64 (t.e + r.e)]
]
theorem totF_mono (bt br : Nat) (t r : Rep) : ∀ (i : Nat) (w w' : World) (v : Value), (totF bt br t r).getD i (fun _ _ => True) w v → Below w.heap.size w w' → (totF bt br t r).getD i (fun _ _ => True) w' v := by
  intro i w w' v h hb
  match i with
  | 0 => exact h
  | 1 => exact h
  | 2 => exact Sl_mono h hb
  | 3 => exact h
  | 4 => exact h
  | 5 => exact h
  | 6 => exact h
  | 7 => exact h
  | 8 => exact Sl_mono h hb
  | 9 => exact h
  | 10 => exact h
  | 11 => exact h
  | 12 => exact h
  | 13 => exact h
  | 14 => exact Sl_mono h hb
  | 15 => exact h
  | 16 => exact h
  | 17 => exact h
  | 18 => exact h
  | 19 => exact h
  | 20 => exact Sl_mono h hb
  | 21 => exact h
  | 22 => exact h
  | 23 => exact h
  | 24 => exact h
  | 25 => exact h
  | 26 => exact Sl_mono h hb
  | 27 => exact h
  | 28 => exact h
  | _ + 29 => exact trivial

def totR (l : List Rep) : Rep := ⟨l.length, (l.map Rep.b).sum, (l.map Rep.c).sum, (l.map Rep.d).sum, (l.map Rep.e).sum⟩

theorem set_same {w : World} {b i : Nat} {cs : Array Value} {T : TypeId} {fr : Nat × Nat} (hb : w.heap[b]? = some (.cells cs T fr)) (v : Value) :
    (w.setCell ⟨b, i, none⟩ v).heap[b]? = some (.cells (cs.setIfInBounds i v) T fr) := by
  simp [World.setCell, Array.getElem?_modify, hb]
theorem ok_bd {r : Rep} (h : r.ok = true) : Bd r := by
  simp only [Rep.ok, mayOk, nOk, Bool.and_eq_true, decide_eq_true_eq] at h
  obtain ⟨⟨⟨⟨⟨h0, h1⟩, h2⟩, h3⟩, h4⟩, _⟩ := h
  exact ⟨⟨h0.1, by omega⟩, ⟨h1.1, by omega⟩, ⟨h2.1, by omega⟩, ⟨h3.1, by omega⟩, ⟨h4.1, by omega⟩⟩
theorem sum_bd (M : Nat) : ∀ (l : List Int), (∀ x ∈ l, 0 ≤ x ∧ x ≤ M) → 0 ≤ l.sum ∧ l.sum ≤ (l.length * M : Nat)
  | [], _ => by simp
  | x :: l, h => by
    have h1 := sum_bd M l fun y hy => h y (by simp [hy])
    have h2 := h x (by simp)
    have h3 : (l.length + 1) * M = l.length * M + M := Nat.succ_mul ..
    simp only [List.sum_cons, List.length_cons, h3]
    omega
theorem sum_bd' (f : Rep → Int) (l : List Rep) (k : Nat) (hl : l.length ≤ 1000000) (h : ∀ x ∈ l, 0 ≤ f x ∧ f x ≤ 1099511627776) : 0 ≤ ((l.take k).map f).sum ∧ ((l.take k).map f).sum ≤ 2305843009213693952 := by
  have h1 := sum_bd 1099511627776 ((l.take k).map f) fun x hx => by
    obtain ⟨r, hr, rfl⟩ := List.mem_map.1 hx
    exact h r (List.mem_of_mem_take hr)
  have h2 : ((l.take k).map f).length ≤ 1000000 := by simp; omega
  have h3 := Nat.mul_le_mul_right 1099511627776 h2
  omega
theorem tot_bd (l : List Rep) (hl : l.length ≤ 1000000) (hok : ∀ i (hi : i < l.length), l[i].ok = true) (k : Nat) (hk : k ≤ l.length) : Bd (totR (l.take k)) := by
  have h : ∀ x ∈ l, (0 ≤ x.b ∧ x.b ≤ 1099511627776) ∧ (0 ≤ x.c ∧ x.c ≤ 1099511627776) ∧ (0 ≤ x.d ∧ x.d ≤ 1099511627776) ∧ (0 ≤ x.e ∧ x.e ≤ 1099511627776) := fun x hx => by
    obtain ⟨i, hi, rfl⟩ := List.getElem_of_mem hx
    have h := hok i hi
    simp only [Rep.ok, mayOk, nOk, Bool.and_eq_true, decide_eq_true_eq] at h
    obtain ⟨⟨⟨⟨⟨h0, h1⟩, h2⟩, h3⟩, h4⟩, _⟩ := h
    exact ⟨⟨h1.1, by omega⟩, ⟨h2.1, by omega⟩, ⟨h3.1, by omega⟩, ⟨h4.1, by omega⟩⟩
  refine ⟨?_, sum_bd' _ l k hl fun x hx => (h x hx).1, sum_bd' _ l k hl fun x hx => (h x hx).2.1, sum_bd' _ l k hl fun x hx => (h x hx).2.2.1, sum_bd' _ l k hl fun x hx => (h x hx).2.2.2⟩
  simp [totR]
  omega
theorem totR_take (l : List Rep) (k : Nat) (hk : k < l.length) : totR (l.take (k + 1)) = ⟨(totR (l.take k)).a + 1, (totR (l.take k)).b + l[k].b, (totR (l.take k)).c + l[k].c, (totR (l.take k)).d + l[k].d, (totR (l.take k)).e + l[k].e⟩ := by
  have hm : min k l.length = k := by omega
  have hm' : min (k + 1) l.length = k + 1 := by omega
  unfold totR
  rw [List.take_succ_eq_append_getElem hk]
  simp [-List.map_take, -List.take_append_getElem, hm]

set_option maxHeartbeats 4000000 in
theorem Total_any (A : Option Addr) (cp : Nat) (l : List Rep) (w : World) (hR : Reads w A l) (hl : l.length ≤ 1000000) (hok : ∀ i (hi : i < l.length), l[i].ok = true) :
    Calls Tryd.prog 12 #[.slice A l.length cp] w fun r w' => r = .returned (totR l).val ∧ Below w.heap.size w w' := by
  have HR := Lib.hid hR
  have HK := Lib.hid hok
  clear hR hok
  go_enter Tryd.func12, Tryd.ntmps12
  go_wp2
  go_loopw [5, 8] (fun _ i wr => ∃ k : Nat, k ≤ l.length ∧ i = .int .i64 k ∧ Hid (wr.heap[w.heap.size]? = some (.cells #[.int .i64 0, .int .i64 0, .int .i64 0, .int .i64 0, .int .i64 0] 35 (0, 0))) ∧ Hid (wr.heap[w.heap.size + 1]? = some (.cells #[.int .i64 (totR (l.take k)).a, .int .i64 (totR (l.take k)).b, .int .i64 (totR (l.take k)).c, .int .i64 (totR (l.take k)).d, .int .i64 (totR (l.take k)).e] 35 (0, 0))) ∧ Below w.heap.size w wr) (fun _ i _ => l.length - (intOf i).toNat)
  case atStart =>
    refine ⟨0, by omega, rfl, ?_, ?_, ((Below.refl _ _).alloc (Nat.le_refl _) _).alloc (by simp) _⟩
    · show ((w.heap.push _).push _)[w.heap.size]? = _
      simp only [Array.getElem?_push, Array.size_push]
      rw [if_neg (by omega), if_pos trivial]
    · show ((w.heap.push _).push _)[w.heap.size + 1]? = _
      simp only [Array.getElem?_push, Array.size_push]
      rw [if_pos trivial]
      simp [totR]
  case round =>
    obtain ⟨k, hk, rfl, HZ, HT, hB⟩ := hrel
    have hsz := hB.size
    by_cases hlt : k < l.length
    · obtain ⟨b, o, hA, hr⟩ := HR.out k l[k] (by simp [hlt])
      subst hA
      obtain ⟨c0, c1, c2, c3, c4⟩ := hr.below hB
      clear hr
      have hst := totR_take l k hlt
      generalize hrk : l[k] = r at *
      have hbd : Bd (totR (l.take k)) := tot_bd l hl HK.out k hk
      have hbr : Bd r := ok_bd (hrk ▸ HK.out k hlt)
      generalize totR (l.take k) = t at *
      have hkl : (k : Int) < (l.length : Int) := by omega
      go_wp2
      clear c0 c1 c2 c3 c4
      have hbt : w.heap.size + 1 < wr.heap.size := by
        have h := HT.out
        rcases Nat.lt_or_ge (w.heap.size + 1) wr.heap.size with h' | h'
        · exact h'
        · rw [Array.getElem?_eq_none h'] at h; cases h
      generalize hW : wr.alloc (.cells #[.int .i64 r.a, .int .i64 r.b, .int .i64 r.c, .int .i64 r.d, .int .i64 r.e] 35) = W
      have HBW : Below w.heap.size w W := by rw [← hW]; exact hB.alloc hsz _
      have HT2 : W.heap[w.heap.size + 1]? = some (.cells #[.int .i64 t.a, .int .i64 t.b, .int .i64 t.c, .int .i64 t.d, .int .i64 t.e] 35 (0, 0)) := by
        rw [← hW, Lib.alloc_old _ _ _ hbt]; exact HT.out
      have HZ2 : Hid (W.heap[w.heap.size]? = some (.cells #[.int .i64 0, .int .i64 0, .int .i64 0, .int .i64 0, .int .i64 0] 35 (0, 0))) := by
        show _ = _
        rw [← hW, Lib.alloc_old _ _ _ (by omega)]; exact HZ.out
      have c0 : W.cell? ⟨w.heap.size + 1, 0, none⟩ = some (.int .i64 t.a) := by rw [Lib.cell_of_heap HT2]; rfl
      have c1 : W.cell? ⟨w.heap.size + 1, 1, none⟩ = some (.int .i64 t.b) := by rw [Lib.cell_of_heap HT2]; rfl
      have c2 : W.cell? ⟨w.heap.size + 1, 2, none⟩ = some (.int .i64 t.c) := by rw [Lib.cell_of_heap HT2]; rfl
      have c3 : W.cell? ⟨w.heap.size + 1, 3, none⟩ = some (.int .i64 t.d) := by rw [Lib.cell_of_heap HT2]; rfl
      have c4 : W.cell? ⟨w.heap.size + 1, 4, none⟩ = some (.int .i64 t.e) := by rw [Lib.cell_of_heap HT2]; rfl
      have d0 : W.cell? ⟨wr.heap.size, 0, none⟩ = some (.int .i64 r.a) := by rw [← hW]; simp
      have d1 : W.cell? ⟨wr.heap.size, 1, none⟩ = some (.int .i64 r.b) := by rw [← hW]; simp
      have d2 : W.cell? ⟨wr.heap.size, 2, none⟩ = some (.int .i64 r.c) := by rw [← hW]; simp
      have d3 : W.cell? ⟨wr.heap.size, 3, none⟩ = some (.int .i64 r.d) := by rw [← hW]; simp
      have d4 : W.cell? ⟨wr.heap.size, 4, none⟩ = some (.int .i64 r.e) := by rw [← hW]; simp
      clear hW HT
      refine region_uniform 29 (fun i w1 v => (totF (w.heap.size + 1) wr.heap.size t r).getD i (fun _ _ => True) w1 v) (by kernel_rfl) (by kernel_rfl) (totF_mono _ _ _ _) ?_ ?_
      · intro i o hi ho a' w' hb hfr hd
        have s3 := hfr.slot 3 (of_decide_eq_true (by kernel_rfl))
        have s5 := hfr.slot 5 (of_decide_eq_true (by kernel_rfl))
        have e3 : a'.tmps.getD 3 undef = .pointer (some ⟨w.heap.size + 1, 0, none⟩) := by rw [Array.getD_eq_getD_getElem?, s3]; rfl
        have e5 : a'.tmps.getD 5 undef = .pointer (some ⟨wr.heap.size, 0, none⟩) := by rw [Array.getD_eq_getD_getElem?, s5]; rfl
        clear s3 s5 hfr
        generalize w.heap.size + 1 = bt at *
        generalize wr.heap.size = br at *
        match i, hi with
        | 0, _ => obtain rfl := Option.some.inj ho; exact uni_val rfl rfl (by simp [execOp, Act.eval, e3, go_sem]) rfl
        | 1, _ => obtain rfl := Option.some.inj ho; have h0 : _ = _ := hd 0 (by omega) (by kernel_rfl) 12 rfl; have z := keep1 hb c0; exact uni_val rfl rfl (by simp only [Act.eval, execOp, List.getElem_toArray, List.getElem_cons_zero, List.getElem_cons_succ, h0]; go_simp) rfl
        | 2, _ => obtain rfl := Option.some.inj ho; have h0 : _ = _ := hd 1 (by omega) (by kernel_rfl) 13 rfl; have g0 := (Array.getD_eq_getD_getElem? ..).symm.trans h0; exact uni_sl rfl rfl (by simp only [Act.eval, execOp, List.getElem_toArray, List.getElem_cons_zero, List.getElem_cons_succ, h0]; go_simp)
        | 3, _ => obtain rfl := Option.some.inj ho; obtain ⟨q, h0, hx, hy⟩ := hd 2 (by omega) (by kernel_rfl) 14 rfl; exact uni_sum rfl rfl (by simp only [Act.eval, execOp, List.getElem_toArray, List.getElem_cons_zero, List.getElem_cons_succ, h0]; go_simp) hx hy ⟨hbd.a.1, hbd.a.2⟩ ⟨by omega, by omega⟩
        | 4, _ => obtain rfl := Option.some.inj ho; exact uni_val rfl rfl (by simp [execOp, Act.eval, e3, go_sem]) rfl
        | 5, _ => obtain rfl := Option.some.inj ho; have h0 : _ = _ := hd 4 (by omega) (by kernel_rfl) 16 rfl; have z := keep1 hb c1; exact uni_val rfl rfl (by simp only [Act.eval, execOp, List.getElem_toArray, List.getElem_cons_zero, List.getElem_cons_succ, h0]; go_simp) rfl
        | 6, _ => obtain rfl := Option.some.inj ho; exact uni_val rfl rfl (by simp [execOp, Act.eval, e5, go_sem]) rfl
        | 7, _ => obtain rfl := Option.some.inj ho; have h0 : _ = _ := hd 6 (by omega) (by kernel_rfl) 18 rfl; have z := keep1 hb d1; exact uni_val rfl rfl (by simp only [Act.eval, execOp, List.getElem_toArray, List.getElem_cons_zero, List.getElem_cons_succ, h0]; go_simp) rfl
        | 8, _ => obtain rfl := Option.some.inj ho; have h0 : _ = _ := hd 5 (by omega) (by kernel_rfl) 17 rfl; have g0 := (Array.getD_eq_getD_getElem? ..).symm.trans h0; have h1 : _ = _ := hd 7 (by omega) (by kernel_rfl) 19 rfl; have g1 := (Array.getD_eq_getD_getElem? ..).symm.trans h1; exact uni_sl rfl rfl (by simp only [Act.eval, execOp, List.getElem_toArray, List.getElem_cons_zero, List.getElem_cons_succ, h0, h1]; go_simp)
        | 9, _ => obtain rfl := Option.some.inj ho; obtain ⟨q, h0, hx, hy⟩ := hd 8 (by omega) (by kernel_rfl) 20 rfl; exact uni_sum rfl rfl (by simp only [Act.eval, execOp, List.getElem_toArray, List.getElem_cons_zero, List.getElem_cons_succ, h0]; go_simp) hx hy ⟨hbd.b.1, hbd.b.2⟩ ⟨hbr.b.1, hbr.b.2⟩
        | 10, _ => obtain rfl := Option.some.inj ho; exact uni_val rfl rfl (by simp [execOp, Act.eval, e3, go_sem]) rfl
        | 11, _ => obtain rfl := Option.some.inj ho; have h0 : _ = _ := hd 10 (by omega) (by kernel_rfl) 22 rfl; have z := keep1 hb c2; exact uni_val rfl rfl (by simp only [Act.eval, execOp, List.getElem_toArray, List.getElem_cons_zero, List.getElem_cons_succ, h0]; go_simp) rfl
        | 12, _ => obtain rfl := Option.some.inj ho; exact uni_val rfl rfl (by simp [execOp, Act.eval, e5, go_sem]) rfl
        | 13, _ => obtain rfl := Option.some.inj ho; have h0 : _ = _ := hd 12 (by omega) (by kernel_rfl) 24 rfl; have z := keep1 hb d2; exact uni_val rfl rfl (by simp only [Act.eval, execOp, List.getElem_toArray, List.getElem_cons_zero, List.getElem_cons_succ, h0]; go_simp) rfl
        | 14, _ => obtain rfl := Option.some.inj ho; have h0 : _ = _ := hd 11 (by omega) (by kernel_rfl) 23 rfl; have g0 := (Array.getD_eq_getD_getElem? ..).symm.trans h0; have h1 : _ = _ := hd 13 (by omega) (by kernel_rfl) 25 rfl; have g1 := (Array.getD_eq_getD_getElem? ..).symm.trans h1; exact uni_sl rfl rfl (by simp only [Act.eval, execOp, List.getElem_toArray, List.getElem_cons_zero, List.getElem_cons_succ, h0, h1]; go_simp)
        | 15, _ => obtain rfl := Option.some.inj ho; obtain ⟨q, h0, hx, hy⟩ := hd 14 (by omega) (by kernel_rfl) 26 rfl; exact uni_sum rfl rfl (by simp only [Act.eval, execOp, List.getElem_toArray, List.getElem_cons_zero, List.getElem_cons_succ, h0]; go_simp) hx hy ⟨hbd.c.1, hbd.c.2⟩ ⟨hbr.c.1, hbr.c.2⟩
        | 16, _ => obtain rfl := Option.some.inj ho; exact uni_val rfl rfl (by simp [execOp, Act.eval, e3, go_sem]) rfl
        | 17, _ => obtain rfl := Option.some.inj ho; have h0 : _ = _ := hd 16 (by omega) (by kernel_rfl) 28 rfl; have z := keep1 hb c3; exact uni_val rfl rfl (by simp only [Act.eval, execOp, List.getElem_toArray, List.getElem_cons_zero, List.getElem_cons_succ, h0]; go_simp) rfl
        | 18, _ => obtain rfl := Option.some.inj ho; exact uni_val rfl rfl (by simp [execOp, Act.eval, e5, go_sem]) rfl
        | 19, _ => obtain rfl := Option.some.inj ho; have h0 : _ = _ := hd 18 (by omega) (by kernel_rfl) 30 rfl; have z := keep1 hb d3; exact uni_val rfl rfl (by simp only [Act.eval, execOp, List.getElem_toArray, List.getElem_cons_zero, List.getElem_cons_succ, h0]; go_simp) rfl
        | 20, _ => obtain rfl := Option.some.inj ho; have h0 : _ = _ := hd 17 (by omega) (by kernel_rfl) 29 rfl; have g0 := (Array.getD_eq_getD_getElem? ..).symm.trans h0; have h1 : _ = _ := hd 19 (by omega) (by kernel_rfl) 31 rfl; have g1 := (Array.getD_eq_getD_getElem? ..).symm.trans h1; exact uni_sl rfl rfl (by simp only [Act.eval, execOp, List.getElem_toArray, List.getElem_cons_zero, List.getElem_cons_succ, h0, h1]; go_simp)
        | 21, _ => obtain rfl := Option.some.inj ho; obtain ⟨q, h0, hx, hy⟩ := hd 20 (by omega) (by kernel_rfl) 32 rfl; exact uni_sum rfl rfl (by simp only [Act.eval, execOp, List.getElem_toArray, List.getElem_cons_zero, List.getElem_cons_succ, h0]; go_simp) hx hy ⟨hbd.d.1, hbd.d.2⟩ ⟨hbr.d.1, hbr.d.2⟩
        | 22, _ => obtain rfl := Option.some.inj ho; exact uni_val rfl rfl (by simp [execOp, Act.eval, e3, go_sem]) rfl
        | 23, _ => obtain rfl := Option.some.inj ho; have h0 : _ = _ := hd 22 (by omega) (by kernel_rfl) 34 rfl; have z := keep1 hb c4; exact uni_val rfl rfl (by simp only [Act.eval, execOp, List.getElem_toArray, List.getElem_cons_zero, List.getElem_cons_succ, h0]; go_simp) rfl
        | 24, _ => obtain rfl := Option.some.inj ho; exact uni_val rfl rfl (by simp [execOp, Act.eval, e5, go_sem]) rfl
        | 25, _ => obtain rfl := Option.some.inj ho; have h0 : _ = _ := hd 24 (by omega) (by kernel_rfl) 36 rfl; have z := keep1 hb d4; exact uni_val rfl rfl (by simp only [Act.eval, execOp, List.getElem_toArray, List.getElem_cons_zero, List.getElem_cons_succ, h0]; go_simp) rfl
        | 26, _ => obtain rfl := Option.some.inj ho; have h0 : _ = _ := hd 23 (by omega) (by kernel_rfl) 35 rfl; have g0 := (Array.getD_eq_getD_getElem? ..).symm.trans h0; have h1 : _ = _ := hd 25 (by omega) (by kernel_rfl) 37 rfl; have g1 := (Array.getD_eq_getD_getElem? ..).symm.trans h1; exact uni_sl rfl rfl (by simp only [Act.eval, execOp, List.getElem_toArray, List.getElem_cons_zero, List.getElem_cons_succ, h0, h1]; go_simp)
        | 27, _ => obtain rfl := Option.some.inj ho; obtain ⟨q, h0, hx, hy⟩ := hd 26 (by omega) (by kernel_rfl) 38 rfl; exact uni_sum rfl rfl (by simp only [Act.eval, execOp, List.getElem_toArray, List.getElem_cons_zero, List.getElem_cons_succ, h0]; go_simp) hx hy ⟨hbd.e.1, hbd.e.2⟩ ⟨hbr.e.1, hbr.e.2⟩
        | 28, _ => obtain rfl := Option.some.inj ho; have h0 : _ = _ := hd 3 (by omega) (by kernel_rfl) 15 rfl; have h1 : _ = _ := hd 9 (by omega) (by kernel_rfl) 21 rfl; have h2 : _ = _ := hd 15 (by omega) (by kernel_rfl) 27 rfl; have h3 : _ = _ := hd 21 (by omega) (by kernel_rfl) 33 rfl; have h4 : _ = _ := hd 27 (by omega) (by kernel_rfl) 39 rfl; exact uni_val rfl rfl (by simp only [Act.eval, execOp, List.getElem_toArray, List.getElem_cons_zero, List.getElem_cons_succ, List.map_toArray, List.map_cons, List.map_nil, h0, h1, h2, h3, h4]; go_simp) rfl
        | _ + 29, h => omega
      · intro a' w' hb hfr hF
        rw [if_pos (of_decide_eq_true (by kernel_rfl))]
        have h40 : a'.tmps.getD 40 undef = _ := hF 28 (by omega) 40 (by kernel_rfl)
        have ha := hfr.act ((List.range 29).map (· + 12)) (by kernel_rfl)
        rw [show (List.range (Array.size (Act.tmps _))) = List.range 43 from rfl, show List.range 43 = [0, 1, 2, 3, 4, 5, 6, 7, 8, 9, 10, 11, 12, 13, 14, 15, 16, 17, 18, 19, 20, 21, 22, 23, 24, 25, 26, 27, 28, 29, 30, 31, 32, 33, 34, 35, 36, 37, 38, 39, 40, 41, 42] from rfl] at ha
        simp (decide := true) only [List.map_cons, List.map_nil, ↓reduceIte, h40] at ha
        clear hfr hF h40 hbd hbr c0 c1 c2 c3 c4 d0 d1 d2 d3 d4
        generalize a'.tmps.getD 12 undef = x12 at ha
        generalize a'.tmps.getD 13 undef = x13 at ha
        generalize a'.tmps.getD 14 undef = x14 at ha
        generalize a'.tmps.getD 15 undef = x15 at ha
        generalize a'.tmps.getD 16 undef = x16 at ha
        generalize a'.tmps.getD 17 undef = x17 at ha
        generalize a'.tmps.getD 18 undef = x18 at ha
        generalize a'.tmps.getD 19 undef = x19 at ha
        generalize a'.tmps.getD 20 undef = x20 at ha
        generalize a'.tmps.getD 21 undef = x21 at ha
        generalize a'.tmps.getD 22 undef = x22 at ha
        generalize a'.tmps.getD 23 undef = x23 at ha
        generalize a'.tmps.getD 24 undef = x24 at ha
        generalize a'.tmps.getD 25 undef = x25 at ha
        generalize a'.tmps.getD 26 undef = x26 at ha
        generalize a'.tmps.getD 27 undef = x27 at ha
        generalize a'.tmps.getD 28 undef = x28 at ha
        generalize a'.tmps.getD 29 undef = x29 at ha
        generalize a'.tmps.getD 30 undef = x30 at ha
        generalize a'.tmps.getD 31 undef = x31 at ha
        generalize a'.tmps.getD 32 undef = x32 at ha
        generalize a'.tmps.getD 33 undef = x33 at ha
        generalize a'.tmps.getD 34 undef = x34 at ha
        generalize a'.tmps.getD 35 undef = x35 at ha
        generalize a'.tmps.getD 36 undef = x36 at ha
        generalize a'.tmps.getD 37 undef = x37 at ha
        generalize a'.tmps.getD 38 undef = x38 at ha
        generalize a'.tmps.getD 39 undef = x39 at ha
        subst ha
        have hs1 : w.heap.size + 1 < W.heap.size := (Array.getElem?_eq_some_iff.1 HT2).1
        have HT3 : w'.heap[w.heap.size + 1]? = some (.cells #[.int .i64 t.a, .int .i64 t.b, .int .i64 t.c, .int .i64 t.d, .int .i64 t.e] 35 (0, 0)) := by rw [hb.block _ hs1]; exact HT2
        have HZ3 : Hid (w'.heap[w.heap.size]? = some (.cells #[.int .i64 0, .int .i64 0, .int .i64 0, .int .i64 0, .int .i64 0] 35 (0, 0))) := by
          show _ = _
          rw [hb.block _ (by omega)]; exact HZ2.out
        have HBw : Below w.heap.size w w' := HBW.trans (hb.mono HBW.size)
        have hbd3 : w.heap.size + 1 < w'.heap.size := Nat.lt_of_lt_of_le hs1 hb.size
        have k0 : w'.cell? ⟨w.heap.size + 1, 0, none⟩ = some (.int .i64 t.a) := by rw [Lib.cell_of_heap HT3]; rfl
        have k1 : w'.cell? ⟨w.heap.size + 1, 1, none⟩ = some (.int .i64 t.b) := by rw [Lib.cell_of_heap HT3]; rfl
        have k2 : w'.cell? ⟨w.heap.size + 1, 2, none⟩ = some (.int .i64 t.c) := by rw [Lib.cell_of_heap HT3]; rfl
        have k3 : w'.cell? ⟨w.heap.size + 1, 3, none⟩ = some (.int .i64 t.d) := by rw [Lib.cell_of_heap HT3]; rfl
        have k4 : w'.cell? ⟨w.heap.size + 1, 4, none⟩ = some (.int .i64 t.e) := by rw [Lib.cell_of_heap HT3]; rfl
        have kf := Lib.frozen_of_heap HT3
        unfold wpOp
        simp (config := { failIfUnchanged := false }) [Region.wanted, Oper.wp, Oper.upon, execOp, Act.eval, go_sem, k0, k1, k2, k3, k4, kf, hbd3]
        refine .inl ?_
        have HB5 := ((((HBw.setCell (p := ⟨w.heap.size + 1, 0, none⟩) (by simp) (.int .i64 (t.a + 1))).setCell (p := ⟨w.heap.size + 1, 1, none⟩) (by simp) (.int .i64 (t.b + r.b))).setCell (p := ⟨w.heap.size + 1, 2, none⟩) (by simp) (.int .i64 (t.c + r.c))).setCell (p := ⟨w.heap.size + 1, 3, none⟩) (by simp) (.int .i64 (t.d + r.d))).setCell (p := ⟨w.heap.size + 1, 4, none⟩) (by simp) (.int .i64 (t.e + r.e))
        have HT5 := set_same (i := 4) (set_same (i := 3) (set_same (i := 2) (set_same (i := 1) (set_same (i := 0) HT3 (.int .i64 (t.a + 1))) (.int .i64 (t.b + r.b))) (.int .i64 (t.c + r.c))) (.int .i64 (t.d + r.d))) (.int .i64 (t.e + r.e))
        have HZ5 := (HZ3.out ▸ Below.heap_setCell w' ⟨w.heap.size + 1, 0, none⟩ (.int .i64 (t.a + 1)) w.heap.size (by simp))
        have HZ5 := (HZ5 ▸ Below.heap_setCell _ ⟨w.heap.size + 1, 1, none⟩ (.int .i64 (t.b + r.b)) w.heap.size (by simp))
        have HZ5 := (HZ5 ▸ Below.heap_setCell _ ⟨w.heap.size + 1, 2, none⟩ (.int .i64 (t.c + r.c)) w.heap.size (by simp))
        have HZ5 := (HZ5 ▸ Below.heap_setCell _ ⟨w.heap.size + 1, 3, none⟩ (.int .i64 (t.d + r.d)) w.heap.size (by simp))
        have HZ5 := (HZ5 ▸ Below.heap_setCell _ ⟨w.heap.size + 1, 4, none⟩ (.int .i64 (t.e + r.e)) w.heap.size (by simp))
        generalize ((((w'.setCell ⟨w.heap.size + 1, 0, none⟩ (.int .i64 (t.a + 1))).setCell ⟨w.heap.size + 1, 1, none⟩ (.int .i64 (t.b + r.b))).setCell ⟨w.heap.size + 1, 2, none⟩ (.int .i64 (t.c + r.c))).setCell ⟨w.heap.size + 1, 3, none⟩ (.int .i64 (t.d + r.d))).setCell ⟨w.heap.size + 1, 4, none⟩ (.int .i64 (t.e + r.e)) = W5 at *
        simp at HT5
        clear k0 k1 k2 k3 k4 kf HT3 HZ3 HZ2 HT2 HBw hb
        go_wp2
        go_roundw
        case rel => exact ⟨k + 1, by omega, by go_num, HZ5, by show _ = _; rw [hst, HT5], HB5⟩
        case measure => simp [intOf]; omega
    · obtain rfl : k = l.length := by omega
      have ht : l.take l.length = l := List.take_length
      rw [ht] at HT
      have hkl : ¬ (l.length : Int) < (l.length : Int) := by omega
      have z0 : wr.cell? ⟨w.heap.size, 0, none⟩ = some (.int .i64 0) := by rw [Lib.cell_of_heap HZ.out]; rfl
      have z1 : wr.cell? ⟨w.heap.size, 1, none⟩ = some (.int .i64 0) := by rw [Lib.cell_of_heap HZ.out]; rfl
      have z2 : wr.cell? ⟨w.heap.size, 2, none⟩ = some (.int .i64 0) := by rw [Lib.cell_of_heap HZ.out]; rfl
      have z3 : wr.cell? ⟨w.heap.size, 3, none⟩ = some (.int .i64 0) := by rw [Lib.cell_of_heap HZ.out]; rfl
      have z4 : wr.cell? ⟨w.heap.size, 4, none⟩ = some (.int .i64 0) := by rw [Lib.cell_of_heap HZ.out]; rfl
      have zf := Lib.frozen_of_heap HZ.out
      have k0 : wr.cell? ⟨w.heap.size + 1, 0, none⟩ = some (.int .i64 (totR l).a) := by rw [Lib.cell_of_heap HT.out]; rfl
      have k1 : wr.cell? ⟨w.heap.size + 1, 1, none⟩ = some (.int .i64 (totR l).b) := by rw [Lib.cell_of_heap HT.out]; rfl
      have k2 : wr.cell? ⟨w.heap.size + 1, 2, none⟩ = some (.int .i64 (totR l).c) := by rw [Lib.cell_of_heap HT.out]; rfl
      have k3 : wr.cell? ⟨w.heap.size + 1, 3, none⟩ = some (.int .i64 (totR l).d) := by rw [Lib.cell_of_heap HT.out]; rfl
      have k4 : wr.cell? ⟨w.heap.size + 1, 4, none⟩ = some (.int .i64 (totR l).e) := by rw [Lib.cell_of_heap HT.out]; rfl
      have hbt : w.heap.size < wr.heap.size := World.block_lt_of_cell? wr _ z0
      go_wp2
      have HBE := ((((hB.setCell (p := ⟨w.heap.size, 0, none⟩) (by simp) (.int .i64 (totR l).a)).setCell (p := ⟨w.heap.size, 1, none⟩) (by simp) (.int .i64 (totR l).b)).setCell (p := ⟨w.heap.size, 2, none⟩) (by simp) (.int .i64 (totR l).c)).setCell (p := ⟨w.heap.size, 3, none⟩) (by simp) (.int .i64 (totR l).d)).setCell (p := ⟨w.heap.size, 4, none⟩) (by simp) (.int .i64 (totR l).e)
      have HTE := set_same (i := 4) (set_same (i := 3) (set_same (i := 2) (set_same (i := 1) (set_same (i := 0) HZ.out (.int .i64 (totR l).a)) (.int .i64 (totR l).b)) (.int .i64 (totR l).c)) (.int .i64 (totR l).d)) (.int .i64 (totR l).e)
      generalize ((((wr.setCell ⟨w.heap.size, 0, none⟩ (.int .i64 (totR l).a)).setCell ⟨w.heap.size, 1, none⟩ (.int .i64 (totR l).b)).setCell ⟨w.heap.size, 2, none⟩ (.int .i64 (totR l).c)).setCell ⟨w.heap.size, 3, none⟩ (.int .i64 (totR l).d)).setCell ⟨w.heap.size, 4, none⟩ (.int .i64 (totR l).e) = WE at *
      simp at HTE
      have k0 : WE.cell? ⟨w.heap.size, 0, none⟩ = some (.int .i64 (totR l).a) := by rw [Lib.cell_of_heap HTE]; rfl
      have k1 : WE.cell? ⟨w.heap.size, 1, none⟩ = some (.int .i64 (totR l).b) := by rw [Lib.cell_of_heap HTE]; rfl
      have k2 : WE.cell? ⟨w.heap.size, 2, none⟩ = some (.int .i64 (totR l).c) := by rw [Lib.cell_of_heap HTE]; rfl
      have k3 : WE.cell? ⟨w.heap.size, 3, none⟩ = some (.int .i64 (totR l).d) := by rw [Lib.cell_of_heap HTE]; rfl
      have k4 : WE.cell? ⟨w.heap.size, 4, none⟩ = some (.int .i64 (totR l).e) := by rw [Lib.cell_of_heap HTE]; rfl
      have kl := World.block_lt_of_cell? WE _ k0
      clear hbt z0 z1 z2 z3 z4 zf
      refine bodyPost_ret (v := (totR l).val) (by simp [results, Tryd.results12, Rep.val, go_sem, k0, k1, k2, k3, k4, kl]) rfl ⟨rfl, HBE⟩

end Go.Proofs.YtohhkoojjelghaaDoor
