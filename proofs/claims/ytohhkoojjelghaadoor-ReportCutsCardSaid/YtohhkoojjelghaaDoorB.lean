/- report.line: what it answers, of numbers from 0 to 2^62, where the names and strconv's table are laid. -/
import Derived.Test.YtohhkoojjelghaaDoorA
import Derived.Test.YtohhkoojjelghaaDoorShelf
set_option linter.unusedSimpArgs false
set_option linter.unusedVariables false
namespace Go.Proofs.YtohhkoojjelghaaDoor
open Go.RowKit Go.Plan Go.Sort

def nm0 : ByteArray := ⟨#[99, 121, 99, 108, 101]⟩
def nm1 : ByteArray := ⟨#[102, 114, 101, 101]⟩
def nm2 : ByteArray := ⟨#[108, 105, 118, 101]⟩
def nm3 : ByteArray := ⟨#[102, 108, 111, 97, 116, 105, 110, 103]⟩
def nm4 : ByteArray := ⟨#[102, 114, 101, 101, 100]⟩
def nms : List ByteArray := [nm0, nm1, nm2, nm3, nm4]
/-- What the listed variables hold. -/
structure Env (w : World) : Prop where
  names : ∀ j, j < 5 → w.cell? ⟨0, j, none⟩ = some (.string (nms.getD j nm0))
  tab : Lib.TabIs Tryd.prog w "internal/strconv.uint64pow10" .u64 Lib.pow10Tab
  mx : ∃ m, w.cell? ⟨1, 0, none⟩ = some (.int .i64 m)
  size : 8 ≤ w.heap.size
theorem glob_pow : Tryd.prog.globalNamed "internal/strconv.uint64pow10" = some 2 := by kernel_rfl
theorem Env.below {w w' : World} (h : Env w) (hb : Below w.heap.size w w') : Env w' := by
  have hs := h.size
  refine ⟨fun j hj => keep1 hb (h.names j hj), ?_, h.mx.imp fun m hm => keep1 hb hm, Nat.le_trans hs hb.size⟩
  have ht := h.tab
  unfold Lib.TabIs World.var? at ht ⊢
  simp only [glob_pow, Option.bind_some] at ht ⊢
  rw [hb.block 2 (by omega)]
  exact ht
theorem grow_below (w : World) (k : Nat) (os : Array Obj) : Below w.heap.size w (grow (w.drewN k) os) :=
  ⟨rfl, rfl, rfl, by simp [grow], fun i hi => by
    show (w.heap ++ os)[i]? = _
    rw [Array.getElem?_append_left hi]⟩
theorem below_drewN (w : World) (n : Nat) : Below w.heap.size w (w.drewN n) := ⟨rfl, rfl, rfl, Nat.le_refl _, fun _ _ => rfl⟩
def dec (n : Int) : ByteArray := ⟨(Lib.decDigits n.toNat).toArray⟩
theorem itoa_any (n : Int) (w : World) (h0 : 0 ≤ n) (h1 : n ≤ 4611686018427387904) (he : Env w) :
    Calls Tryd.prog 28 #[.int .i64 n] w fun e w' => e = .returned (.string (dec n)) ∧ Below w.heap.size w w' :=
  (Tryd.strconv_Itoa n (by omega) (by omega) w he.tab).mono fun e w' ⟨hr, k, os, hw⟩ => by
    refine ⟨?_, hw ▸ grow_below w k os⟩
    rw [hr]
    unfold Lib.itoa dec
    rw [if_neg (by omega)]

theorem info9 : (Tryd.prog.info? 9).map (fun i => (i.zero, i.size, i.bytes)) = some (some (.string ⟨#[]⟩), 1, 16) := by kernel_rfl
def words (r : Rep) : List ByteArray := [nm0, dec r.a, nm1, dec r.b, nm2, dec r.c, nm3, dec r.d, nm4, dec r.e]
def lineS (r : Rep) : ByteArray := ⟨(Lib.join ((words r).map (·.data.toList)) [32]).toArray⟩
/-- Numbers that strconv takes here. -/
def Rep.fit (r : Rep) : Prop := (0 ≤ r.a ∧ r.a ≤ 4611686018427387904) ∧ (0 ≤ r.b ∧ r.b ≤ 4611686018427387904) ∧ (0 ≤ r.c ∧ r.c ≤ 4611686018427387904) ∧ (0 ≤ r.d ∧ r.d ≤ 4611686018427387904) ∧ (0 ≤ r.e ∧ r.e ≤ 4611686018427387904)
def nth (r : Rep) (k : Nat) : Int := ([r.a, r.b, r.c, r.d, r.e] : List Int).getD k 0
theorem fit_nth {r : Rep} (h : r.fit) (k : Nat) (hk : k < 5) : 0 ≤ nth r k ∧ nth r k ≤ 4611686018427387904 := by
  obtain ⟨h0, h1, h2, h3, h4⟩ := h
  match k, hk with
  | 0, _ => exact h0
  | 1, _ => exact h1
  | 2, _ => exact h2
  | 3, _ => exact h3
  | 4, _ => exact h4
theorem words_step (r : Rep) (k : Nat) (hk : k < 5) : ((words r).take (2 * (k + 1))).map Value.string = ((words r).take (2 * k)).map Value.string ++ [.string (nms.getD k nm0), .string (dec (nth r k))] := by
  match k, hk with
  | 0, _ => rfl
  | 1, _ => rfl
  | 2, _ => rfl
  | 3, _ => rfl
  | 4, _ => rfl
theorem dec_len : ∀ (k u : Nat), u < 10 ^ (k + 1) → (Lib.decDigits u).length ≤ k + 1
  | 0, u, h => by rw [Lib.decDigits, dif_pos (by simpa using h)]; simp
  | k + 1, u, h => by
    rw [Lib.decDigits]
    split
    · simp
    · have := dec_len k (u / 10) (by rw [Nat.pow_succ] at h; omega)
      simp
      omega

theorem dec_len' (n : Int) (h1 : n ≤ 4611686018427387904) : (dec n).data.toList.length ≤ 19 := by
  have := dec_len 18 n.toNat (by omega)
  simpa [dec] using this
theorem join_len (r : Rep) (h : r.fit) : (Lib.join ((words r).map (·.data.toList)) [32]).length ≤ 140737488355328 := by
  have ha := dec_len' r.a h.1.2
  have hb := dec_len' r.b h.2.1.2
  have hc := dec_len' r.c h.2.2.1.2
  have hd := dec_len' r.d h.2.2.2.1.2
  have he := dec_len' r.e h.2.2.2.2.2
  simp [words, Lib.join, List.intercalate, List.intersperse, nm0, nm1, nm2, nm3, nm4] at ha hb hc hd he ⊢
  omega

set_option maxHeartbeats 4000000 in
theorem line_any (r : Rep) (w : World) (hf : r.fit) (he : Env w) :
    Calls Tryd.prog 19 #[r.val] w fun e w' => e = .returned (.string (lineS r)) ∧ Below w.heap.size w w' := by
  have HF := Lib.hid hf
  have HE := Lib.hid he
  have hs8 := he.size
  clear hf he
  unfold Rep.val
  go_enter Tryd.func19, Tryd.ntmps19
  go_wp2_with (go_at_call 27; refine (numbers_any _ _ _ _ _ _).mono ?_; rintro q w1 ⟨rfl, hb⟩)
  have hB : Below w.heap.size w w1 := ((Below.refl _ _).alloc (Nat.le_refl _) _).trans (hb.mono (by simp))
  clear hb
  go_loopw [3, 8] (fun v i wr => ∃ k : Nat, k ≤ 5 ∧ i = .int .i64 k ∧ wr.ownsRow w.heap.size 9 1 v (2 * k) (((words r).take (2 * k)).map Value.string) ∧ Below w.heap.size w wr) (fun _ i _ => 5 - (intOf i).toNat)
  case atStart => exact ⟨0, by omega, rfl, World.ownsRow_nil _ _ _ _, hB⟩
  case round =>
    obtain ⟨k, hk, rfl, HO, hB⟩ := hrel
    have hsz := hB.size
    by_cases hlt : k < 5
    · have hix := idx5 r.a r.b r.c r.d r.e k hlt
      have hnm := keep1 hB (HE.out.names k hlt)
      have hfn := fit_nth HF.out k hlt
      have hst := Lib.hid (words_step r k hlt)
      have HO := Lib.hid HO
      have hk5 : (k : Int) < 5 := by omega
      have HE' := Lib.hid (HE.out.below hB)
      unfold nth at hfn
      unfold nth at hst
      generalize hx : ([r.a, r.b, r.c, r.d, r.e] : List Int).getD k 0 = x at *
      generalize hn : nms.getD k nm0 = nmk at *
      clear hx hn
      go_wp2
      refine region_plan [7] (takes [0, 1, 2, 3, 4] (.one 5 (.one 6 (.one 7 (takes [8] .done))))) (by kernel_rfl) (by kernel_rfl) (by kernel_rfl) (fun _ _ d _ _ h => by cases d <;> exact h) ?_
      simp only [takes]
      iterate 5 ((first | refine take_no rfl rfl ?_ | (refine take_yes rfl rfl ?_; refine ⟨?_, ?_, ?_⟩; rotate_left; · (intro w' hw'; have z1 := keep1 hw' hnm; have hc := @Below.cell _ _ _ hw'; go_simp; first | done | rfl))); try simp only [Act.put, List.setIfInBounds_toArray, List.set_cons_zero, List.set_cons_succ, List.getElem_toArray, List.getElem_cons_zero, List.getElem_cons_succ])
      refine loud_yes rfl rfl (fun K hK => ?_)
      go_simp
      refine (itoa_any _ _ hfn.1 hfn.2 (HE'.out.below (below_drewN _ 1))).mono ?_
      rintro q w2 ⟨rfl, hb⟩
      refine hK _ _ (.inr hb) ?_
      clear hK K
      try simp only [Act.put, List.setIfInBounds_toArray, List.set_cons_zero, List.set_cons_succ, List.getElem_toArray, List.getElem_cons_zero, List.getElem_cons_succ]
      have hs2 := hb.size
      refine loud_yes rfl rfl (fun K hK => ?_)
      go_simp
      refine hK _ _ (.inr ((Below.refl _ _).alloc (Nat.le_refl _) _)) ?_
      clear hK K
      try simp only [Act.put, List.setIfInBounds_toArray, List.set_cons_zero, List.set_cons_succ, List.getElem_toArray, List.getElem_cons_zero, List.getElem_cons_succ]
      have HO2 : (w2.alloc (.cells #[.string nmk, .string (dec x)] 9)).ownsRow w.heap.size 9 1 u3 (2 * k) (((words r).take (2 * k)).map Value.string) := (own_below HO.out ((below_drewN wr 1).trans hb)).alloc _
      refine loud_yes rfl rfl (fun K hK => ?_)
      refine wp_append w.heap.size (.tmp 12) (.tmp 18) 56 9 (.string ⟨#[]⟩) 1 16 rfl Tryd.underlying56 info9 rfl (by omega) _ (2 * k) _ rfl HO2 ⟨w2.heap.size, 0, none⟩ 2 2 [.string nmk, .string (dec x)] rfl rfl
        (World.news_of_block (cs := #[.string nmk, .string (dec x)]) (t := 9) (fr := (0, 0)) (heap_alloc_new w2 _)) (by simp [Value.oneCell']) (by unfold maxLen; omega) (by omega) (by simp; simp at hs2; omega) ?_
      intro v3 w3 HO3 hg3 _
      refine hK _ _ (.inl rfl) ?_
      clear hK K
      try simp only [Act.put, List.setIfInBounds_toArray, List.set_cons_zero, List.set_cons_succ, List.getElem_toArray, List.getElem_cons_zero, List.getElem_cons_succ]
      have hg3' : Below w.heap.size w w3 := ((hB.drew.trans (hb.mono (by simp; omega))).alloc (by simp at hs2; omega) _).grown hg3 (by simp at hs2 ⊢; omega) (fun j hj => own_base HO.out j hj)
      have HO3' := Lib.hid (show w3.ownsRow w.heap.size 9 1 v3 (2 * (k + 1)) (((words r).take (2 * (k + 1))).map Value.string) by rw [hst.out]; exact HO3)
      clear HO3 HO2 hg3 hb hs2
      iterate 1 ((first | refine take_no rfl rfl ?_ | (refine take_yes rfl rfl ?_; refine ⟨?_, ?_, ?_⟩; rotate_left; · (intro w' hw'; have hc := @Below.cell _ _ _ hw'; go_simp; first | done | rfl))); try simp only [Act.put, List.setIfInBounds_toArray, List.set_cons_zero, List.set_cons_succ, List.getElem_toArray, List.getElem_cons_zero, List.getElem_cons_succ])
      refine plan_done ?_
      go_wp2
      go_roundw
      case rel => exact ⟨k + 1, by omega, by go_num, HO3'.out, hg3'⟩
      case measure => simp [intOf]; omega
    · obtain rfl : k = 5 := by omega
      have HO := Lib.hid HO
      obtain ⟨g, cap, rfl, hgb, hgl⟩ := World.ownsRow.form HO.out (by omega)
      have hjl : (Lib.join ((words r).map (·.data.toList)) [32]).length ≤ 140737488355328 := join_len r HF.out
      have hcells : ∀ (j : Nat) x, (words r)[j]? = some x → wr.cell? ⟨g, 0 + j, none⟩ = some (.string x) := fun j x hx => by
        have := World.ownsRow.cells HO.out (g := g) rfl j (.string x) (by
          have : (words r).take (2 * 5) = words r := rfl
          rw [this, List.getElem?_map, hx]; rfl)
        rwa [add_plain] at this
      have HC := Lib.hid hcells
      clear hcells
      have HJ := Lib.hid hjl
      clear hjl
      go_wp2_with (go_at_call 29; refine (Tryd.strings_Join g 0 cap (words r) ⟨#[32]⟩ _ HC.out hgl (by simp [words]) (own_cap HO.out) HJ.out).mono ?_; rintro q w2 ⟨rfl, hb⟩)
      go_ret
      exact ⟨rfl, hB.trans (hb.mono hsz)⟩

end Go.Proofs.YtohhkoojjelghaaDoor
