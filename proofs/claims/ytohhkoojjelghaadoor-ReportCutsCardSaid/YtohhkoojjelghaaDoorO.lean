/- The answers that the document fixes: awake. -/
import Derived.Test.YtohhkoojjelghaaDoorN
import Derived.Test.YtohhkoojjelghaaDoorD
import Derived.ArgAppend
set_option linter.unusedSimpArgs false
set_option linter.unusedVariables false
namespace Go.Proofs.YtohhkoojjelghaaDoor
open Go.RowKit Go.Plan Go.Sort

theorem list_append_grows {P : Program} (w : World) {ops : Array Oper} {rest : List Oper} {o : Oper} {a : Act} {Q : Exit → Act → World → Prop}
    (hw : Region.wanted o (yielded ops a.tmps) = true) (s x : Operand) (t : TypeId) (hop : o.op = Op.call { callee := Callee.builtin Builtin.append, args := #[s, x], argTypes := #[t, t] })
    (e : TypeId) (i : TypeInfo) (z : Value) (size bytes : Nat) (h1 : P.underlying t = some (.slice e)) (h2 : P.info? e = some i) (h3 : i.zero = some z) (h4 : i.size = size) (h5 : i.bytes = bytes) (h6 : z.cells.size = size) (h7 : 0 < size)
    (b : Addr) (n cap : Nat) (olds : List Value) (hs : a.eval s = .slice (some b) n cap) (hlo : olds.length = n * size) (holds : ∀ j u, olds[j]? = some u → w.cell? (b.add j) = some u)
    (ad : Addr) (m c : Nat) (news : List Value) (hx : a.eval x = .slice (some ad) m c) (hn : news.length = m * size) (hc : ∀ j u, news[j]? = some u → w.cell? (ad.add j) = some u) (h1c : ∀ u ∈ news, u.oneCell' = true)
    (hfull : cap < n + m) (b1 : n + m ≤ maxLen) (b2 : (n + m) * bytes ≤ 140737488355328)
    (hK : ∀ v' w', w'.ownsRow w.heap.size e size v' (n + m) (olds ++ news) → w.grownBy w' none → wpList P ops Q rest (a.put o.dst v') w') :
    wpList P ops Q (o :: rest) a w := by
  obtain ⟨v', w', hrun, r1, r2⟩ := run_append_arg_grows (P := P) w t o.type e i z size bytes h1 h2 h3 h4 h5 h6 h7 b n cap olds hlo holds ad m c news hn hc hfull b1 b2
  unfold wpList
  rw [if_pos hw]
  refine .inl ?_
  unfold Oper.wp
  simp [execOp, hop, resolve, invoke, builtin, hs, hx, hrun, Result.andThen]
  exact hK _ _ r1 r2

def R0 : Rep := ⟨1, 60, 4, 0, 0⟩
def S0 : ByteArray := ⟨#[99, 121, 99, 108, 101, 32, 49, 32, 102, 114, 101, 101, 32, 54, 48, 32, 108, 105, 118, 101, 32, 52, 32, 102, 108, 111, 97, 116, 105, 110, 103, 32, 48, 32, 102, 114, 101, 101, 100, 32, 48, 10]⟩
theorem put0 : (⟨(putB [R0]).toArray⟩ : ByteArray) = S0 := by
  have h1 : Lib.decDigits 1 = [49] := by rw [Lib.decDigits]; rfl
  have h0 : Lib.decDigits 0 = [48] := by rw [Lib.decDigits]; rfl
  have h4 : Lib.decDigits 4 = [52] := by rw [Lib.decDigits]; rfl
  have h6 : Lib.decDigits 60 = [54, 48] := by rw [Lib.decDigits, Lib.decDigits]; rfl
  refine ba_ext ?_
  simp [putB, lineB, lineS, words, dec, R0, S0, h0, h1, h4, h6, nm0, nm1, nm2, nm3, nm4, Lib.join, List.intercalate, List.intersperse]
theorem may0 : mayL [R0] = true := by decide
theorem got0 : GotL S0.data.toList [R0] true := ⟨may0, by
  rw [← put0]; simp⟩
theorem line_first (r : Rep) : ∃ t, lineB r = 99 :: t := ⟨_, by simp [lineB, lineS, words, nm0, Lib.join, List.intercalate, List.intersperse]; rfl⟩
theorem got0x : GotL (S0 ++ ⟨#[120]⟩ : ByteArray).data.toList [R0] false := ⟨may0, by
  simp only [Bool.false_eq_true, if_false]
  refine ⟨[120], by simp, ?_, fun r _ h => ?_⟩
  · rw [← put0]; simp [ByteArray.data_append]
  · obtain ⟨t, ht⟩ := line_first r
    rw [ht] at h
    obtain ⟨u, hu⟩ := h
    simp at hu⟩
theorem size0 : S0.size = 42 := rfl

theorem Put_is (A : Option Addr) (cp n : Nat) (l : List Rep) (hn : l.length = n) (w : World) (hR : Reads w A l) (hl : l.length ≤ 1000000) (he : Env w) (hm : mayL l = true) (ln : ByteArray) (h : (⟨(putB l).toArray⟩ : ByteArray) = ln) :
    Calls Tryd.prog 11 #[.slice A n cp] w fun r w' => r = .returned (.tuple #[.string ln, .int .i64 0]) ∧ Below w.heap.size w w' := by
  subst hn h
  exact (Put_any A cp l w hR hl he).mono fun _ _ ⟨h1, h2⟩ => ⟨by rw [h1, if_pos hm], h2⟩
theorem Put_no (A : Option Addr) (cp n : Nat) (l : List Rep) (hn : l.length = n) (w : World) (hR : Reads w A l) (hl : l.length ≤ 1000000) (he : Env w) (hm : mayL l = false) :
    Calls Tryd.prog 11 #[.slice A n cp] w fun r w' => r = .returned (.tuple #[.string ⟨#[]⟩, .int .i64 8]) ∧ Below w.heap.size w w' := by
  subst hn
  exact (Put_any A cp l w hR hl he).mono fun _ _ ⟨h1, h2⟩ => ⟨by rw [h1, hm]; rfl, h2⟩
theorem Same_is (A B : Option Addr) (cp cq n k : Nat) (l m : List Rep) (hn : l.length = n) (hk : m.length = k) (w : World) (hR : Reads w A l) (hS : Reads w B m) (hl : l.length ≤ 9223372036854775807) (hm : m.length ≤ 9223372036854775807) (v : Bool) (h : decide (l = m) = v) :
    Calls Tryd.prog 9 #[.slice A n cp, .slice B k cq] w fun r w' => r = .returned (.bool v) ∧ Below w.heap.size w w' := by
  subst hn hk h
  exact Same_any A B cp cq l m w hR hS hl hm
theorem Total_is (A : Option Addr) (cp n : Nat) (l : List Rep) (hn : l.length = n) (w : World) (hR : Reads w A l) (hl : l.length ≤ 1000000) (hok : ∀ i (hi : i < l.length), l[i].ok = true) (t : Rep) (ht : totR l = t) :
    Calls Tryd.prog 12 #[.slice A n cp] w fun r w' => r = .returned t.val ∧ Below w.heap.size w w' := by
  subst hn ht
  exact Total_any A cp l w hR hl hok
/-- A row of one report, just laid. -/
theorem reads_one (w : World) (r : Rep) : Reads (w.alloc (.cells #[.int .i64 r.a, .int .i64 r.b, .int .i64 r.c, .int .i64 r.d, .int .i64 r.e] 35)) (some ⟨w.heap.size, 0, none⟩) [r] := by
  intro i q hi
  obtain ⟨rfl, rfl⟩ : i = 0 ∧ q = r := by
    cases i with
    | zero => simp at hi; exact ⟨rfl, hi.symm⟩
    | succ i => simp at hi
  refine ⟨w.heap.size, 0, rfl, ?_⟩
  have h := heap_alloc_new w (.cells #[.int .i64 q.a, .int .i64 q.b, .int .i64 q.c, .int .i64 q.d, .int .i64 q.e] 35)
  exact ⟨by rw [Lib.cell_of_heap h]; rfl, by rw [Lib.cell_of_heap h]; rfl, by rw [Lib.cell_of_heap h]; rfl, by rw [Lib.cell_of_heap h]; rfl, by rw [Lib.cell_of_heap h]; rfl⟩

theorem Get_no (s : ByteArray) (w : World) (hs : s.size ≤ 1000000) (he : Env w) (l : List Rep) (h : GotL s.data.toList l false) (n : Nat) (hn : (putB l).length = n) :
    Calls Tryd.prog 7 #[.string s] w fun e w' => e = .returned (.tuple #[.slice none 0 0, .int .i64 n, .int .i64 8]) ∧ Below w.heap.size w w' := by
  subst hn
  exact (Get_is s w hs he l false h).mono fun e w' ⟨h1, h2⟩ => ⟨by simpa [GotE] using h1, h2⟩
theorem Get_yes (s : ByteArray) (w : World) (hs : s.size ≤ 1000000) (he : Env w) (l : List Rep) (h : GotL s.data.toList l true) (n : Nat) (hn : l.length = n) :
    Calls Tryd.prog 7 #[.string s] w fun e w' => (∃ A c, e = .returned (.tuple #[.slice A n c, .int .i64 0, .int .i64 0]) ∧ Reads w' A l) ∧ Below w.heap.size w w' := by
  subst hn
  exact (Get_is s w hs he l true h).mono fun e w' ⟨h1, h2⟩ => ⟨by simpa [GotE] using h1, h2⟩
theorem len0 : (putB [R0]).length = 42 := by
  have := congrArg ByteArray.size put0
  exact this
theorem size0x : (S0 ++ ⟨#[120]⟩ : ByteArray).size ≤ 1000000 := by rw [ByteArray.size_append]; decide
theorem mayn : mayL [⟨-1, 0, 0, 0, 0⟩] = false := by decide

theorem cells_one {w : World} {b : Nat} {r : Rep} (h : Reads w (some ⟨b, 0, none⟩) [r]) : w.cell? ⟨b, 0, none⟩ = some (.int .i64 r.a) ∧ w.cell? ⟨b, 1, none⟩ = some (.int .i64 r.b) ∧ w.cell? ⟨b, 2, none⟩ = some (.int .i64 r.c) ∧ w.cell? ⟨b, 3, none⟩ = some (.int .i64 r.d) ∧ w.cell? ⟨b, 4, none⟩ = some (.int .i64 r.e) := by
  obtain ⟨b', o', hA, hr⟩ := h 0 r rfl
  obtain ⟨rfl, rfl⟩ : b = b' ∧ 0 = o' := by injection hA with h; injection h with h1 h2; exact ⟨h1, h2⟩
  obtain ⟨c0, c1, c2, c3, c4⟩ := hr
  simp only [Nat.zero_mul, Nat.zero_add] at c0 c1 c2 c3 c4
  exact ⟨c0, c1, c2, c3, c4⟩
theorem holds_one {w : World} {b : Nat} {r : Rep} (h : Reads w (some ⟨b, 0, none⟩) [r]) : ∀ j u, (flat [r])[j]? = some u → w.cell? ((⟨b, 0, none⟩ : Addr).add j) = some u := by
  obtain ⟨c0, c1, c2, c3, c4⟩ := cells_one h
  intro j u hj
  rw [add_plain]
  match j, hj with
  | 0, hj => simp [flat] at hj; subst hj; exact c0
  | 1, hj => simp [flat] at hj; subst hj; exact c1
  | 2, hj => simp [flat] at hj; subst hj; exact c2
  | 3, hj => simp [flat] at hj; subst hj; exact c3
  | 4, hj => simp [flat] at hj; subst hj; exact c4
  | _ + 5, hj => simp [flat] at hj

theorem holds_L0 {w : World} {b : Nat} (h : Reads w (some ⟨b, 0, none⟩) [R0]) (o : Obj) : ∀ (j : Nat) (u : Value), ([.int .i64 1, .int .i64 60, .int .i64 4, .int .i64 0, .int .i64 0] : List Value)[j]? = some u → (w.alloc o).cell? ((⟨b, 0, none⟩ : Addr).add j) = some u :=
  holds_one (h.below ((Below.refl _ _).alloc (Nat.le_refl _) _))

def R1 : Rep := ⟨2, 60, 4, 0, 0⟩
theorem tot_oks : ∀ i (hi : i < [R0, R1].length), [R0, R1][i].ok = true := by decide
/-- The text, and all that is asked of it. -/
structure Txt (s s1 : ByteArray) : Prop where
  app : s ++ ⟨#[120]⟩ = s1
  put : (⟨(putB [R0]).toArray⟩ : ByteArray) = s
  got : GotL s.data.toList [R0] true
  gotx : GotL s1.data.toList [R0] false
  size : s.size = 42
  sizex : s1.size ≤ 1000000
  lst : s.toList = [99, 121, 99, 108, 101, 32, 49, 32, 102, 114, 101, 101, 32, 54, 48, 32, 108, 105, 118, 101, 32, 52, 32, 102, 108, 111, 97, 116, 105, 110, 103, 32, 48, 32, 102, 114, 101, 101, 100, 32, 48, 10]
theorem txt0 : Txt S0 (S0 ++ ⟨#[120]⟩) := ⟨rfl, put0, got0, got0x, rfl, size0x, by rw [ByteArray.toList_eq]; rfl⟩

set_option maxRecDepth 8000 in
set_option maxHeartbeats 4000000 in
theorem awake_any (w : World) (he : Env w) : Calls Tryd.prog 6 #[] w fun e w' => e = .returned (.bool true) ∧ Below w.heap.size w w' := by
  have HE := Lib.hid he
  clear he
  obtain ⟨s0, s1, ht0⟩ : ∃ s s1, Txt s s1 := ⟨S0, _, txt0⟩
  have HT0 := Lib.hid ht0
  have happ := ht0.app
  clear ht0
  obtain ⟨i0, hi0, hzz⟩ := Option.map_eq_some_iff.1 info35
  simp only [Prod.mk.injEq] at hzz
  obtain ⟨hz0, hz1, hz2⟩ := hzz
  go_enter Tryd.func6, Tryd.ntmps6
  have hB0 : Below w.heap.size w (w.alloc (.cells #[.int .i64 1, .int .i64 60, .int .i64 4, .int .i64 0, .int .i64 0] 35)) := (Below.refl _ _).alloc (Nat.le_refl _) _
  have HR0 : Hid (Reads (w.alloc (.cells #[.int .i64 1, .int .i64 60, .int .i64 4, .int .i64 0, .int .i64 0] 35)) (some ⟨w.heap.size, 0, none⟩) [R0]) := reads_one w R0
  go_wp2_with (go_at_call 11; refine (Put_is _ _ _ [R0] rfl _ HR0.out (by decide) (HE.out.below hB0) may0 s0 HT0.out.put).mono ?_; rintro q w1 ⟨rfl, hb1⟩)
  have hB1 : Below w.heap.size w w1 := hB0.trans (hb1.mono (by simp))
  have HR1 := Lib.hid (HR0.out.below hb1)
  clear hb1 HR0 hB0
  refine (Get_yes s0 w1 (by rw [HT0.out.size]; decide) (HE.out.below hB1) [R0] HT0.out.got 1 rfl).mono ?_
  rintro q w2 ⟨⟨B, cB, rfl, hRB⟩, hb2⟩
  have hB2 : Below w.heap.size w w2 := hB1.trans (hb2.mono hB1.size)
  have HR2 := Lib.hid (HR1.out.below hb2)
  have HRB := Lib.hid hRB
  clear hb2 HR1 hB1 hRB
  have hsz0 : s0.size = 42 := HT0.out.size
  have hlst := HT0.out.lst
  go_wp2_with (go_at_call 7; refine (Get_no s1 w2 HT0.out.sizex (HE.out.below hB2) [R0] HT0.out.gotx 42 len0).mono ?_; rintro q w3 ⟨rfl, hb3⟩)
  have hB3 : Below w.heap.size w w3 := hB2.trans (hb3.mono hB2.size)
  have HR3 := Lib.hid (HR2.out.below hb3)
  have HRB3 := Lib.hid (HRB.out.below hb3)
  clear hb3 HR2 HRB hB2
  have hB4 : Below w.heap.size w (w3.alloc (.cells #[.int .i64 (-1), .int .i64 0, .int .i64 0, .int .i64 0, .int .i64 0] 35)) := hB3.alloc hB3.size _
  have HR4 : Hid (Reads (w3.alloc (.cells #[.int .i64 (-1), .int .i64 0, .int .i64 0, .int .i64 0, .int .i64 0] 35)) (some ⟨w3.heap.size, 0, none⟩) [⟨-1, 0, 0, 0, 0⟩]) := reads_one w3 ⟨-1, 0, 0, 0, 0⟩
  go_wp2_with (go_at_call 11; refine (Put_no _ _ _ [⟨-1, 0, 0, 0, 0⟩] rfl _ HR4.out (by decide) (HE.out.below hB4) mayn).mono ?_; rintro q w4 ⟨rfl, hb4⟩)
  have hB5 : Below w.heap.size w w4 := hB4.trans (hb4.mono hB4.size)
  have HR5 : Hid (Reads w4 (some ⟨w.heap.size, 0, none⟩) [R0]) := ((HR3.out.below ((Below.refl _ _).alloc (Nat.le_refl _) _)).below hb4)
  have HRB5 : Hid (Reads w4 B [R0]) := ((HRB3.out.below ((Below.refl _ _).alloc (Nat.le_refl _) _)).below hb4)
  clear hb4 HR3 HRB3 HR4 hB3 hB4
  refine (Same_is _ _ _ _ 1 1 [R0] [R0] rfl rfl w4 HR5.out HRB5.out (by decide) (by decide) true (by simp)).mono ?_
  rintro q w5 ⟨rfl, hb5⟩
  have hB6 : Below w.heap.size w w5 := hB5.trans (hb5.mono hB5.size)
  have HR6 : Hid (Reads w5 (some ⟨w.heap.size, 0, none⟩) [R0]) := HR5.out.below hb5
  clear hb5 HR5 HRB5 hB5
  go_wp2_with (go_at_call 13; refine (May_len _ _ _ [R0] rfl _ HR6.out (by decide) true may0).mono ?_; rintro q w6 ⟨rfl, hb6⟩; have HR7 := Lib.hid (HR6.out.below hb6); have hB7 : Below w.heap.size w w6 := hB6.trans (hb6.mono hB6.size); obtain ⟨c0, c1, c2, c3, c4⟩ := cells_one HR7.out; go_wp2_with (at_builtin; refine list_append_grows _ rfl _ _ 23 rfl 35 i0 (.agg #[.int .i64 0, .int .i64 0, .int .i64 0, .int .i64 0, .int .i64 0]) 5 40 Tryd.underlying23 hi0 hz0 hz1 hz2 rfl (by decide) ⟨w.heap.size, 0, none⟩ 1 1 [.int .i64 1, .int .i64 60, .int .i64 4, .int .i64 0, .int .i64 0] rfl rfl (holds_L0 HR7.out _) ⟨w6.heap.size, 0, none⟩ 1 1 [.int .i64 1, .int .i64 60, .int .i64 4, .int .i64 0, .int .i64 0] rfl rfl (news_one w6 _) (by simp [Value.oneCell']) (by decide) (by decide) (by decide) ?_; intro v7 w7 hv7 hg7; obtain ⟨g7, cap7, rfl, hgb7, hgl7⟩ := World.ownsRow.form hv7 (by decide)); refine RowKit.Hid.out ?_)
  refine Lib.hid ?_
  have HR8 : Hid (Reads w7 (some ⟨g7, 0, none⟩) [R0, R0]) := reads_own (l := [R0, R0]) hv7
  have hB8 : Below w.heap.size w w7 := (hB7.alloc hB7.size _).grown hg7 (by simp; have := hB7.size; omega) (fun j hj => by cases hj)
  have HR9 : Hid (Reads w7 (some ⟨w.heap.size, 0, none⟩) [R0]) := (HR7.out.below ((Below.refl _ _).alloc (Nat.le_refl _) _)).below ((Below.refl _ _).grown hg7 (Nat.le_refl _) (fun j hj => by cases hj))
  clear hv7 hg7 c0 c1 c2 c3 c4 HR7 hB7
  refine (May_len _ _ _ [R0, R0] rfl _ HR8.out (by decide) false (by decide)).mono ?_
  rintro q w8 ⟨rfl, hb8⟩
  have HR10 := Lib.hid (HR9.out.below hb8)
  have hB9 : Below w.heap.size w w8 := hB8.trans (hb8.mono hB8.size)
  clear hb8 HR8 HR9 hB8
  refine RowKit.Hid.out ?_
  refine Lib.hid ?_
  go_wp2_with (at_builtin; refine list_append_grows _ rfl _ _ 23 rfl 35 i0 (.agg #[.int .i64 0, .int .i64 0, .int .i64 0, .int .i64 0, .int .i64 0]) 5 40 Tryd.underlying23 hi0 hz0 hz1 hz2 rfl (by decide) ⟨w.heap.size, 0, none⟩ 1 1 [.int .i64 1, .int .i64 60, .int .i64 4, .int .i64 0, .int .i64 0] rfl rfl (holds_L0 HR10.out _) ⟨w8.heap.size, 0, none⟩ 1 1 [.int .i64 2, .int .i64 60, .int .i64 4, .int .i64 0, .int .i64 0] rfl rfl (news_one w8 _) (by simp [Value.oneCell']) (by decide) (by decide) (by decide) ?_; intro v9 w9 hv9 hg9; obtain ⟨g9, cap9, rfl, hgb9, hgl9⟩ := World.ownsRow.form hv9 (by decide))
  have HR11 : Hid (Reads w9 (some ⟨g9, 0, none⟩) [R0, R1]) := reads_own (l := [R0, R1]) hv9
  have hB10 : Below w.heap.size w w9 := (hB9.alloc hB9.size _).grown hg9 (by simp; have := hB9.size; omega) (fun j hj => by cases hj)
  clear hv9 hg9 HR10 hB9
  refine (Total_is _ _ _ [R0, R1] rfl _ HR11.out (by decide) tot_oks ⟨2, 120, 8, 0, 0⟩ (by decide)).mono ?_
  rintro q w10 ⟨rfl, hb10⟩
  have hB11 : Below w.heap.size w w10 := hB10.trans (hb10.mono hB10.size)
  clear hb10 HR11 hB10
  unfold Rep.val
  go_wp2
  go_ret
  exact ⟨rfl, hB11⟩

end Go.Proofs.YtohhkoojjelghaaDoor
