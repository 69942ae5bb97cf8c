/- The walk of ReportParts. -/
import Derived.Test.YtohhkoojjelghaaDoorR
set_option linter.unusedSimpArgs false
set_option linter.unusedVariables false
namespace Go.Proofs.YtohhkoojjelghaaDoor
open Go.RowKit Go.Plan Go.Sort

theorem rMay_is (A : Option Addr) (cp n : Nat) (l : List Rep) (hn : l.length = n) (w : World) (hR : Reads w A l) (hl : l.length ≤ 9223372036854775807) (v : Bool) (h : mayL l = v) :
    Calls Tryd.prog 10 #[.slice A n cp] w fun r w' => r = .returned (.bool v) ∧ Below w.heap.size w w' := by
  subst hn h
  exact rMay_any A cp l w hR hl

theorem parts_long (A : Option Addr) (cp n : Nat) (cut : Int) (w : World) (hn : 100 < n) (hl : n ≤ 9223372036854775807) (he : Env w) :
    Calls Tryd.prog 4 #[.slice A n cp, .int .u8 cut] w fun e w' => e = .returned (.bool true) ∧ Below w.heap.size w w' := by
  have HE := Lib.hid he
  clear he
  have hgt : (100 : Int) < n := by omega
  go_enter Tryd.func4, Tryd.ntmps4
  go_wp2_with fail
  refine (awake_any w HE.out).mono ?_
  rintro q w1 ⟨rfl, hb1⟩
  go_wp2_with fail
  refine (awake_any w1 (HE.out.below hb1)).mono ?_
  rintro q w2 ⟨rfl, hb2⟩
  have hB := hb1.trans (hb2.mono hb1.size)
  clear hb1 hb2
  go_wp2
  go_ret
  exact ⟨rfl, hB⟩

theorem parts_not (A : Option Addr) (cp n : Nat) (cut : Int) (l : List Rep) (hn : l.length = n) (w : World) (hR : Reads w A l) (hl : n ≤ 100) (hm : mayL l = false) (he : Env w) :
    Calls Tryd.prog 4 #[.slice A n cp, .int .u8 cut] w fun e w' => e = .returned (.bool true) ∧ Below w.heap.size w w' := by
  have HE := Lib.hid he
  have HR := Lib.hid hR
  have HM := Lib.hid hm
  have HN := Lib.hid hn
  clear he hR hm hn
  have hgt : ¬ (100 : Int) < n := by omega
  go_enter Tryd.func4, Tryd.ntmps4
  go_wp2_with fail
  refine (awake_any w HE.out).mono ?_
  rintro q w1 ⟨rfl, hb1⟩
  go_wp2_with fail
  refine (rMay_is A cp n l HN.out w1 (HR.out.below hb1) (by have := HN.out; omega) false HM.out).mono ?_
  rintro q w2 ⟨rfl, hb2⟩
  have hB := hb1.trans (hb2.mono hb1.size)
  clear hb1 hb2
  go_wp2_with fail
  refine (awake_any w2 (HE.out.below hB)).mono ?_
  rintro q w3 ⟨rfl, hb3⟩
  have hB3 := hB.trans (hb3.mono hB.size)
  clear hB hb3
  go_wp2
  go_ret
  exact ⟨rfl, hB3⟩

theorem totR_app (l m : List Rep) : totR (l ++ m) = ⟨(totR l).a + (totR m).a, (totR l).b + (totR m).b, (totR l).c + (totR m).c, (totR l).d + (totR m).d, (totR l).e + (totR m).e⟩ := by
  simp [totR]
theorem tot_all (l : List Rep) (hl : l.length ≤ 1000000) (hok : ∀ r ∈ l, r.ok = true) : Bd (totR l) := by
  have h := tot_bd l hl (fun i hi => hok _ (List.getElem_mem hi)) l.length (Nat.le_refl _)
  rwa [List.take_length] at h
theorem Total_mem (A : Option Addr) (cp n : Nat) (l : List Rep) (hn : l.length = n) (w : World) (hR : Reads w A l) (hl : l.length ≤ 1000000) (hok : ∀ r ∈ l, r.ok = true) (a b c d e : Int) (ht : totR l = ⟨a, b, c, d, e⟩) :
    Calls Tryd.prog 12 #[.slice A n cp] w fun r w' => r = .returned (.agg #[.int .i64 a, .int .i64 b, .int .i64 c, .int .i64 d, .int .i64 e]) ∧ Below w.heap.size w w' :=
  Total_is A cp n l hn w hR hl (fun i hi => hok _ (List.getElem_mem hi)) _ ht
theorem may_drop {l : List Rep} (h : mayL l = true) (k : Nat) : mayL (l.drop k) = true := by
  refine mayL_yes fun j hj => ?_
  rw [List.length_drop] at hj
  have hg := may_good h (k + j) (by omega)
  have h1 : (l.drop k).getD j Rep.zero = l.getD (k + j) Rep.zero := by simp [List.getD]
  unfold good at hg ⊢
  rw [h1]
  simp only [Bool.and_eq_true, Bool.or_eq_true, decide_eq_true_eq] at hg ⊢
  refine ⟨hg.1, ?_⟩
  by_cases hj0 : j = 0
  · exact .inl hj0
  · right
    have h2 : (l.drop k).getD (j - 1) Rep.zero = l.getD (k + j - 1) Rep.zero := by simp [List.getD, show k + (j - 1) = k + j - 1 by omega]
    rw [h2]
    rcases hg.2 with h | h
    · omega
    · exact h

set_option maxHeartbeats 4000000 in
theorem parts_yes (A : Option Addr) (cp n : Nat) (cut : Int) (h0 : 0 ≤ cut) (h1 : cut ≤ 255) (l : List Rep) (hn : l.length = n) (w : World) (hR : Reads w A l) (hl : n ≤ 100) (hm : mayL l = true) (he : Env w) :
    Calls Tryd.prog 4 #[.slice A n cp, .int .u8 cut] w fun e w' => e = .returned (.bool true) ∧ Below w.heap.size w w' := by
  have HE := Lib.hid he
  have HR := Lib.hid hR
  have HM := Lib.hid hm
  have HN := Lib.hid hn
  clear he hR hm hn
  have hgt : ¬ (100 : Int) < n := by omega
  obtain ⟨k, hk, hkn⟩ : ∃ k : Nat, cut % ((n : Int) + 1) = (k : Int) ∧ k ≤ n := by
    have h1 := Int.emod_nonneg cut (show (n : Int) + 1 ≠ 0 by omega)
    have h2 := Int.emod_lt_of_pos cut (show (0 : Int) < (n : Int) + 1 by omega)
    exact ⟨(cut % ((n : Int) + 1)).toNat, by omega, by omega⟩
  have hki : (k : Int) ≤ (n : Int) := by omega
  obtain ⟨t0, ht0⟩ : ∃ t, (⟨(putB l).toArray⟩ : ByteArray) = t := ⟨_, rfl⟩
  obtain ⟨t1, ht1⟩ : ∃ t, (⟨(putB (l.take k)).toArray⟩ : ByteArray) = t := ⟨_, rfl⟩
  obtain ⟨t2, ht2⟩ : ∃ t, (⟨(putB (l.drop k)).toArray⟩ : ByteArray) = t := ⟨_, rfl⟩
  have happ : t1 ++ t2 = t0 := by
    rw [← ht0, ← ht1, ← ht2]
    refine ba_ext ?_
    rw [ByteArray.data_append, Array.toList_append, ← put_app, List.take_append_drop]
  have hts : t1.size + t2.size ≤ 1000000 := by
    have h1 := put_len l (fun i hi => ok_fit (may_oks HM.out _ (List.getElem_mem hi))) l.length (Nat.le_refl _)
    rw [List.take_length] at h1
    have h2 : t0.size = (putB l).length := by rw [← ht0]; rfl
    have h3 : t0.size = t1.size + t2.size := by rw [← happ, ByteArray.size_append]
    have := HN.out
    omega
  have HT0 := Lib.hid ht0
  have HT1 := Lib.hid ht1
  have HT2 := Lib.hid ht2
  clear ht0 ht1 ht2
  have HK : Hid (∀ r ∈ l, r.ok = true) := may_oks HM.out
  have HL : Hid (l.length ≤ 1000000) := by have := HN.out; show _ ≤ _; omega
  obtain ⟨y, hy⟩ : ∃ y, totR (l.take k) = y := ⟨_, rfl⟩
  obtain ⟨z, hz⟩ : ∃ z, totR (l.drop k) = z := ⟨_, rfl⟩
  have hyb : Bd y := hy ▸ tot_all (l.take k) (by rw [List.length_take]; have := HL.out; omega) fun r hr => HK.out r (List.mem_of_mem_take hr)
  have hzb : Bd z := hz ▸ tot_all (l.drop k) (by rw [List.length_drop]; have := HL.out; omega) fun r hr => HK.out r (List.mem_of_mem_drop hr)
  have hx : totR l = ⟨y.a + z.a, y.b + z.b, y.c + z.c, y.d + z.d, y.e + z.e⟩ := by
    rw [← hy, ← hz, ← totR_app, List.take_append_drop]
  obtain ⟨ya, yb, yc, yd, ye⟩ := y
  obtain ⟨za, zb, zc, zd, ze⟩ := z
  have HY := Lib.hid hy
  have HZ := Lib.hid hz
  have HX := Lib.hid hx
  obtain ⟨ya0, yb0, yc0, yd0, ye0⟩ := hyb
  obtain ⟨za0, zb0, zc0, zd0, ze0⟩ := hzb
  simp only at ya0 yb0 yc0 yd0 ye0 za0 zb0 zc0 zd0 ze0
  clear hy hz hx
  obtain ⟨i0, hi0, hzz⟩ := Option.map_eq_some_iff.1 info35
  simp only [Prod.mk.injEq] at hzz
  obtain ⟨hz0, hz1, hz2⟩ := hzz
  go_enter Tryd.func4, Tryd.ntmps4
  go_wp2_with fail
  refine (awake_any w HE.out).mono ?_
  rintro q w1 ⟨rfl, hb1⟩
  go_wp2_with fail
  refine (rMay_is A cp n l HN.out w1 (HR.out.below hb1) (by have := HN.out; omega) true HM.out).mono ?_
  rintro q w2 ⟨rfl, hb2⟩
  have hB2 := hb1.trans (hb2.mono hb1.size)
  have HR2 := Lib.hid ((HR.out.below hb1).below hb2)
  clear hb1 hb2
  have HO2 : Hid ((w2.alloc (.cells #[] 35)).ownsRow w.heap.size 35 5 (.slice (some ⟨w2.heap.size, 0, none⟩) 0 0) 0 []) :=
    World.ownsRow_made w2 #[] 0 hB2.size (Nat.zero_le _) rfl
  have HW2 : Hid (Words.Reads (w2.alloc (.cells #[] 35)) w2.heap.size 5 A n (flat l)) := by
    have h := (HR2.out).words
    rw [HN.out] at h
    exact h.below ((Below.refl _ _).alloc (Nat.le_refl _) _)
  have hbase : w.heap.size ≤ w2.heap.size := hB2.size
  go_wp2_with (at_builtin; refine Words.wpList_append_any _ rfl (.tmp 29) (.tmp 30) _ rfl w.heap.size 35 i0 _ 5 40 Tryd.underlying23 hi0 hz0 hz1 hz2 rfl (by decide) (.slice (some ⟨w2.heap.size, 0, none⟩) 0 0) 0 [] rfl HO2.out w2.heap.size A n cp (flat l) rfl HW2.out (flat_one l) (by unfold maxLen; omega) (by omega) (by simp; omega) ?_; intro v3 w3 HO3 hg3 hat3; refine RowKit.Hid.out ?_)
  refine Lib.hid ?_
  have hB3 : Below w.heap.size w w3 := (hB2.alloc hbase _).grown hg3 (by simp; omega) (fun k hk => by cases hk; exact hbase)
  have HR3 : Hid (Reads w3 A l) := HR2.out.below (((Below.refl _ _).alloc (Nat.le_refl _) _).grown hg3 (by simp) (fun k hk => by cases hk; exact Nat.le_refl _))
  obtain ⟨B, c, rfl, hc0, hc1, hRB⟩ : ∃ B c, v3 = .slice B n c ∧ n ≤ c ∧ c ≤ maxLen ∧ Reads w3 B l := by
    simp only [Nat.zero_add, List.nil_append] at HO3
    rw [← HN.out] at HO3 ⊢
    exact own_form' HO3
  have HRB3 := Lib.hid hRB
  clear hRB HO3 hg3 hat3 HO2 HW2 HR2
  go_wp2_with fail
  refine (Put_is B c n l HN.out w3 HRB3.out (by have := HN.out; omega) (HE.out.below hB3) HM.out t0 HT0.out).mono ?_
  rintro q w4 ⟨rfl, hb4⟩
  have hB4 := hB3.trans (hb4.mono hB3.size)
  have HR4 := Lib.hid (HR3.out.below hb4)
  have HRB4 := Lib.hid (HRB3.out.below hb4)
  clear hb4 HR3 HRB3 hB3
  have hkc : k ≤ c := by omega
  have hkci : (k : Int) ≤ (c : Int) := by omega
  go_wp2_with fail
  refine (Put_is B c k (l.take k) (by have := HN.out; rw [List.length_take]; omega) w4 (HRB4.out.take k) (by rw [List.length_take]; have := HL.out; omega) (HE.out.below hB4) (may_pre (k := l.drop k) (by rw [List.take_append_drop]; exact HM.out)) t1 HT1.out).mono ?_
  rintro q w5 ⟨rfl, hb5⟩
  have hB5 := hB4.trans (hb5.mono hB4.size)
  have HR5 := Lib.hid (HR4.out.below hb5)
  have HRB5 := Lib.hid (HRB4.out.below hb5)
  clear hb5 HR4 HRB4 hB4
  have HLC : Hid (l.length ≤ c) := by have := HN.out; show _ ≤ _; omega
  have HDR : Hid (∀ W : World, Reads W B l → (k < c → Reads W (B.map (·.add (k * 5))) (l.drop k)) ∧ (¬ k < c → Reads W B (l.drop k))) := fun W hW => by
    have h := hW.drop (k := k) HLC.out
    constructor
    · intro h'; rwa [if_neg (by omega)] at h
    · intro h'; rwa [if_pos (by omega)] at h
  have HDL : Hid ((l.drop k).length = n - k) := by show _ = _; rw [List.length_drop, HN.out]
  have HDS : Hid ((l.drop k).length ≤ 1000000) := by have := HDL.out; have := HN.out; have := HL.out; show _ ≤ _; omega
  have hck : k < c ∨ ¬ k < c := Nat.lt_or_ge k c |>.imp id (by omega)
  rcases hck with hck | hck
  all_goals
    go_wp2_with fail
    refine (Put_is _ _ (n - k) (l.drop k) HDL.out w5 (by first | exact (HDR.out _ HRB5.out).1 hck | exact (HDR.out _ HRB5.out).2 hck) HDS.out (HE.out.below hB5) (may_drop HM.out k) t2 HT2.out).mono ?_
    rintro q w6 ⟨rfl, hb6⟩
    have hB6 := hB5.trans (hb6.mono hB5.size)
    have HR6 := Lib.hid (HR5.out.below hb6)
    have HRB6 := Lib.hid (HRB5.out.below hb6)
    clear hb6 HR5 HRB5 hB5
    go_wp2_with fail
    refine (Total_mem B c n l HN.out w6 HRB6.out HL.out HK.out _ _ _ _ _ HX.out).mono ?_
    rintro q w7 ⟨rfl, hb7⟩
    have hB7 := hB6.trans (hb7.mono hB6.size)
    have HR7 := Lib.hid (HR6.out.below hb7)
    have HRB7 := Lib.hid (HRB6.out.below hb7)
    clear hb7 HR6 HRB6 hB6
    go_wp2_with fail
    have hA7 : Below w7.heap.size w7 (w7.alloc (Obj.cells #[.int .i64 (ya + za), .int .i64 (yb + zb), .int .i64 (yc + zc), .int .i64 (yd + zd), .int .i64 (ye + ze)] 35)) := (Below.refl _ _).alloc (Nat.le_refl _) _
    have HX7 : Hid (Reads (w7.alloc (Obj.cells #[.int .i64 (ya + za), .int .i64 (yb + zb), .int .i64 (yc + zc), .int .i64 (yd + zd), .int .i64 (ye + ze)] 35)) (some ⟨w7.heap.size, 0, none⟩) [⟨ya + za, yb + zb, yc + zc, yd + zd, ye + ze⟩]) := reads_one w7 ⟨ya + za, yb + zb, yc + zc, yd + zd, ye + ze⟩
    refine (Total_mem B c k (l.take k) (by have := HN.out; rw [List.length_take]; omega) _ ((HRB7.out.below hA7).take k) (by rw [List.length_take]; have := HL.out; omega) (fun r hr => HK.out r (List.mem_of_mem_take hr)) _ _ _ _ _ HY.out).mono ?_
    rintro q w8 ⟨rfl, hb8⟩
    have hB8 := (hB7.alloc hB7.size _).trans (hb8.mono (by have := hB7.size; simp; omega))
    have HR8 := Lib.hid ((HR7.out.below hA7).below hb8)
    have HRB8 := Lib.hid ((HRB7.out.below hA7).below hb8)
    have HX8 := Lib.hid (HX7.out.below hb8)
    clear hb8 HR7 HRB7 hB7 hA7 HX7
    go_wp2_with fail
    have hA8 : Below w8.heap.size w8 (w8.alloc (Obj.cells #[.int .i64 ya, .int .i64 yb, .int .i64 yc, .int .i64 yd, .int .i64 ye] 35)) := (Below.refl _ _).alloc (Nat.le_refl _) _
    have HY8 : Hid (Reads (w8.alloc (Obj.cells #[.int .i64 ya, .int .i64 yb, .int .i64 yc, .int .i64 yd, .int .i64 ye] 35)) (some ⟨w8.heap.size, 0, none⟩) [⟨ya, yb, yc, yd, ye⟩]) := reads_one w8 ⟨ya, yb, yc, yd, ye⟩
    refine (Total_mem _ _ (n - k) (l.drop k) HDL.out _ (by first | exact (HDR.out _ (HRB8.out.below hA8)).1 hck | exact (HDR.out _ (HRB8.out.below hA8)).2 hck) HDS.out (fun r hr => HK.out r (List.mem_of_mem_drop hr)) _ _ _ _ _ HZ.out).mono ?_
    rintro q w9 ⟨rfl, hb9⟩
    have hB9 := (hB8.alloc hB8.size _).trans (hb9.mono (by have := hB8.size; simp; omega))
    have HR9 := Lib.hid ((HR8.out.below hA8).below hb9)
    have HRB9 := Lib.hid ((HRB8.out.below hA8).below hb9)
    have HX9 := Lib.hid ((HX8.out.below hA8).below hb9)
    have HY9 := Lib.hid (HY8.out.below hb9)
    clear hb9 HR8 HRB8 hB8 hA8 HX8 HY8
    have hA9 : Below w9.heap.size w9 (w9.alloc (Obj.cells #[.int .i64 za, .int .i64 zb, .int .i64 zc, .int .i64 zd, .int .i64 ze] 35)) := (Below.refl _ _).alloc (Nat.le_refl _) _
    have HZ9 : Hid (Reads (w9.alloc (Obj.cells #[.int .i64 za, .int .i64 zb, .int .i64 zc, .int .i64 zd, .int .i64 ze] 35)) (some ⟨w9.heap.size, 0, none⟩) [⟨za, zb, zc, zd, ze⟩]) := reads_one w9 ⟨za, zb, zc, zd, ze⟩
    go_wp2_with fail
    refine (Same_is B A c cp n n l l HN.out HN.out _ (HRB9.out.below hA9) (HR9.out.below hA9) (by have := HL.out; omega) (by have := HL.out; omega) true (by simp)).mono ?_
    rintro q w10 ⟨rfl, hb10⟩
    have hB10 := (hB9.alloc hB9.size _).trans (hb10.mono (by have := hB9.size; simp; omega))
    have HX10 := Lib.hid ((HX9.out.below hA9).below hb10)
    have HY10 := Lib.hid ((HY9.out.below hA9).below hb10)
    have HZ10 := Lib.hid (HZ9.out.below hb10)
    clear hb10 HR9 HRB9 hB9 hA9 HX9 HY9 HZ9
    obtain ⟨x0, x1, x2, x3, x4⟩ := cells_one HX10.out
    obtain ⟨y0, y1, y2, y3, y4⟩ := cells_one HY10.out
    obtain ⟨z0, z1, z2, z3, z4⟩ := cells_one HZ10.out
    go_wp2_with fail
    go_ret
    exact ⟨rfl, hB10⟩

theorem parts_any (A : Option Addr) (cp : Nat) (cut : Int) (h0 : 0 ≤ cut) (h1 : cut ≤ 255) (l : List Rep) (w : World) (hR : Reads w A l) (hl : l.length ≤ 9223372036854775807) (he : Env w) :
    Calls Tryd.prog 4 #[.slice A l.length cp, .int .u8 cut] w fun e w' => e = .returned (.bool true) ∧ Below w.heap.size w w' := by
  by_cases h : l.length ≤ 100
  · cases hm : mayL l
    · exact parts_not A cp _ cut l rfl w hR h hm he
    · exact parts_yes A cp _ cut h0 h1 l rfl w hR h hm he
  · exact parts_long A cp _ cut w (by omega) hl he
end Go.Proofs.YtohhkoojjelghaaDoor
