/- The walk of ReportCuts. -/
import Derived.Test.YtohhkoojjelghaaDoorS
import Derived.Test.YtohhkoojjelghaaDoorV
set_option linter.unusedSimpArgs false
set_option linter.unusedVariables false
namespace Go.Proofs.YtohhkoojjelghaaDoor
open Go.RowKit Go.Plan Go.Sort

theorem cuts_long (A : Option Addr) (cp n : Nat) (cut : Int) (more : ByteArray) (w : World) (hn : 50 < n) (hl : n ≤ 9223372036854775807) (he : Env w) :
    Calls Tryd.prog 5 #[.slice A n cp, .int .u16 cut, .string more] w fun e w' => e = .returned (.bool true) ∧ Below w.heap.size w w' := by
  have HE := Lib.hid he
  clear he
  have hgt : (50 : Int) < n := by omega
  go_enter Tryd.func5, Tryd.ntmps5
  go_wp2_with fail
  refine (awake_any w HE.out).mono ?_
  rintro q w1 ⟨rfl, hb1⟩
  go_wp2_with fail
  refine (awake_any w1 (HE.out.below hb1)).mono ?_
  rintro q w2 ⟨rfl, hb2⟩
  have hB := hb1.trans (hb2.mono hb1.size)
  clear hb1 hb2
  go_wp2
  go_ret
  exact ⟨rfl, hB⟩

theorem cuts_not (A : Option Addr) (cp n : Nat) (cut : Int) (more : ByteArray) (l : List Rep) (hn : l.length = n) (w : World) (hR : Reads w A l) (hl : n ≤ 50) (hm : mayL l = false) (he : Env w) :
    Calls Tryd.prog 5 #[.slice A n cp, .int .u16 cut, .string more] w fun e w' => e = .returned (.bool true) ∧ Below w.heap.size w w' := by
  have HE := Lib.hid he
  have HR := Lib.hid hR
  have HM := Lib.hid hm
  have HN := Lib.hid hn
  clear he hR hm hn
  have hgt : ¬ (50 : Int) < n := by omega
  go_enter Tryd.func5, Tryd.ntmps5
  go_wp2_with fail
  refine (awake_any w HE.out).mono ?_
  rintro q w1 ⟨rfl, hb1⟩
  go_wp2_with fail
  refine (rMay_is A cp n l HN.out w1 (HR.out.below hb1) (by have := HN.out; omega) false HM.out).mono ?_
  rintro q w2 ⟨rfl, hb2⟩
  have hB := hb1.trans (hb2.mono hb1.size)
  clear hb1 hb2
  go_wp2_with fail
  refine (awake_any w2 (HE.out.below hB)).mono ?_
  rintro q w3 ⟨rfl, hb3⟩
  have hB3 := hB.trans (hb3.mono hB.size)
  clear hB hb3
  go_wp2
  go_ret
  exact ⟨rfl, hB3⟩

theorem cuts_more (A : Option Addr) (cp n : Nat) (cut : Int) (more : ByteArray) (hmo : 300 < more.size) (hmm : more.size ≤ 9223372036854775807) (l : List Rep) (hn : l.length = n) (w : World) (hR : Reads w A l) (hl : n ≤ 50) (hm : mayL l = true) (he : Env w) :
    Calls Tryd.prog 5 #[.slice A n cp, .int .u16 cut, .string more] w fun e w' => e = .returned (.bool true) ∧ Below w.heap.size w w' := by
  have HE := Lib.hid he
  have HR := Lib.hid hR
  have HM := Lib.hid hm
  have HN := Lib.hid hn
  clear he hR hm hn
  have hgt : ¬ (50 : Int) < n := by omega
  have hgm : (300 : Int) < more.size := by omega
  go_enter Tryd.func5, Tryd.ntmps5
  go_wp2_with fail
  refine (awake_any w HE.out).mono ?_
  rintro q w1 ⟨rfl, hb1⟩
  go_wp2_with fail
  refine (rMay_is A cp n l HN.out w1 (HR.out.below hb1) (by have := HN.out; omega) true HM.out).mono ?_
  rintro q w2 ⟨rfl, hb2⟩
  have hB := hb1.trans (hb2.mono hb1.size)
  clear hb1 hb2
  go_wp2_with fail
  refine (awake_any w2 (HE.out.below hB)).mono ?_
  rintro q w3 ⟨rfl, hb3⟩
  have hB3 := hB.trans (hb3.mono hB.size)
  clear hB hb3
  go_wp2
  go_ret
  exact ⟨rfl, hB3⟩

set_option maxHeartbeats 4000000 in
theorem cuts_yes (A : Option Addr) (cp n : Nat) (cut : Int) (h0 : 0 ≤ cut) (h1 : cut ≤ 65535) (more : ByteArray) (hmo : more.size ≤ 300) (l : List Rep) (hn : l.length = n) (hcp : n ≤ cp) (w : World) (hR : Reads w A l) (hl : n ≤ 50) (hm : mayL l = true) (he : Env w) :
    Calls Tryd.prog 5 #[.slice A n cp, .int .u16 cut, .string more] w fun e w' => e = .returned (.bool true) ∧ Below w.heap.size w w' := by
  obtain ⟨t0, ht0⟩ : ∃ t, (⟨(putB l).toArray⟩ : ByteArray) = t := ⟨_, rfl⟩
  have hts : t0.size = (putB l).length := by rw [← ht0]; rfl
  have htl : t0.data.toList = putB l := by rw [← ht0]
  have hsz : t0.size ≤ 100000 := by
    have h1 := put_len l (fun i hi => ok_fit (may_oks hm _ (List.getElem_mem hi))) l.length (Nat.le_refl _)
    rw [List.take_length] at h1
    omega
  obtain ⟨k, hk, hkn⟩ : ∃ k : Nat, cut % ((t0.size : Int) + 1) = (k : Int) ∧ k ≤ t0.size := by
    have h1 := Int.emod_nonneg cut (show (t0.size : Int) + 1 ≠ 0 by omega)
    have h2 := Int.emod_lt_of_pos cut (show (0 : Int) < (t0.size : Int) + 1 by omega)
    exact ⟨(cut % ((t0.size : Int) + 1)).toNat, by omega, by omega⟩
  have hki : (k : Int) ≤ (t0.size : Int) := by omega
  have HC := Lib.hid (cut_cases l hm k (by omega))
  have HE := Lib.hid he
  have HR := Lib.hid hR
  have HM := Lib.hid hm
  have HN := Lib.hid hn
  have HT0 := Lib.hid ht0
  have HTL := Lib.hid htl
  have HTS := Lib.hid hts
  clear he hR hm hn ht0 htl hts
  have hgt : ¬ (50 : Int) < n := by omega
  have hgm : ¬ (300 : Int) < more.size := by omega
  go_enter Tryd.func5, Tryd.ntmps5
  go_wp2_with fail
  refine (awake_any w HE.out).mono ?_
  rintro q w1 ⟨rfl, hb1⟩
  go_wp2_with fail
  refine (rMay_is A cp n l HN.out w1 (HR.out.below hb1) (by have := HN.out; omega) true HM.out).mono ?_
  rintro q w2 ⟨rfl, hb2⟩
  have hB2 := hb1.trans (hb2.mono hb1.size)
  have HR2 := Lib.hid ((HR.out.below hb1).below hb2)
  clear hb1 hb2
  go_wp2_with fail
  refine (Put_is A cp n l HN.out w2 HR2.out (by have := HN.out; omega) (HE.out.below hB2) HM.out t0 HT0.out).mono ?_
  rintro q w3 ⟨rfl, hb3⟩
  have hB3 := hB2.trans (hb3.mono hB2.size)
  have HR3 := Lib.hid (HR2.out.below hb3)
  clear hb3 HR2 hB2 HR
  have HES : Hid ((t0.extract 0 k).size ≤ 1000000) := by
    show _ ≤ _
    rw [ByteArray.size_extract]; omega
  have HEX : Hid ((t0.extract 0 k).data.toList = (putB l).take k) := by
    show _ = _
    rw [Lib.extract_data, HTL.out]; simp
  obtain ⟨m, hml, hcase⟩ := HC.out
  have HML : Hid ((l.take m).length = m) := by show _ = _; rw [List.length_take]; omega
  have hmn : m ≤ n := by have := HN.out; omega
  clear hml HC
  go_wp2_with fail
  rcases hcase with ⟨hg, hk0 | ⟨hpos, hc⟩⟩ | ⟨hg, hpos, ⟨c, hc, hc10⟩, hlt, hat⟩
  focus
    have HG : Hid (GotL (t0.extract 0 k).data.toList (l.take m) true) := by show GotL _ _ _; rw [HEX.out]; exact hg
    clear hg
    refine (Get_yes _ w3 HES.out (HE.out.below hB3) (l.take m) HG.out m HML.out).mono ?_
    rintro q w4 ⟨⟨B, cB, rfl, hRB⟩, hb4⟩
    have hB4 := hB3.trans (hb4.mono hB3.size)
    have HR4 := Lib.hid ((HR3.out.below hb4).take m)
    have HRB4 := Lib.hid hRB
    clear hb4 HR3 hRB hB3 HG HES HEX
    have hmc : m ≤ cp := by omega
    have hmci : (m : Int) ≤ cp := by omega
    have HK0 := Lib.hid hk0
    clear hk0
    have hk1 : ((k : Int) == 0) = true := by rw [HK0.out]; rfl
    go_wp2_with fail
    refine (Same_is B A cB cp m m (l.take m) (l.take m) HML.out HML.out w4 HRB4.out HR4.out (by have := HML.out; omega) (by have := HML.out; omega) true (by simp)).mono ?_
    rintro q w5 ⟨rfl, hb5⟩
    have hB5 := hB4.trans (hb5.mono hB4.size)
    clear hb5 HR4 HRB4 hB4
    go_wp2_with fail
    have hBt := hB5
    clear hB5
  rotate_left
  focus
    obtain ⟨j, rfl⟩ : ∃ j, k = j + 1 := ⟨k - 1, by omega⟩
    have hjt : j < t0.size := by omega
    have hjti : (j : Int) < t0.size := by omega
    have hcj : t0[j]'hjt = 10 := at_of HT0.out (by simpa using hc) hjt
    clear hc hpos
    have HG : Hid (GotL (t0.extract 0 (j + 1)).data.toList (l.take m) true) := by show GotL _ _ _; rw [HEX.out]; exact hg
    clear hg
    refine (Get_yes _ w3 HES.out (HE.out.below hB3) (l.take m) HG.out m HML.out).mono ?_
    rintro q w4 ⟨⟨B, cB, rfl, hRB⟩, hb4⟩
    have hB4 := hB3.trans (hb4.mono hB3.size)
    have HR4 := Lib.hid ((HR3.out.below hb4).take m)
    have HRB4 := Lib.hid hRB
    clear hb4 HR3 hRB hB3 HG HES HEX
    have hmc : m ≤ cp := by omega
    have hmci : (m : Int) ≤ cp := by omega
    go_wp2_with fail
    refine (Same_is B A cB cp m m (l.take m) (l.take m) HML.out HML.out w4 HRB4.out HR4.out (by have := HML.out; omega) (by have := HML.out; omega) true (by simp)).mono ?_
    rintro q w5 ⟨rfl, hb5⟩
    have hB5 := hB4.trans (hb5.mono hB4.size)
    clear hb5 HR4 HRB4 hB4
    go_wp2_with fail
    have hBt := hB5
    clear hB5
  rotate_left
  focus
    obtain ⟨j, rfl⟩ : ∃ j, k = j + 1 := ⟨k - 1, by omega⟩
    have hjt : j < t0.size := by omega
    have hjti : (j : Int) < t0.size := by omega
    have hcj : t0[j]'hjt = c := at_of HT0.out (by simpa using hc) hjt
    have hcn : ¬ c.toNat = 10 := fun h => hc10 (UInt8.toNat_inj.1 h)
    have hcni : ((c.toNat : Int) == 10) = false := by rw [beq_eq_false_iff_ne]; omega
    have hj0 : ((j : Int) + 1 == 0) = false := by rw [beq_eq_false_iff_ne]; omega
    clear hc hpos hc10
    have HG : Hid (GotL (t0.extract 0 (j + 1)).data.toList (l.take m) false) := by show GotL _ _ _; rw [HEX.out]; exact hg
    clear hg
    refine (Get_no _ w3 HES.out (HE.out.below hB3) (l.take m) HG.out _ rfl).mono ?_
    rintro q w4 ⟨rfl, hb4⟩
    have hB4 := hB3.trans (hb4.mono hB3.size)
    clear hb4 HR3 hB3 HG HES HEX
    generalize (putB (l.take m)).length = a at *
    rcases Nat.eq_zero_or_pos a with rfl | ha
  focus
    go_wp2_with fail
    have hBt := hB4
    clear hB4
  rotate_left
  focus
    obtain ⟨b, rfl⟩ : ∃ b, a = b + 1 := ⟨a - 1, by omega⟩
    have hbt : b < t0.size := by omega
    have hbti : (b : Int) < t0.size := by omega
    have hbj : (b : Int) + 1 < (j : Int) + 1 := by omega
    have hcb : t0[b]'hbt = 10 := at_of HT0.out (by simpa using hat (by omega)) hbt
    clear hat ha
    go_wp2_with fail
    have hBt := hB4
    clear hB4
  rotate_left
  all_goals
    go_loop [14] (fun v => ∃ q : Nat, q ≤ more.size ∧ v = .int .i64 (q : Int) ∧ Hid ((10 : UInt8) ∉ more.data.toList.take q)) (fun v => more.size - (intOf v).toNat)
    case atStart => exact ⟨0, by omega, by simp, by simp [Hid]⟩
    case round =>
      obtain ⟨q, hq, rfl, HQ⟩ := hrel
      by_cases hqt : q < more.size
      · have hqi : (q : Int) < (more.size : Int) := by omega
        obtain ⟨d, hd⟩ : ∃ d, more[q]'hqt = d := ⟨_, rfl⟩
        by_cases hd10 : d = 10
        · have hdd : more[q]'hqt = 10 := hd.trans hd10
          clear hd
          go_wp2
          go_ret
          exact ⟨rfl, hBt⟩
        · have hnd : ¬ d.toNat = 10 := fun h => hd10 (UInt8.toNat_inj.1 h)
          have HD := Lib.hid hd
          go_wp2
          go_round
          case rel =>
            refine ⟨q + 1, by omega, by go_num, ?_⟩
            show _ ∉ _
            have hql : q < more.data.toList.length := by rw [Array.length_toList]; exact hqt
            rw [List.take_succ_eq_append_getElem hql]
            simp only [List.mem_append, List.mem_singleton, not_or]
            exact ⟨HQ.out, fun h => hd10 (HD.out.symm.trans (show more[q]'hqt = 10 from h.symm))⟩
          case measure => simp [intOf]; omega
      · obtain rfl : q = more.size := by omega
        have HN10 : Hid ((10 : UInt8) ∉ more.data.toList) := by
          have h := HQ.out
          rwa [List.take_of_length_le (by rw [Array.length_toList]; exact Nat.le_refl _)] at h
        clear HQ hq
        have HAD : Hid ((t0 ++ more).data.toList = putB l ++ more.data.toList) := by
          show _ = _
          rw [ByteArray.data_append, Array.toList_append, HTL.out]
        have HAS : Hid ((t0 ++ more).size ≤ 1000000) := by show _ ≤ _; rw [ByteArray.size_append]; omega
        by_cases hme : more.data.toList = []
        · have HGM : Hid (GotL (t0 ++ more).data.toList l true) := by
            show GotL _ _ _
            rw [HAD.out, hme, List.append_nil]; exact got_put HM.out
          have hmt : more.toList = [] := by rw [ByteArray.toList_eq]; exact hme
          clear hme
          go_wp2_with fail
          refine (Get_yes _ _ HAS.out (HE.out.below hBt) l HGM.out n HN.out).mono ?_
          rintro q w6 ⟨⟨B6, c6, rfl, _⟩, hb6⟩
          have hB6 := hBt.trans (hb6.mono hBt.size)
          clear hb6 hBt
          go_wp2
          go_ret
          exact ⟨rfl, hB6⟩
        · have HGM : Hid (GotL (t0 ++ more).data.toList l false) := by
            show GotL _ _ _
            rw [HAD.out]; exact got_more HM.out hme HN10.out
          have hmt : ¬ more.toList = [] := by rw [ByteArray.toList_eq]; exact hme
          have hmi : more.toList.isEmpty = false := by
            cases hL : more.toList with
            | nil => exact absurd hL hmt
            | cons x y => rfl
          clear hme
          go_wp2_with fail
          refine (Get_no _ _ HAS.out (HE.out.below hBt) l HGM.out t0.size HTS.out.symm).mono ?_
          rintro q w6 ⟨rfl, hb6⟩
          have hB6 := hBt.trans (hb6.mono hBt.size)
          clear hb6 hBt
          go_wp2
          go_ret
          exact ⟨rfl, hB6⟩
theorem cuts_any (A : Option Addr) (cp : Nat) (cut : Int) (h0 : 0 ≤ cut) (h1 : cut ≤ 65535) (more : ByteArray) (hmm : more.size ≤ 9223372036854775807) (l : List Rep) (hcp : l.length ≤ cp) (w : World) (hR : Reads w A l) (hl : l.length ≤ 9223372036854775807) (he : Env w) :
    Calls Tryd.prog 5 #[.slice A l.length cp, .int .u16 cut, .string more] w fun e w' => e = .returned (.bool true) ∧ Below w.heap.size w w' := by
  by_cases h : l.length ≤ 50
  · cases hm : mayL l
    · exact cuts_not A cp _ cut more l rfl w hR h hm he
    · by_cases hmo : more.size ≤ 300
      · exact cuts_yes A cp _ cut h0 h1 more hmo l rfl hcp w hR h hm he
      · exact cuts_more A cp _ cut more (by omega) hmm l rfl w hR h hm he
  · exact cuts_long A cp _ cut more w (by omega) hl he
end Go.Proofs.YtohhkoojjelghaaDoor
