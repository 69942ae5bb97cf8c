/- Of whatever text: the reports, or the first line that isn't one's: the walk of ReportGets. -/
import Derived.Test.YtohhkoojjelghaaDoorO
set_option linter.unusedSimpArgs false
set_option linter.unusedVariables false
namespace Go.Proofs.YtohhkoojjelghaaDoor
open Go.RowKit Go.Plan Go.Sort

theorem gets_long (s : ByteArray) (w : World) (hs : s.size ≤ 9223372036854775807) (hl : ¬ s.size ≤ 5000) (he : Env w) :
    Calls Tryd.prog 3 #[.string s] w fun e w' => e = .returned (.bool true) ∧ Below w.heap.size w w' := by
  have HE := Lib.hid he
  clear he
  have hgt : (5000 : Int) < s.size := by omega
  clear hl
  go_enter Tryd.func3, Tryd.ntmps3
  go_wp2_with fail
  refine (awake_any w HE.out).mono ?_
  rintro q w1 ⟨rfl, hb1⟩
  go_wp2_with fail
  refine (awake_any w1 (HE.out.below hb1)).mono ?_
  rintro q w2 ⟨rfl, hb2⟩
  have hB := hb1.trans (hb2.mono hb1.size)
  clear hb1 hb2
  go_wp2
  go_ret
  exact ⟨rfl, hB⟩

theorem gets_short (s : ByteArray) (w : World) (hs : s.size ≤ 5000) (he : Env w) :
    Calls Tryd.prog 3 #[.string s] w fun e w' => e = .returned (.bool true) ∧ Below w.heap.size w w' := by
  have HE := Lib.hid he
  clear he
  obtain ⟨l, ok, hg⟩ := got_all s.data.toList
  have HG := Lib.hid hg
  clear hg
  have hle : ¬ (5000 : Int) < s.size := by omega
  go_enter Tryd.func3, Tryd.ntmps3
  go_wp2_with fail
  refine (awake_any w HE.out).mono ?_
  rintro q w1 ⟨rfl, hb1⟩
  go_wp2_with fail
  cases ok
  · refine (Get_no s w1 (by omega) (HE.out.below hb1) l HG.out (putB l).length rfl).mono ?_
    rintro q w2 ⟨rfl, hb2⟩
    have hB2 := hb1.trans (hb2.mono hb1.size)
    clear hb1 hb2
    go_wp2_with fail
    refine (rGet_is s w2 (by omega) l false HG.out).mono ?_
    rintro q w3 ⟨hE, hb3⟩
    obtain rfl : q = .returned (.tuple #[.slice none 0 0, .int .i64 (putB l).length, .int .i64 8]) := by simpa [GotE] using hE
    have hB3 := hB2.trans (hb3.mono hB2.size)
    clear hb3 hB2 hE
    go_wp2_with fail
    refine (Same_is none none 0 0 0 0 [] [] rfl rfl w3 (Reads.nil _ _) (Reads.nil _ _) (by simp) (by simp) true (by simp)).mono ?_
    rintro q w4 ⟨rfl, hb4⟩
    have hB4 := hB3.trans (hb4.mono hB3.size)
    clear hb4 hB3
    go_wp2
    go_ret
    exact ⟨rfl, hB4⟩
  · refine (Get_yes s w1 (by omega) (HE.out.below hb1) l HG.out l.length rfl).mono ?_
    rintro q w2 ⟨⟨A, c, rfl, hR⟩, hb2⟩
    have HR := Lib.hid hR
    have hB2 := hb1.trans (hb2.mono hb1.size)
    clear hb1 hb2 hR
    go_wp2_with fail
    refine (rGet_is s w2 (by omega) l true HG.out).mono ?_
    rintro q w3 ⟨hE, hb3⟩
    obtain ⟨B, d, rfl, hS⟩ : ∃ B d, q = .returned (.tuple #[.slice B l.length d, .int .i64 0, .int .i64 0]) ∧ Reads w3 B l := by simpa [GotE] using hE
    have HS := Lib.hid hS
    have HR3 := Lib.hid (HR.out.below hb3)
    have hB3 := hB2.trans (hb3.mono hB2.size)
    clear hb3 hB2 hE hS HR
    have HL : Hid (l.length ≤ 9223372036854775807) := by
      have h1 := HG.out.2
      simp only [if_true] at h1
      have h2 := congrArg List.length h1
      have h3 : ∀ m : List Rep, m.length ≤ (putB m).length := by
        intro m
        induction m with
        | nil => simp
        | cons r m ih => rw [put_cons]; simp [lineB]; omega
      have h4 := h3 l
      have h5 : s.data.toList.length = s.size := by rw [Array.length_toList]; rfl
      show _ ≤ _
      omega
    go_wp2_with fail
    refine (Same_is _ _ _ _ _ _ l l rfl rfl w3 HR3.out HS.out HL.out HL.out true (by simp)).mono ?_
    rintro q w4 ⟨rfl, hb4⟩
    have hB4 := hB3.trans (hb4.mono hB3.size)
    clear hb4 hB3
    go_wp2
    go_ret
    exact ⟨rfl, hB4⟩
theorem gets_any (s : ByteArray) (w : World) (hs : s.size ≤ 9223372036854775807) (he : Env w) :
    Calls Tryd.prog 3 #[.string s] w fun e w' => e = .returned (.bool true) ∧ Below w.heap.size w w' := by
  by_cases h : s.size ≤ 5000
  · exact gets_short s w h he
  · exact gets_long s w hs h he

end Go.Proofs.YtohhkoojjelghaaDoor
