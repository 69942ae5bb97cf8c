/- The document's own reading of a line: the plain law of its scan. -/
import Derived.Test.YtohhkoojjelghaaDoorJ
set_option linter.unusedSimpArgs false
set_option linter.unusedVariables false
namespace Go.Proofs.YtohhkoojjelghaaDoor
open Go.RowKit Go.Plan Go.Sort

structure Sc where
  n : Nat
  ins : Bool
  f : Nat → Int
def isDig (c : UInt8) : Bool := decide (48 ≤ c.toNat) && decide (c.toNat ≤ 57)
def Sc.grp (s : Sc) : Nat := if s.ins then s.n else s.n + 1
def upd (f : Nat → Int) (i : Nat) (x : Int) : Nat → Int := fun j => if j = i then x else f j
def stp (s : Sc) (c : UInt8) : Option Sc :=
  if isDig c then (if 5 < s.grp then none else if 1099511627776 < s.f (s.grp - 1) then none else some ⟨s.grp, true, upd s.f (s.grp - 1) (10 * s.f (s.grp - 1) + ((c.toNat : Int) - 48))⟩)
  else some ⟨s.n, false, s.f⟩
def scan (s : Sc) (l : List UInt8) : Option Sc := l.foldlM stp s
theorem scan_app (s : Sc) (a b : List UInt8) : scan s (a ++ b) = (scan s a).bind fun t => scan t b := by simp [scan, List.foldlM_append]
theorem scan_nil (s : Sc) : scan s [] = some s := rfl
theorem scan_cons (s : Sc) (c : UInt8) (l : List UInt8) : scan s (c :: l) = (stp s c).bind fun t => scan t l := by simp [scan, List.foldlM_cons]
theorem scan_snoc (s : Sc) (l : List UInt8) (c : UInt8) : scan s (l ++ [c]) = (scan s l).bind fun t => stp t c := by
  rw [scan_app]
  congr 1
  funext t
  rw [scan_cons]
  cases stp t c <;> rfl
theorem scan_other : ∀ (x : List UInt8) (s : Sc), (∀ c ∈ x, isDig c = false) → x ≠ [] → scan s x = some ⟨s.n, false, s.f⟩
  | [], _, _, h => absurd rfl h
  | c :: x, s, h, _ => by
    have hc := h c (by simp)
    rw [scan_cons, stp, hc]
    simp only [Bool.false_eq_true, if_false, Option.bind_some]
    cases x with
    | nil => rfl
    | cons d x =>
      rw [scan_other (d :: x) _ (fun c' hc' => h c' (by simp at hc' ⊢; exact .inr hc')) (by simp)]
theorem isDig_of {i : Nat} (h : i < 10) : isDig (UInt8.ofNat (48 + i)) = true := by
  simp [isDig, digit_nat h]
  omega
theorem scan_dec : ∀ (u n : Nat) (f : Nat → Int), u ≤ 1099511627776 → n < 5 → f n = 0 → scan ⟨n, false, f⟩ (Lib.decDigits u) = some ⟨n + 1, true, upd f n u⟩
  | u, n, f, hu, hn, hf => by
    rw [Lib.decDigits]
    split
    · rename_i h
      rw [scan_cons, stp, isDig_of h]
      have hd := digit_nat h
      simp only [Sc.grp, if_true, Bool.false_eq_true, if_false, Nat.add_sub_cancel, hf, hd]
      rw [if_neg (by omega), if_neg (by omega)]
      simp only [Option.bind_some, scan_nil]
      congr 3
      omega
    · rename_i h
      have h10 : u % 10 < 10 := Nat.mod_lt _ (by decide)
      have hd := digit_nat h10
      rw [scan_snoc, scan_dec (u / 10) n f (by omega) hn hf, Option.bind_some, stp, isDig_of h10]
      simp only [Sc.grp, if_true, Nat.add_sub_cancel, hd, upd]
      rw [if_neg (by omega), if_neg (by omega)]
      congr 2
      funext j
      by_cases hj : j = n
      · simp [upd, hj]; omega
      · simp [upd, hj]
termination_by u => u
def sc0 : Sc := ⟨0, false, fun _ => 0⟩
theorem scan_word (s : Sc) (x : List UInt8) (n : Int) (h : ∀ c ∈ x, isDig c = false) (hx : x ≠ []) (h0 : 0 ≤ n) (h1 : n ≤ 1099511627776) (hn : s.n < 5) (hf : s.f s.n = 0) :
    scan s (x ++ (dec n).data.toList) = some ⟨s.n + 1, true, upd s.f s.n n⟩ := by
  rw [scan_app, scan_other x s h hx, Option.bind_some]
  have := scan_dec n.toNat s.n s.f (by omega) hn hf
  rw [Int.toNat_of_nonneg h0] at this
  simpa [dec] using this
theorem scan_line (r : Rep) (h : r.ok = true) : ∃ s, scan sc0 (lineB r) = some s ∧ s.f 0 = r.a ∧ s.f 1 = r.b ∧ s.f 2 = r.c ∧ s.f 3 = r.d ∧ s.f 4 = r.e := by
  simp only [Rep.ok, mayOk, nOk, Bool.and_eq_true, decide_eq_true_eq] at h
  obtain ⟨⟨⟨⟨⟨h0, h1⟩, h2⟩, h3⟩, h4⟩, _⟩ := h
  have hl : lineB r = (((([99, 121, 99, 108, 101, 32] ++ (dec r.a).data.toList) ++ ([32, 102, 114, 101, 101, 32] ++ (dec r.b).data.toList)) ++ ([32, 108, 105, 118, 101, 32] ++ (dec r.c).data.toList)) ++
      ([32, 102, 108, 111, 97, 116, 105, 110, 103, 32] ++ (dec r.d).data.toList)) ++ ([32, 102, 114, 101, 101, 100, 32] ++ (dec r.e).data.toList) ++ [10] := by
    simp [lineB, lineS, words, Lib.join, List.intercalate, List.intersperse, nm0, nm1, nm2, nm3, nm4]
  rw [hl, scan_snoc, scan_app, scan_app, scan_app, scan_app]
  rw [scan_word sc0 _ r.a (by decide) (by simp) h0.1 h0.2 (by decide) rfl, Option.bind_some]
  rw [scan_word _ _ r.b (by decide) (by simp) h1.1 h1.2 (by simp [sc0]) rfl, Option.bind_some]
  rw [scan_word _ _ r.c (by decide) (by simp) h2.1 h2.2 (by simp [sc0]) rfl, Option.bind_some]
  rw [scan_word _ _ r.d (by decide) (by simp) h3.1 h3.2 (by simp [sc0]) rfl, Option.bind_some]
  rw [scan_word _ _ r.e (by decide) (by simp) h4.1 h4.2 (by simp [sc0]) rfl, Option.bind_some]
  exact ⟨_, rfl, rfl, rfl, rfl, rfl, rfl⟩

end Go.Proofs.YtohhkoojjelghaaDoor
