/- The document's own: Dec, Line. -/
import Derived.Test.YtohhkoojjelghaaDoorH
set_option linter.unusedSimpArgs false
set_option linter.unusedVariables false
namespace Go.Proofs.YtohhkoojjelghaaDoor
open Go.RowKit Go.Plan Go.Sort

set_option maxHeartbeats 4000000 in
theorem Dec_any (n : Int) (w : World) (h0 : 0 ≤ n) (h1 : n ≤ 4611686018427387904) :
    Calls Tryd.prog 32 #[.int .i64 n] w fun e w' => e = .returned (.string (dec n)) ∧ Below w.heap.size w w' := by
  have hdl := dec_len' n h1
  go_enter Tryd.func32, Tryd.ntmps32
  go_wp2
  go_loopw [0, 3] (fun v s wr => ∃ (u : Nat) (t : ByteArray), v = .int .i64 u ∧ (u : Int) ≤ n ∧ s = .string t ∧ Hid ((dec n).data.toList = Lib.decDigits u ++ t.data.toList) ∧ t.size ≤ 19 ∧ Below w.heap.size w wr) (fun v _ _ => (intOf v).toNat)
  case atStart => exact ⟨n.toNat, ⟨#[]⟩, by rw [Int.toNat_of_nonneg h0], by omega, rfl, by simp [Hid, dec], by simp [ByteArray.size], Below.refl _ _⟩
  case round =>
    obtain ⟨u, t, rfl, hu, rfl, HD, hts, hB⟩ := hrel
    have hsz := hB.size
    have hm : (u : Int).tmod 10 = ((u % 10 : Nat) : Int) := by rw [Int.tmod_eq_emod_of_nonneg (by omega)]; omega
    have hd10 : u % 10 < 10 := Nat.mod_lt _ (by decide)
    have HQ0 : Hid (u < 10 → Lib.decDigits u = [UInt8.ofNat (48 + u % 10)]) := fun h => by rw [Lib.decDigits_one h, Nat.mod_eq_of_lt h]
    have HQ1 : Hid (¬ u < 10 → Lib.decDigits u = Lib.decDigits (u / 10) ++ [UInt8.ofNat (48 + u % 10)]) := fun h => by rw [Lib.decDigits, dif_neg h]
    have hcd := digit_nat hd10
    generalize u % 10 = d at *
    generalize UInt8.ofNat (48 + d) = c at *
    have hw1 : IntKind.i64.wrap (48 + (d : Int)) = 48 + d := IntWalk.i64_in _ (by omega)
    have hw2 : IntKind.u8.wrap (48 + (d : Int)) = 48 + d := IntWalk.u8_in _ (by omega)
    have hcv : ∀ x, (convert 46 9 (.slice (some ⟨wr.heap.size, 0, none⟩) 1 x)).run Tryd.prog (wr.alloc (.cells #[.int .u8 (48 + (d : Int))] 5)) = .ok (.string ⟨#[c]⟩) (wr.alloc (.cells #[.int .u8 (48 + (d : Int))] 5)) := fun x => by
      refine run_convert_bytes_back (P := Tryd.prog) _ 46 9 5 ⟨wr.heap.size, 0, none⟩ x [c] Tryd.underlying46 Tryd.underlying5 Tryd.underlying9 fun j hj => ?_
      have : j = 0 := by simpa using hj
      subst this
      simp [Addr.add, hcd]
    have HTL : Hid ((⟨#[c]⟩ ++ t : ByteArray).data.toList = c :: t.data.toList) := by simp [Hid, ByteArray.data_append]
    by_cases hu10 : u < 10
    · have hz : ((u : Int) / 10 == 0) = true := by simp; omega
      have HE : Hid (dec n = ⟨#[c]⟩ ++ t) := by
        refine ba_ext ?_
        rw [HD.out, HQ0.out hu10, HTL.out]; rfl
      go_wp2
      go_ret
      exact ⟨ret_str HE.out.symm, hB.alloc hsz _⟩
    · have hz : ((u : Int) / 10 == 0) = false := by simp; omega
      have HE : Hid ((dec n).data.toList = Lib.decDigits (u / 10) ++ (⟨#[c]⟩ ++ t : ByteArray).data.toList) := by
        show _ = _
        rw [HD.out, HQ1.out hu10, HTL.out]; simp
      have HSZ : Hid ((⟨#[c]⟩ ++ t : ByteArray).size ≤ 19) := by
        show _ ≤ _
        have h2 : (⟨#[c]⟩ ++ t : ByteArray).size = (⟨#[c]⟩ ++ t : ByteArray).data.toList.length := by rw [Array.length_toList]; rfl
        rw [HE.out, List.length_append] at hdl
        omega
      go_wp2
      go_roundw
      case rel => exact ⟨u / 10, _, by simp, by omega, rfl, HE.out, HSZ.out, hB.alloc hsz _⟩
      case measure => simp [intOf]; omega

end Go.Proofs.YtohhkoojjelghaaDoor
