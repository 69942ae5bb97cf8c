/- A slice of reports that comes in. -/
import Derived.Test.YtohhkoojjelghaaDoorA
import Derived.Deep.Slices
import Derived.Deep.Fields
import Derived.ChangeSame
set_option linter.unusedSimpArgs false
set_option linter.unusedVariables false
namespace Go.Proofs.YtohhkoojjelghaaDoor
open Go.ChangeShapes Go.WideShapes Go.Deep Go.RowKit
section
variable {H : Type} {enc : TypeId × Value → H} {P : Program} {w : World} {base : Nat} {spare : Nat → Bool} {held : Bool}
theorem open_slice_fields {t e : TypeId} {fs : Array Field} {fuel : Nat} {cs : List Value} {x : DataW H × List MemPlace} (ht : P.underlying t = some (.slice e)) (he : P.underlying e = some (.struct fs))
    (hone : oneCellFields P fs = true) (hC : P.cellsOf e = fs.size) (h : DataW.trod enc P w base spare held fuel t cs = some x) :
    (cs = [.slice none 0 0] ∧ x = (.nil, [])) ∨
    ∃ (a : Addr) (len cap m : Nat) (D : Nat → DataW H) (Pl : Nat → List MemPlace), cs = [.slice (some a) len cap] ∧ base ≤ a.block ∧ len ≤ cap ∧ cap ≤ maxLen ∧ m = (if spare a.block then cap else len) ∧
      x = (.slice ((List.range len).map D) ((List.range (m - len)).map fun j => D (len + j)), MemPlace.row a (m * fs.size) ++ (List.range m).flatMap Pl) ∧
      ∀ i, i < m → ∃ (ys : List (DataW H × List MemPlace)) (n : Nat), D i = .agg (ys.map (·.1)) ∧ Pl i = ys.flatMap (·.2) ∧ ys.length = fs.size ∧
        ∀ (j : Nat) (f : Field), fs[j]? = some f → ∃ (v : Value) (y : DataW H × List MemPlace), w.cell? (a.add (i * fs.size + j)) = some v ∧ ys[j]? = some y ∧ DataW.trod enc P w base spare held n f.type [v] = some y := by
  rcases open_slice ht h with h0 | ⟨a, len, cap, m, n, D, Pl, hcs, hb, hl, hm, hmm, hx, hi⟩
  · exact .inl h0
  · refine .inr ⟨a, len, cap, m, D, Pl, hcs, hb, hl, hm, hmm, by rw [hC] at hx; exact hx, fun i him => ?_⟩
    obtain ⟨cs', hc, ht'⟩ := hi i him
    rw [hC] at hc
    obtain ⟨ys, n', hn', hy, hlen, hyl, hf⟩ := DataW.trod_struct he ht'
    obtain ⟨_, hcl, hat⟩ := World.cells?_some hc
    simp only [Prod.mk.injEq] at hy
    refine ⟨ys, n', hy.1, hy.2, hyl, fun j f hj => ?_⟩
    obtain ⟨ho, hk⟩ := hone_of hone j f hj
    have hjl : j < fs.size := (Array.getElem?_eq_some_iff.1 hj).1
    have hcell := hat j hjl
    have hv : cs'[j]? = some (cs'[j]'(by omega)) := List.getElem?_eq_getElem (by omega)
    have h1 := hf j f hj
    rw [ho, hk] at h1
    have hone' : (cs'.drop j).take 1 = [cs'[j]'(by omega)] := by
      rw [List.drop_eq_getElem_cons (by omega)]
      rfl
    rw [hone'] at h1
    have hys : ys[j]? = some (ys[j]'(by omega)) := List.getElem?_eq_getElem (by omega)
    refine ⟨_, _, ?_, hys, h1.trans hys⟩
    rw [← Go.Deep.add_add, hcell, hv]
end

def cellN (w : World) (b o : Nat) : Int := match w.cell? ⟨b, o, none⟩ with | some (.int _ n) => n | _ => 0
theorem cellN_of {w : World} {b o : Nat} {k : IntKind} {n : Int} (h : w.cell? ⟨b, o, none⟩ = some (.int k n)) : cellN w b o = n := by simp [cellN, h]
theorem spot_of {w : World} {a : Addr} {v : Value} (h : w.cell? a = some v) : a = ⟨a.block, a.off, none⟩ := by
  obtain ⟨b, o, s⟩ := a
  cases s with
  | none => rfl
  | some s =>
    unfold World.cell? at h
    split at h
    · simp at h
    · cases h
theorem open_reps_cap {H : Type} {enc : TypeId × Value → H} {W : World} {base b0 : Nat} {sp : Nat → Bool} {held : Bool} {v : Value} {d : DataW H} {ps : List MemPlace} (hv : Value.okWide Tryd.prog W .any b0 23 v) (h : DataW.Trod enc Tryd.prog W base sp held 23 v d ps) :
    ∃ (A : Option Addr) (cp : Nat) (l : List Rep), v = .slice A l.length cp ∧ l.length ≤ maxLen ∧ l.length ≤ cp ∧ Reads W A l := by
  obtain ⟨a0, len, cap, rfl⟩ := okWide_slice Tryd.underlying23 hv
  obtain ⟨fuel, hf⟩ := h
  rcases open_slice_fields Tryd.underlying23 Tryd.underlying35 (by kernel_rfl) (by kernel_rfl) hf with ⟨hc, _⟩ | ⟨a, len', cap', m, D, Pl, hc, _, h1, h2, hm, _, hi⟩
  · simp [Value.cells] at hc
    obtain ⟨rfl, rfl, rfl⟩ := hc
    exact ⟨none, 0, [], rfl, Nat.zero_le _, Nat.zero_le _, Reads.nil _ _⟩
  · simp [Value.cells] at hc
    obtain ⟨rfl, rfl, rfl⟩ := hc
    have hlm : len ≤ m := by rw [hm]; split <;> omega
    have key : ∀ i, i < len → ∀ j, j < 5 → ∃ n, W.cell? (a.add (i * 5 + j)) = some (.int .i64 n) := by
      intro i hil j hj
      obtain ⟨ys, n, _, _, _, hf⟩ := hi i (by omega)
      have go : ∀ f : Field, (#[{ name := "Cycle", type := 3, offset := 0, embedded := false, tag := "", pkgPath := "", byteOffset := 0 },
        { name := "Free", type := 3, offset := 1, embedded := false, tag := "", pkgPath := "", byteOffset := 8 },
        { name := "Live", type := 3, offset := 2, embedded := false, tag := "", pkgPath := "", byteOffset := 16 },
        { name := "Floating", type := 3, offset := 3, embedded := false, tag := "", pkgPath := "", byteOffset := 24 },
        { name := "Freed", type := 3, offset := 4, embedded := false, tag := "", pkgPath := "", byteOffset := 32 }] : Array Field)[j]? = some f → f.type = 3 → ∃ n, W.cell? (a.add (i * 5 + j)) = some (.int .i64 n) := by
        intro f hfj ht
        obtain ⟨v, y, hcell, _, htr⟩ := hf j f hfj
        rw [ht] at htr
        obtain ⟨z, hz, _⟩ := DataW.trod_int Tryd.underlying3 htr
        simp only [List.cons.injEq, and_true] at hz
        subst hz
        exact ⟨z, hcell⟩
      match j, hj with
      | 0, _ => exact go _ rfl rfl
      | 1, _ => exact go _ rfl rfl
      | 2, _ => exact go _ rfl rfl
      | 3, _ => exact go _ rfl rfl
      | 4, _ => exact go _ rfl rfl
    refine ⟨some a, cap, (List.range len).map fun i => ⟨cellN W a.block (a.off + i * 5), cellN W a.block (a.off + i * 5 + 1), cellN W a.block (a.off + i * 5 + 2), cellN W a.block (a.off + i * 5 + 3), cellN W a.block (a.off + i * 5 + 4)⟩, by simp, by simp; omega, by simpa using h1, ?_⟩
    intro i r hir
    rw [List.getElem?_map] at hir
    have hil : i < len := by
      rcases Nat.lt_or_ge i len with h | h
      · exact h
      · rw [List.getElem?_eq_none (by simpa using h)] at hir; cases hir
    rw [List.getElem?_range hil] at hir
    simp only [Option.map_some, Option.some.injEq] at hir
    have ha : a = ⟨a.block, a.off, none⟩ := by
      obtain ⟨n, hn⟩ := key 0 (by omega) 0 (by omega)
      have : a.add (0 * 5 + 0) = a := by simp [Addr.add]
      rw [this] at hn
      exact spot_of hn
    have cell : ∀ j, j < 5 → W.cell? ⟨a.block, a.off + i * 5 + j, none⟩ = some (.int .i64 (cellN W a.block (a.off + i * 5 + j))) := by
      intro j hj
      obtain ⟨n, hn⟩ := key i hil j hj
      have e : a.add (i * 5 + j) = ⟨a.block, a.off + i * 5 + j, none⟩ := by
        unfold Addr.add
        split
        · rw [ha]; simp; try omega
        · simp; try omega
      rw [e] at hn
      rw [cellN_of hn]; exact hn
    refine ⟨a.block, a.off, by rw [← ha], ?_⟩
    subst hir
    exact ⟨cell 0 (by omega), cell 1 (by omega), cell 2 (by omega), cell 3 (by omega), cell 4 (by omega)⟩
theorem open_reps {H : Type} {enc : TypeId × Value → H} {W : World} {base b0 : Nat} {sp : Nat → Bool} {held : Bool} {v : Value} {d : DataW H} {ps : List MemPlace} (hv : Value.okWide Tryd.prog W .any b0 23 v) (h : DataW.Trod enc Tryd.prog W base sp held 23 v d ps) :
    ∃ (A : Option Addr) (cp : Nat) (l : List Rep), v = .slice A l.length cp ∧ l.length ≤ maxLen ∧ Reads W A l :=
  let ⟨A, cp, l, h1, h2, _, h3⟩ := open_reps_cap hv h
  ⟨A, cp, l, h1, h2, h3⟩
end Go.Proofs.YtohhkoojjelghaaDoor
