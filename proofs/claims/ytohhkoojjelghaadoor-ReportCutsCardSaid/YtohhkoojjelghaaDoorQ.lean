/- What the rows' lists give: the names, the table of powers, some bound; the last step of a row. -/
import Derived.Test.YtohhkoojjelghaaDoorE
import Derived.Test.YtohhkoojjelghaaDoorCards
import Derived.Test.YtohhkoojjelghaaDoorTie
import Derived.ProofKit
import Derived.OpenShut
import Derived.LaidMore
import Derived.LaidSub
import Derived.Carry
import Derived.Lay
import Derived.SevenTiedAt
import Derived.Deep.DeepHandedRow
import Derived.Lib.LaidTab
import Derived.ChangeSame
import Derived.ChangeMaps5
set_option linter.unusedSimpArgs false
set_option linter.unusedVariables false
namespace Go.Proofs.YtohhkoojjelghaaDoor
open Go.ChangeShapes Go.WideShapes Go.ChangeAt Go.RowKit

theorem own : ownKnob Tryd.prog.godebug = none := by kernel_rfl
theorem laidOut : laidOutB Tryd.prog = true := by kernel_rfl
theorem gNames : Tryd.prog.globalNamed "flotsam/report.names" = some 0 := by kernel_rfl

theorem laid_pow {W : World} (h : laidMetH Tryd.prog Rows.reportGetsRow.laid W) : Lib.TabIs Tryd.prog W "internal/strconv.uint64pow10" .u64 Lib.pow10Tab := by
  rw [MakeChecks.laidMetH_plain _ _ _ (by kernel_rfl)] at h
  have h1 : laidMet Tryd.prog [("internal/strconv.uint64pow10", Lib.tabData .u64 Lib.pow10Tab)] W := h.filter (fun x => x.1 == "internal/strconv.uint64pow10")
  exact Lib.tabIs_of_head (rest := []) glob_pow (by kernel_rfl : (Tryd.prog.globals[2]?).map (·.type) = some 89) Tryd.underlying89 Tryd.underlying82 (by kernel_rfl) (by kernel_rfl) h1

theorem laid_names {W : World} (h : laidMetH Tryd.prog Rows.reportGetsRow.laid W) (j : Nat) (hj : j < 5) : W.cell? ⟨0, j, none⟩ = some (.string (nms.getD j nm0)) := by
  rw [MakeChecks.laidMetH_plain _ _ _ (by kernel_rfl)] at h
  have h1 : laidMet Tryd.prog [("flotsam/report.names", Rows.laid_flotsam_report_names)] W := h.filter (fun x => x.1 == "flotsam/report.names")
  obtain ⟨ps, ⟨g, t, cs, fuel, p, q, hg, ht, hv, hd, _, _⟩, _, _⟩ := h1
  obtain rfl := Option.some.inj (gNames.symm.trans hg)
  obtain rfl := Option.some.inj ((show (Tryd.prog.globals[0]?).map (·.type) = some 61 by kernel_rfl).symm.trans ht)
  obtain ⟨xs, m, _, ex, _, hl, hel⟩ := DataW.trod_array Tryd.underlying61 hd
  have c9 : Tryd.prog.cellsOf 9 = 1 := by kernel_rfl
  have hE := hel j hj
  rw [c9, Nat.mul_one, List.getElem?_eq_getElem (by omega)] at hE
  obtain ⟨s, e1, e2, _⟩ := DataW.trod_string Tryd.underlying9 hE
  have e3 : (xs.map (·.1)) = nms.map fun s => (DataW.lit (.string s.data.toList) : DataW Unit) := (DataW.agg.inj (Prod.mk.inj ex).1).symm
  have e4 : (xs.map (·.1))[j]? = (nms.map fun s => (DataW.lit (.string s.data.toList) : DataW Unit))[j]? := by rw [e3]
  have hnl : nms.length = 5 := rfl
  rw [List.getElem?_map, List.getElem?_map, List.getElem?_eq_getElem (by omega : j < xs.length), List.getElem?_eq_getElem (by omega : j < nms.length), e2] at e4
  have hz : s = nms.getD j nm0 := by
    simp only [Option.map_some, Option.some.injEq, DataW.lit.injEq, Lit.string.injEq] at e4
    rw [List.getD, List.getElem?_eq_getElem (by omega : j < nms.length)]
    exact ba_ext e4
  rw [World.var?_cell hg hv j, ← hz]
  have : cs.toList[j]? = some (.string s) := by
    have h0 : ((cs.toList.drop j).take 1)[0]? = some (.string s) := by rw [e1]; rfl
    simpa using h0
  simpa using this
theorem begin_size : 8 ≤ (begin Tryd.prog (fun _ _ => 0) default).world.heap.size := of_decide_eq_true (by kernel_rfl)
theorem shaped_size {W : World} (hsh : W.ShapedOpen Tryd.prog) : 8 ≤ W.heap.size := by
  have h := hsh.2 7 (of_decide_eq_true (by kernel_rfl)) begin_size
  obtain ⟨o, _, ho, _⟩ := h
  have := (Array.getElem?_eq_some_iff.1 ho).1
  omega
theorem env_of {W : World} (h : laidMetH Tryd.prog Rows.reportGetsRow.laid W) (hsh : W.ShapedOpen Tryd.prog) : Env W :=
  ⟨laid_names h, laid_pow h, cell_of_shapedOpen_int (P := Tryd.prog) (g := 1) (t := 3) (zero := #[.int .i64 0]) hsh (of_decide_eq_true (by kernel_rfl)) (by kernel_rfl) rfl (by kernel_rfl) (by kernel_rfl) Tryd.underlying3, shaped_size hsh⟩
section
variable {H : Type} {enc : TypeId × Value → H} {P : Program}
theorem post_of_below {f : Func} {s : ChangeSpec} {apart fresh handsOn again : Bool} {W W' : World} {args : Array Value} {v : Value} {ds gs : List (DataW H)} {before pa pv : List MemPlace}
    (hW : DataW.Whole enc P f.params.toList s.vars apart W args.toList ds gs before)
    (hres : ∀ (b : Nat) (sp : Nat → Bool) (hd : Bool), DataW.TrodAll enc P W' b sp hd f.resultTypes.toList (v.resultList f.resultTypes.size) (s.fn H (ds ++ gs)).results [])
    (hargs : ∀ sp : Nat → Bool, (∀ p ∈ before, sp p.block = true) → DataW.TrodAll enc P W' 0 sp true f.params.toList args.toList (s.fn H (ds ++ gs)).args pa)
    (hvars : ∀ sp : Nat → Bool, (∀ p ∈ before, sp p.block = true) → DataW.TrodVars enc P W' sp s.vars (s.fn H (ds ++ gs)).vars pv)
    (hps : before = pa ++ pv) (hb : Below W.heap.size W W')
    (hok : ∀ (j : Nat) (t : TypeId) (r : Value), f.resultTypes[j]? = some t → (v.resultList f.resultTypes.size)[j]? = some r → Value.okWide P W' .any 0 t r) :
    s.post enc P f apart fresh handsOn again W args v W' := by
  have hlt : ∀ p ∈ before, p.block < W.heap.size := fun p hp => hW.lt p hp
  have hold : ∀ p ∈ before, (fun b => decide (b < W.heap.size)) p.block = true := fun p hp => by simpa using hlt p hp
  refine ⟨ds, gs, before, [], pa, pv, hW, hres _ _ _, hargs _ hold, hvars _ hold, World.keptBut_mono (fun p hp => ⟨hp, ?_⟩) (hb.frame (· ∈ before)), fun _ => ?_⟩
  · rw [hps, List.mem_append] at hp
    exact Or.inr hp
  · obtain ⟨_, _, _, _, _, hz, hn⟩ := hW
    refine ⟨hok, _, _, ([] ++ pa) ++ pv, ⟨[] ++ pa, pv, trodAll_append (hargs _ (fun _ _ => rfl)) (hres _ _ _), hvars _ (fun _ _ => rfl), rfl, ?_, ?_⟩, ?_⟩
    · intro b off hp
      have hin : MemPlace.cell b off ∈ before := by rw [hps]; simpa using hp
      rw [hb.frozen (hlt _ hin)]
      exact hz b off hin
    · intro ha
      have := hn ha
      rw [hps] at this
      simpa using this
    · intro p hp _
      rw [hps]
      simpa using hp
end
end Go.Proofs.YtohhkoojjelghaaDoor
