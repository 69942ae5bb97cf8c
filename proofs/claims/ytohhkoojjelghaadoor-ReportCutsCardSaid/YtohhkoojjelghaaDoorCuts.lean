/- Of whatever reports, cut and text ReportCuts returns true: a text that is cut off tells the line that isn't ended, and is read, if it is cut behind a line; with more behind it the fault is at its end. No condition beyond the row's: the listed variables hold what the program's text lays. -/
import Derived.Test.YtohhkoojjelghaaDoorX
import Derived.Test.YtohhkoojjelghaaDoorT
import Derived.Test.YtohhkoojjelghaaDoorQ
set_option linter.unusedSimpArgs false
set_option linter.unusedVariables false
namespace Go.Proofs.YtohhkoojjelghaaDoor
open Go.ChangeShapes Go.WideShapes Go.ChangeAt Go.RowKit Go.ChangeMaps
namespace cuts

theorem contract (H : Type) (enc : TypeId × Value → H) (W : World) (base : Nat) (args : Array Value) (ds gs : List (DataW H)) (before : List MemPlace)
    (hval0 : ∀ (j : Nat) t v, Tryd.f5.params[j]? = some t → args[j]? = some v → Value.okWide Tryd.prog W .any base t v)
    (hW : DataW.Whole enc Tryd.prog Tryd.f5.params.toList Rows.reportCutsSpec.vars false W args.toList ds gs before)
    (he : Env W) :
    Calls Tryd.prog 5 args W fun e W' => ∃ v, e = .returned v ∧ Rows.reportCutsSpec.post enc Tryd.prog Tryd.f5 false true false false W args v W' := by
  have hval : ∀ (j : Nat) t v, Tryd.f5.params[j]? = some t → args[j]? = some v → Value.okWide Tryd.prog W .any base t v := hval0
  have hW' := hW
  obtain ⟨p, q, hA0, hV, rfl, hfz, hnd⟩ := hW
  have hA : DataW.TrodAll enc Tryd.prog W 0 (fun _ => true) true Tryd.f5.params.toList args.toList ds p := hA0
  rw [Tryd.params5] at hA hval
  obtain ⟨v0, v1, v2, d0, d1, d2, p0, p1, p2, rfl, rfl, rfl, h0, h1, h2⟩ := trodAll_three hA
  obtain ⟨rfl, rfl⟩ := trodVars_none hV
  have h0k := h0
  obtain ⟨A, cp, l, rfl, wl, hcp, hR⟩ := open_reps_cap (hval 0 23 v0 rfl rfl) h0
  obtain ⟨n, rfl, rfl, rfl, wn⟩ := open_int Tryd.underlying38 (hval 1 38 v1 rfl rfl) h1
  obtain ⟨s, rfl, rfl, rfl, ws⟩ := open_string Tryd.underlying9 (hval 2 9 v2 rfl rfl) h2
  clear hA0
  simp only [List.append_nil] at hW'
  have hn : 0 ≤ n ∧ n ≤ 65535 := by simpa [Lit.wf, IntKind.min, IntKind.max, IntKind.signed, IntKind.bits] using wn
  refine (cuts_any A cp n hn.1 hn.2 s (by unfold maxLen at ws; exact ws) l hcp W hR (by unfold maxLen at wl; exact wl) he).mono fun e W' ⟨hr, hb⟩ => ?_
  subst hr
  have hlt : ∀ x ∈ p0, x.block < W.heap.size := fun x hx => by simpa using hW'.lt x (by simpa using hx)
  have hsp : ∀ sp : Nat → Bool, (∀ p ∈ p0, sp p.block = true) → DataW.Trod enc Tryd.prog W' 0 sp true 23 (.slice A l.length cp) d0 p0 := fun sp hs =>
    WideElems.Trod_stays laidOut (by kernel_rfl) (of_decide_eq_true (by kernel_rfl)) h0k (fun x hx => hb.same (hlt x hx)) (fun x hx => hs x hx)
  have key : ∀ sp : Nat → Bool, (∀ p ∈ p0, sp p.block = true) → DataW.TrodAll enc Tryd.prog W' 0 sp true [23, 38, 9] [Value.slice A l.length cp, .int .u16 n, .string s] [d0, .lit (.int .u16 n), .lit (.string s.data.toList)] (p0 ++ [] ++ []) := fun sp hs => by
    simpa using trodAll_mk3 (hsp sp hs) (shut_int Tryd.underlying38 wn) (shut_string Tryd.underlying9 ws)
  exact ⟨_, rfl, post_of_below (pa := p0 ++ [] ++ []) (pv := []) hW' (fun _ _ _ => trodAll_mk1 (shut_bool Tryd.underlying4 _)) (key) (fun _ _ => rfl) (by simp) hb (ok_one (by kernel_rfl) rfl (okWide_bool_mk Tryd.underlying4 _))⟩

theorem laid_met (os : Os) (args : Array Value) : laidMetH Tryd.prog Rows.reportCutsRow.laid ((World.laidAll Tryd.prog os Rows.reportCutsRow.laid).forCall (fun _ _ => 0) ⟨#[], args, []⟩).memory := by
  rw [MakeChecks.laidMetH_plain _ _ _ (by kernel_rfl)]
  exact laidMet_laidAll _ (by kernel_rfl) (by kernel_rfl)
theorem reads (os : Os) {H : Type} (enc : TypeId × Value → H) : ∃ places, DataW.whole enc Tryd.prog ((World.laidAll Tryd.prog os Rows.reportCutsRow.laid).forCall (fun _ _ => 0) ⟨#[], #[.slice none 0 0, .int .u16 0, .string ⟨#[]⟩], []⟩).memory Tryd.f5.params.toList Rows.reportCutsSpec.vars false #[Value.slice none 0 0, .int .u16 0, .string ⟨#[]⟩].toList 8 = some ([.nil, .lit (.int .u16 0), .lit (.string [])], [], places) :=
  ⟨[], by kernel_rfl⟩

set_option maxRecDepth 100000 in
theorem lifted (os : Os) (started : os.Started) (H : Type) (enc : TypeId × Value → H) (F : Stop.Interp) :
    ReturnsInHanded {} Tryd.checked os 5 .any ((OpenSpec.ofChange Rows.reportCutsSpec).preRow enc Tryd.prog Tryd.f5 Rows.reportCutsRow.domain false Rows.reportCutsRow.laid) (((OpenSpec.ofChange Rows.reportCutsSpec).at F).post enc Tryd.prog Tryd.f5 false true false false) := by
  obtain ⟨places, hx⟩ := reads os enc
  refine returnsInHanded_of_row (C := Tryd.checked) (s := OpenSpec.ofChange Rows.reportCutsSpec) own started (by kernel_rfl) Tryd.func5
    (witness_row_at (enc := enc) (C := Tryd.checked) false (World.laidAll Tryd.prog os Rows.reportCutsRow.laid) #[.slice none 0 0, .int .u16 0, .string ⟨#[]⟩] (World.laidAll_os _ _ _) (by kernel_rfl) (by kernel_rfl) (by kernel_rfl)
      (OpenSpec.preRow_of_cond 8 hx (by kernel_rfl) (fun k hk => by cases hk) (by kernel_rfl) (laid_met os _))) ?_
  intro W base args ds gs before hval hW _ _ _ hL hsh _
  exact contract H enc W base args ds gs before hval hW (env_of hL hsh)

theorem said : Rows.ReportCutsSaid :=
  OpenClaim.holds_of_cond 5 Tryd.f5 rfl rfl rfl rfl rfl rfl rfl ⟨rfl, rfl, rfl, rfl, rfl⟩ rfl rfl rfl rfl rfl (by kernel_rfl) Tryd.func5 (by kernel_rfl)
    (of_decide_eq_true (by kernel_rfl)) (by unfold Func.isWrapper; first | (rw [if_pos (by decide +kernel)]; kernel_rfl) | (rw [if_neg (by decide +kernel)]; exact ⟨rfl, rfl⟩))
    (fun os started H enc _ F => by rw [OpenClaim.pre_eq_preRow]; exact lifted os started H enc F)

theorem plain (f : FuncId) (fn : Func) (hf : Tryd.pinned.checked.prog.funcNamed "flotsam/flotsamlaw27.ReportCuts" = some f) (hfn : Tryd.pinned.checked.prog.funcs[f]? = some fn) :
    false = Tryd.pinned.checked.prog.looks [] ∧ ∀ (j : Nat) t, fn.params[j]? = some t → Tryd.pinned.checked.prog.wantsStandIn t = false := by
  obtain rfl : f = 5 := Option.some.inj ((show Tryd.prog.funcNamed "flotsam/flotsamlaw27.ReportCuts" = some 5 by kernel_rfl).symm.trans hf) |>.symm
  obtain rfl : fn = Tryd.f5 := (Option.some.inj (Tryd.func5.symm.trans hfn)).symm
  refine ⟨by kernel_rfl, fun j t ht => ?_⟩
  rw [Tryd.params5] at ht
  have hm : t ∈ [23, 38, 9] := by simpa using Array.mem_of_getElem? ht
  have hall : ([23, 38, 9].all fun u => !Tryd.prog.wantsStandIn u) = true := by kernel_rfl
  exact (show Tryd.prog.wantsStandIn t = false by simpa using List.all_eq_true.1 hall t hm)
end cuts

theorem cuts_card : Rows.ReportCutsCardSaid :=
  Claim7.holds_tied_plain_at .later [] _ _ _ _ cuts.said (fun _ h => by cases h) (by kernel_rfl) (fun _ h => by cases h) reportCuts_row_tie rfl ⟨rfl, rfl⟩ (by kernel_rfl) rfl cuts.plain (by kernel_rfl)
#print axioms cuts_card
end Go.Proofs.YtohhkoojjelghaaDoor
