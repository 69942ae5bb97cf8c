/- report.Put: what it answers, of at most a million reports, where the names and strconv's table are laid. -/
import Derived.Test.YtohhkoojjelghaaDoorB
set_option linter.unusedSimpArgs false
set_option linter.unusedVariables false
namespace Go.Proofs.YtohhkoojjelghaaDoor
open Go.RowKit Go.Plan Go.Sort

theorem isBuilder_below {T e : TypeId} {B b : Nat} {bs : List Value} {w w' : World} (h : Lib.IsBuilder T e B b bs w) (hb : Below w.heap.size w w') : Lib.IsBuilder T e B b bs w' := by
  have go : ∀ p, Lib.BuilderAt T e B b p bs w → Lib.BuilderAt T e B b p bs w' := fun p h => by
    have hlt := h.lt
    obtain ⟨hB, v, hbk, hown, hne⟩ := h
    exact ⟨hB, v, (hb.block b hlt).trans hbk, own_below hown hb, hne⟩
  exact h.imp (go _) (go _)
theorem isBuilder_lt {T e : TypeId} {B b : Nat} {bs : List Value} {w : World} (h : Lib.IsBuilder T e B b bs w) : b < w.heap.size := by
  rcases h with h | h <;> exact h.lt
theorem ok_fit {r : Rep} (h : r.ok = true) : r.fit := by
  simp only [Rep.ok, mayOk, nOk, Bool.and_eq_true, decide_eq_true_eq] at h
  obtain ⟨⟨⟨⟨⟨h0, h1⟩, h2⟩, h3⟩, h4⟩, _⟩ := h
  exact ⟨⟨h0.1, by omega⟩, ⟨h1.1, by omega⟩, ⟨h2.1, by omega⟩, ⟨h3.1, by omega⟩, ⟨h4.1, by omega⟩⟩
def lineB (r : Rep) : List UInt8 := (lineS r).data.toList ++ [10]
def putB (l : List Rep) : List UInt8 := (l.map lineB).flatten
theorem mayL_ok {l : List Rep} (h : mayL l = true) (i : Nat) (hi : i < l.length) : l[i].ok = true := by
  unfold mayL at h
  rw [List.all_eq_true] at h
  have := h i (by simpa using hi)
  simp only [good, Bool.and_eq_true] at this
  simpa [hi] using this.1
theorem line_short (r : Rep) (h : r.fit) : (lineS r).data.toList.length ≤ 200 := by
  have ha := dec_len' r.a h.1.2
  have hb := dec_len' r.b h.2.1.2
  have hc := dec_len' r.c h.2.2.1.2
  have hd := dec_len' r.d h.2.2.2.1.2
  have he := dec_len' r.e h.2.2.2.2.2
  simp [lineS, words, Lib.join, List.intercalate, List.intersperse, nm0, nm1, nm2, nm3, nm4] at ha hb hc hd he ⊢
  omega
theorem put_take (l : List Rep) (k : Nat) (hk : k < l.length) : putB (l.take (k + 1)) = putB (l.take k) ++ lineB l[k] := by
  unfold putB
  rw [List.take_succ_eq_append_getElem hk, List.map_append, List.flatten_append]
  simp
theorem put_len (l : List Rep) (h : ∀ i (hi : i < l.length), l[i].fit) : ∀ k, k ≤ l.length → (putB (l.take k)).length ≤ 201 * k := by
  intro k
  induction k with
  | zero => intro _; simp [putB]
  | succ k ih =>
    intro hk
    rw [put_take l k (by omega), List.length_append]
    have := line_short l[k] (h k (by omega))
    have := ih (by omega)
    simp only [lineB, List.length_append, List.length_cons, List.length_nil]
    omega

theorem May_is (A : Option Addr) (cp : Nat) (l : List Rep) (w : World) (hR : Reads w A l) (hl : l.length ≤ 9223372036854775807) (v : Bool) (h : mayL l = v) :
    Calls Tryd.prog 13 #[.slice A l.length cp] w fun r w' => r = .returned (.bool v) ∧ Below w.heap.size w w' :=
  (May_any A cp l w hR hl).mono fun _ _ ⟨h1, h2⟩ => ⟨by rw [h1, h], h2⟩

set_option maxHeartbeats 4000000 in
theorem Put_any (A : Option Addr) (cp : Nat) (l : List Rep) (w : World) (hR : Reads w A l) (hl : l.length ≤ 1000000) (he : Env w) :
    Calls Tryd.prog 11 #[.slice A l.length cp] w fun r w' => r = .returned (if mayL l = true then .tuple #[.string ⟨(putB l).toArray⟩, .int .i64 0] else .tuple #[.string ⟨#[]⟩, .int .i64 8]) ∧ Below w.heap.size w w' := by
  cases hm : mayL l
  · have HM := Lib.hid hm
    clear hm
    go_enter Tryd.func11, Tryd.ntmps11
    go_wp2_with (go_at_call 13; refine (May_is _ _ _ _ hR (by omega) false HM.out).mono ?_; rintro q w1 ⟨rfl, hb⟩)
    go_ret2
    exact ⟨by simp, hb⟩
  · have hok := mayL_ok hm
    have HM := Lib.hid hm
    have HK := Lib.hid hok
    have HR := Lib.hid hR
    have HE := Lib.hid he
    clear hm hok hR he
    go_enter Tryd.func11, Tryd.ntmps11
    go_wp2_with (go_at_call 13; refine (May_is _ _ _ _ HR.out (by omega) true HM.out).mono ?_; rintro q w1 ⟨rfl, hb⟩)
    have hs1 := hb.size
    go_loopw [12] (fun i wr => ∃ k : Nat, k ≤ l.length ∧ i = .int .i64 k ∧ Hid (Lib.IsBuilder 48 5 w1.heap.size w1.heap.size (Lib.byteCells (putB (l.take k))) wr) ∧ Below w.heap.size w wr) (fun i _ => l.length - (intOf i).toNat)
    case atStart => exact ⟨0, by omega, rfl, Lib.fresh_isBuilder 48 5 w1, hb.alloc hs1 _⟩
    case round =>
      obtain ⟨k, hk, rfl, HB, hB⟩ := hrel
      have hsz := hB.size
      by_cases hlt : k < l.length
      · obtain ⟨b, o, hA, hr⟩ := HR.out k l[k] (by simp [hlt])
        subst hA
        have hfit := Lib.hid (ok_fit (HK.out k hlt))
        obtain ⟨c0, c1, c2, c3, c4⟩ := hr.below hB
        have hpt := Lib.hid (put_take l k hlt)
        clear hr
        generalize l[k] = r at *
        have hkl : (k : Int) < (l.length : Int) := by omega
        have hls : (lineS r).size + 1 ≤ 9223372036854775807 := by
          have h2 := line_short r hfit.out
          have h3 : (lineS r).size = (lineS r).data.size := rfl
          simp only [Array.length_toList] at h2
          omega
        go_wp2_with (go_at_call 19; refine (line_any r _ hfit.out (HE.out.below (hB.alloc hsz _))).mono ?_; rintro q w2 ⟨rfl, hb2⟩)
        have hs2 : wr.heap.size + 1 ≤ w2.heap.size := by have := hb2.size; simp at this; exact this
        have hB2 : Below w.heap.size w w2 := (hB.alloc hsz _).trans (hb2.mono (by simp; omega))
        have HB2 : Hid (Lib.IsBuilder 48 5 w1.heap.size w1.heap.size (Lib.byteCells (putB (l.take k))) w2) := isBuilder_below (isBuilder_below HB.out ((Below.refl _ _).alloc (Nat.le_refl _) _)) hb2
        have hlt2 := isBuilder_lt HB2.out
        have HLN : Hid ((Lib.byteCells (putB (l.take k))).length + (lineS r ++ ⟨#[10]⟩).size ≤ 140737488355328) := by
          show _ ≤ _
          have h1 := put_len l (fun i hi => ok_fit (HK.out i hi)) k hk
          have h2 := line_short r hfit.out
          rw [Lib.byteCells_length, ByteArray.size_append]
          simp only [Array.length_toList] at h2
          have h3 : (lineS r).size = (lineS r).data.size := rfl
          have h4 : (⟨#[10]⟩ : ByteArray).size = 1 := rfl
          omega
        refine (Tryd.Builder_WriteString w1.heap.size w1.heap.size _ _ w2 HB2.out HLN.out (by omega)).mono ?_
        rintro q w3 ⟨rfl, hat, hb3⟩
        have HB3 : Hid (Lib.IsBuilder 48 5 w1.heap.size w1.heap.size (Lib.byteCells (putB (l.take (k + 1)))) w3) := by
          refine .inr ?_
          rw [hpt.out]
          have : Lib.byteCells (putB (l.take k) ++ lineB r) = Lib.byteCells (putB (l.take k)) ++ Lib.strCells (lineS r ++ ⟨#[10]⟩) := by
            simp [Lib.byteCells, Lib.strCells, lineB, ByteArray.data_append]
          rw [this]
          exact hat
        have hB3 : Below w.heap.size w w3 := hB2.trans (hb3.mono hs1)
        clear hat hb3
        go_wp2
        go_roundw
        case rel => exact ⟨k + 1, by omega, by go_num, HB3, hB3⟩
        case measure => simp [intOf]; omega
      · obtain rfl : k = l.length := by omega
        go_wp2_with (go_at_call 20; refine (Tryd.Builder_String_any w1.heap.size w1.heap.size _ _ HB.out (Nat.le_of_lt (isBuilder_lt HB.out))).mono ?_; rintro q w2 ⟨rfl, hb2⟩)
        go_ret2
        exact ⟨by simp, hB.trans (hb2.mono hs1)⟩

end Go.Proofs.YtohhkoojjelghaaDoor
