/- report.read: what it answers of a text, where the names and strconv's table are laid. -/
import Derived.Test.YtohhkoojjelghaaDoorE
import Derived.Lib.ConvBytes
import Derived.Test.YtohhkoojjelghaaDoorRs
set_option linter.unusedSimpArgs false
set_option linter.unusedVariables false
namespace Go.Proofs.YtohhkoojjelghaaDoor
open Go.RowKit Go.Plan Go.Sort

def nArr (f : Nat → Int) : Array Value := #[.int .i64 (f 0), .int .i64 (f 1), .int .i64 (f 2), .int .i64 (f 3), .int .i64 (f 4)]
theorem nArr_cell {w : World} {b : Nat} {f : Nat → Int} (h : w.heap[b]? = some (.cells (nArr f) 58 (0, 0))) (i : Nat) (hi : i < 5) : w.cell? ⟨b, i, none⟩ = some (.int .i64 (f i)) := by
  rw [Lib.cell_of_heap h]
  match i, hi with
  | 0, _ => rfl
  | 1, _ => rfl
  | 2, _ => rfl
  | 3, _ => rfl
  | 4, _ => rfl
theorem nArr_set {w : World} {b : Nat} {f : Nat → Int} (h : w.heap[b]? = some (.cells (nArr f) 58 (0, 0))) (i : Nat) (hi : i < 5) (x : Int) :
    (w.setCell ⟨b, i, none⟩ (.int .i64 x)).heap[b]? = some (.cells (nArr fun j => if j = i then x else f j) 58 (0, 0)) := by
  have : (w.setCell ⟨b, i, none⟩ (.int .i64 x)).heap[b]? = some (.cells ((nArr f).setIfInBounds i (.int .i64 x)) 58 (0, 0)) := by
    simp [World.setCell, Array.getElem?_modify, h]
  rw [this]
  match i, hi with
  | 0, _ => simp [nArr]
  | 1, _ => simp [nArr]
  | 2, _ => simp [nArr]
  | 3, _ => simp [nArr]
  | 4, _ => simp [nArr]

/-- What report.read answers: true of the lines of small numbers alone. -/
def Rd (s : ByteArray) (r : Rep) (ok : Bool) : Prop := (ok = true → r.small ∧ lineS r = s) ∧ (ok = false → ∀ r' : Rep, r'.small → lineS r' ≠ s)

def RdE (s : ByteArray) (e : Ending) : Prop := ∃ r ok, e = .returned (.tuple #[Rep.val r, .bool ok]) ∧ Rd s r ok
theorem line_is (r : Rep) (w : World) (hf : r.fit) (he : Env w) (ln : ByteArray) (h : lineS r = ln) :
    Calls Tryd.prog 19 #[r.val] w fun e w' => e = .returned (.string ln) ∧ Below w.heap.size w w' := by subst h; exact line_any r w hf he
theorem list_ne {a b : ByteArray} (h : a ≠ b) : ¬ a.toList = b.toList := fun e => h (ba_ext (by rw [← ByteArray.toList_eq, ← ByteArray.toList_eq, e]))
theorem bytesWorld_below (w : World) (e : TypeId) (s : ByteArray) : Below w.heap.size w (Lib.bytesWorld w e s) :=
  ⟨rfl, rfl, rfl, by rw [Lib.bytesWorld_size]; omega, fun k hk => Lib.bytesWorld_at_old w e s k hk⟩
theorem set5 {w : World} {b : Nat} {v0 v1 v2 v3 v4 x0 x1 x2 x3 x4 : Value} (h : w.heap[b]? = some (.cells #[v0, v1, v2, v3, v4] 35 (0, 0))) :
    (((((w.setCell ⟨b, 0, none⟩ x0).setCell ⟨b, 1, none⟩ x1).setCell ⟨b, 2, none⟩ x2).setCell ⟨b, 3, none⟩ x3).setCell ⟨b, 4, none⟩ x4).heap[b]? = some (.cells #[x0, x1, x2, x3, x4] 35 (0, 0)) := by
  simp [World.setCell, Array.getElem?_modify, h]
theorem below_set5 {B b : Nat} {a w : World} (h : Below B a w) (hb : B ≤ b) (x0 x1 x2 x3 x4 : Value) :
    Below B a (((((w.setCell ⟨b, 0, none⟩ x0).setCell ⟨b, 1, none⟩ x1).setCell ⟨b, 2, none⟩ x2).setCell ⟨b, 3, none⟩ x3).setCell ⟨b, 4, none⟩ x4) :=
  ((((h.setCell (p := ⟨b, 0, none⟩) hb x0).setCell (p := ⟨b, 1, none⟩) hb x1).setCell (p := ⟨b, 2, none⟩) hb x2).setCell (p := ⟨b, 3, none⟩) hb x3).setCell (p := ⟨b, 4, none⟩) hb x4
def wd (ws : List ByteArray) (j : Nat) : List UInt8 := (ws.getD (2 * j + 1) ⟨#[]⟩).data.toList
def GoodW (ws : List ByteArray) (j : Nat) : Prop := digs (wd ws j) ∧ (wd ws j).length ≤ 15
theorem words_good {r : Rep} (h : r.small) (j : Nat) (hj : j < 5) : GoodW (words r) j := by
  match j, hj with
  | 0, _ => exact ⟨dec_digs _, dec_short _ h.a⟩
  | 1, _ => exact ⟨dec_digs _, dec_short _ h.b⟩
  | 2, _ => exact ⟨dec_digs _, dec_short _ h.c⟩
  | 3, _ => exact ⟨dec_digs _, dec_short _ h.d⟩
  | 4, _ => exact ⟨dec_digs _, dec_short _ h.e⟩

set_option maxRecDepth 8000 in
set_option maxHeartbeats 4000000 in
theorem read_any (s : ByteArray) (w : World) (hs : s.size < 4294967281) (he : Env w) :
    Calls Tryd.prog 15 #[.string s] w fun e w' => RdE s e ∧ Below w.heap.size w w' := by
  have HE := Lib.hid he
  have hs8 := he.size
  obtain ⟨mx, hmx⟩ := he.mx
  clear he
  go_enter Tryd.func15, Tryd.ntmps15
  by_cases hc : Lib.countB s ⟨#[32]⟩ = 9
  · have hlen := Lib.splitB_all ⟨#[32]⟩ (by decide) 0 9 s hc
    go_wp2_with (go_at_call 24; refine (Tryd.strings_Split _ _ mx _ hs (keep1 ((Below.refl _ _).alloc (Nat.le_refl _) _) hmx) (by decide)).mono ?_; rintro q w1 ⟨rfl, rfl⟩)
    have HW : Hid (∀ r', lineS r' = s → Lib.splitB ⟨#[32]⟩ 0 9 s = words r') := fun r' h => (line_split r' s h).2
    generalize Lib.splitB ⟨#[32]⟩ 0 9 s = ws at *
    go_loopw [16] (fun i wr => ∃ (k : Nat) (f : Nat → Int), k ≤ 5 ∧ i = .int .i64 k ∧ Hid (wr.heap[w.heap.size + 1 + 1]? = some (.cells (nArr f) 58 (0, 0))) ∧ Hid (wr.heap[w.heap.size]? = some (.cells #[.int .i64 0, .int .i64 0, .int .i64 0, .int .i64 0, .int .i64 0] 35 (0, 0))) ∧ Hid (wr.heap[w.heap.size + 1]? = some (.cells (ws.map Value.string).toArray 9 (0, 0))) ∧ Hid (∀ j, j < k → GoodW ws j ∧ f j = val (wd ws j)) ∧ Hid (∀ j, k ≤ j → f j = 0) ∧ Below w.heap.size w wr) (fun i _ => 5 - (intOf i).toNat)
    case atStart =>
      refine ⟨0, fun _ => 0, by omega, rfl, ?_, ?_, ?_, fun j hj => by omega, fun j hj => rfl, ((((Below.refl _ _).alloc (Nat.le_refl _) _).alloc (by simp) _).alloc (by simp; omega) _)⟩
      · show (((w.heap.push _).push _).push _)[_]? = _
        simp only [Array.getElem?_push, Array.size_push]
        rw [if_pos trivial]; rfl
      · show (((w.heap.push _).push _).push _)[_]? = _
        simp only [Array.getElem?_push, Array.size_push]
        rw [if_neg (by omega), if_neg (by omega), if_pos trivial]
      · show (((w.heap.push _).push _).push _)[_]? = _
        simp only [Array.getElem?_push, Array.size_push]
        rw [if_neg (by omega), if_pos trivial]
    case round =>
      obtain ⟨k, f, hk, rfl, HN, HZ, HS, HG, HF, hB⟩ := hrel
      have hsz : w.heap.size + 1 + 1 < wr.heap.size := (Array.getElem?_eq_some_iff.1 HN.out).1
      by_cases hlt : k < 5
      · have hwk : ∃ x, ws[2 * k + 1]? = some x ∧ wd ws k = x.data.toList := ⟨ws[2 * k + 1]'(by omega), by simp [show 2 * k + 1 < ws.length by omega], by simp [wd, show 2 * k + 1 < ws.length by omega]⟩
        obtain ⟨x, hx1, hx2⟩ := hwk
        have hcell : wr.cell? ⟨w.heap.size + 1, 2 * k + 1, none⟩ = some (.string x) := by
          rw [Lib.cell_of_heap HS.out]
          simp [hx1]
        have HX1 := Lib.hid hx1
        clear hx1
        have hk5 : (k : Int) < 5 := by omega
        have hw1 : IntKind.i64.wrap (2 * (k : Int)) = 2 * k := IntWalk.i64_in _ (by omega)
        have hw2 : IntKind.i64.wrap (2 * (k : Int) + 1) = 2 * k + 1 := IntWalk.i64_in _ (by omega)
        have hcv := Lib.run_convert_string_bytes (P := Tryd.prog) wr 9 46 5 x Tryd.underlying9 Tryd.underlying46 Tryd.underlying5
        have HX := Lib.hid hx2
        clear hlen hx2
        go_wp2
        clear hcell hcv
        have HCi : Hid (∀ j, j < x.size → (Lib.bytesWorld wr 5 x).cell? ⟨wr.heap.size, j, none⟩ = some (.int .u8 (x.data.toList.getD j 0).toNat)) := fun j hj => Lib.bytesWorld_cell wr 5 x j hj
        have HN1 : Hid ((Lib.bytesWorld wr 5 x).heap[w.heap.size + 1 + 1]? = some (.cells (nArr fun j => if j = k then (val (x.data.toList.take 0) : Int) else f j) 58 (0, 0))) := by
          show _ = _
          rw [Lib.bytesWorld_at_old wr 5 x _ hsz, HN.out]
          congr 3
          funext j
          by_cases hj : j = k
          · subst hj; simp [val, HF.out j (Nat.le_refl _)]
          · simp [hj]
        have HZ1 : Hid ((Lib.bytesWorld wr 5 x).heap[w.heap.size]? = some (.cells #[.int .i64 0, .int .i64 0, .int .i64 0, .int .i64 0, .int .i64 0] 35 (0, 0))) := (Lib.bytesWorld_at_old wr 5 x _ (by omega)).trans HZ.out
        have HS1 : Hid ((Lib.bytesWorld wr 5 x).heap[w.heap.size + 1]? = some (.cells (ws.map Value.string).toArray 9 (0, 0))) := (Lib.bytesWorld_at_old wr 5 x _ (by omega)).trans HS.out
        have hB1 : Below w.heap.size w (Lib.bytesWorld wr 5 x) := hB.trans ((bytesWorld_below wr 5 x).mono hB.size)
        have hsz1 : (Lib.bytesWorld wr 5 x).heap.size = wr.heap.size + 1 := Lib.bytesWorld_size wr 5 x
        clear HN HZ HS hB
        generalize Lib.bytesWorld wr 5 x = W at *
        go_loopw [27] (fun i wi => ∃ m : Nat, m ≤ x.size ∧ i = .int .i64 m ∧ Hid (∀ j, j < x.size → wi.cell? ⟨wr.heap.size, j, none⟩ = some (.int .u8 (x.data.toList.getD j 0).toNat)) ∧
          Hid (wi.heap[w.heap.size + 1 + 1]? = some (.cells (nArr fun j => if j = k then (val (x.data.toList.take m) : Int) else f j) 58 (0, 0))) ∧
          Hid (wi.heap[w.heap.size]? = some (.cells #[.int .i64 0, .int .i64 0, .int .i64 0, .int .i64 0, .int .i64 0] 35 (0, 0))) ∧ Hid (wi.heap[w.heap.size + 1]? = some (.cells (ws.map Value.string).toArray 9 (0, 0))) ∧ Hid (digs (x.data.toList.take m) ∧ (0 < m → x.size ≤ 15)) ∧ wi.heap.size = wr.heap.size + 1 ∧ Below w.heap.size w wi) (fun i _ => x.size - (intOf i).toNat)
        case atStart => exact ⟨0, by omega, rfl, HCi.out, HN1.out, HZ1.out, HS1.out, ⟨by simp [digs], by omega⟩, hsz1, hB1⟩
        case round =>
          obtain ⟨m, hm, rfl, HCi, HNi, HZi, HSi, HD, hszi, hBi⟩ := hrel
          by_cases hmx : m < x.size
          · have hml : m < x.data.toList.length := by rw [Array.length_toList]; exact hmx
            have c0 := HCi.out m hmx
            have hcm : x.data.toList.getD m 0 = x.data.toList[m] := by rw [List.getD_eq_getElem?_getD, List.getElem?_eq_getElem hml]; rfl
            have htk : x.data.toList.take (m + 1) = x.data.toList.take m ++ [x.data.toList.getD m 0] := by rw [hcm, List.take_succ_eq_append_getElem hml]
            have hmem : x.data.toList.getD m 0 ∈ x.data.toList := by rw [hcm]; exact List.getElem_mem hml
            have hcl : (x.data.toList.getD m 0).toNat < 256 := UInt8.toNat_lt _
            generalize x.data.toList.getD m 0 = c at *
            have HTK := Lib.hid htk
            have HMEM := Lib.hid hmem
            clear htk hmem hcm
            have hmi : (m : Int) < (x.size : Int) := by omega
            have hcw : wr.cell? ⟨w.heap.size + 1, 2 * k + 1, none⟩ = some (.string x) := by
              rw [Lib.cell_of_heap HSi.out]
              simp [HX1.out]
            by_cases h48 : c.toNat < 48
            · have h48i : (c.toNat : Int) < 48 := by omega
              have hbad : ∀ r' : Rep, r'.small → lineS r' ≠ s := fun r' hr he => by
                have hg := words_good hr k hlt
                rw [← HW.out r' he] at hg
                unfold GoodW at hg
                rw [HX.out] at hg
                have := (hg.1 c HMEM.out).1; omega
              have HBAD := Lib.hid hbad
              clear hbad
              have z0 : wr.cell? ⟨w.heap.size, 0, none⟩ = some (.int .i64 0) := by rw [Lib.cell_of_heap HZi.out]; rfl
              have z1 : wr.cell? ⟨w.heap.size, 1, none⟩ = some (.int .i64 0) := by rw [Lib.cell_of_heap HZi.out]; rfl
              have z2 : wr.cell? ⟨w.heap.size, 2, none⟩ = some (.int .i64 0) := by rw [Lib.cell_of_heap HZi.out]; rfl
              have z3 : wr.cell? ⟨w.heap.size, 3, none⟩ = some (.int .i64 0) := by rw [Lib.cell_of_heap HZi.out]; rfl
              have z4 : wr.cell? ⟨w.heap.size, 4, none⟩ = some (.int .i64 0) := by rw [Lib.cell_of_heap HZi.out]; rfl
              have zf := Lib.frozen_of_heap HZi.out
              go_wp2
              have HBE := below_set5 hBi (Nat.le_refl _) (.int .i64 0) (.int .i64 0) (.int .i64 0) (.int .i64 0) (.int .i64 0)
              have HTE := set5 (x0 := (.int .i64 0)) (x1 := (.int .i64 0)) (x2 := (.int .i64 0)) (x3 := (.int .i64 0)) (x4 := (.int .i64 0)) HZi.out
              generalize ((((((((((wr).setCell ⟨w.heap.size, 0, none⟩ (.int .i64 0))).setCell ⟨w.heap.size, 1, none⟩ (.int .i64 0))).setCell ⟨w.heap.size, 2, none⟩ (.int .i64 0))).setCell ⟨w.heap.size, 3, none⟩ (.int .i64 0))).setCell ⟨w.heap.size, 4, none⟩ (.int .i64 0)) = WE at *
              have y0 : WE.cell? ⟨w.heap.size, 0, none⟩ = some (.int .i64 0) := by rw [Lib.cell_of_heap HTE]; rfl
              have y1 : WE.cell? ⟨w.heap.size, 1, none⟩ = some (.int .i64 0) := by rw [Lib.cell_of_heap HTE]; rfl
              have y2 : WE.cell? ⟨w.heap.size, 2, none⟩ = some (.int .i64 0) := by rw [Lib.cell_of_heap HTE]; rfl
              have y3 : WE.cell? ⟨w.heap.size, 3, none⟩ = some (.int .i64 0) := by rw [Lib.cell_of_heap HTE]; rfl
              have y4 : WE.cell? ⟨w.heap.size, 4, none⟩ = some (.int .i64 0) := by rw [Lib.cell_of_heap HTE]; rfl
              have yl := World.block_lt_of_cell? WE _ y0
              refine bodyPost_ret (v := .tuple #[.agg #[.int .i64 0, .int .i64 0, .int .i64 0, .int .i64 0, .int .i64 0], .bool false]) (by simp [results, Tryd.results15, go_sem, y0, y1, y2, y3, y4, yl]) rfl ⟨⟨⟨0, 0, 0, 0, 0⟩, false, rfl, ⟨(fun h => by cases h), fun _ => HBAD.out⟩⟩, HBE⟩

            · by_cases h57 : 57 < c.toNat
              · have h48i : ¬ (c.toNat : Int) < 48 := by omega
                have h57i : (57 : Int) < c.toNat := by omega
                have hbad : ∀ r' : Rep, r'.small → lineS r' ≠ s := fun r' hr he => by
                  have hg := words_good hr k hlt
                  rw [← HW.out r' he] at hg
                  unfold GoodW at hg
                  rw [HX.out] at hg
                  have := (hg.1 c HMEM.out).2; omega
                have HBAD := Lib.hid hbad
                clear hbad
                have z0 : wr.cell? ⟨w.heap.size, 0, none⟩ = some (.int .i64 0) := by rw [Lib.cell_of_heap HZi.out]; rfl
                have z1 : wr.cell? ⟨w.heap.size, 1, none⟩ = some (.int .i64 0) := by rw [Lib.cell_of_heap HZi.out]; rfl
                have z2 : wr.cell? ⟨w.heap.size, 2, none⟩ = some (.int .i64 0) := by rw [Lib.cell_of_heap HZi.out]; rfl
                have z3 : wr.cell? ⟨w.heap.size, 3, none⟩ = some (.int .i64 0) := by rw [Lib.cell_of_heap HZi.out]; rfl
                have z4 : wr.cell? ⟨w.heap.size, 4, none⟩ = some (.int .i64 0) := by rw [Lib.cell_of_heap HZi.out]; rfl
                have zf := Lib.frozen_of_heap HZi.out
                go_wp2
                have HBE := below_set5 hBi (Nat.le_refl _) (.int .i64 0) (.int .i64 0) (.int .i64 0) (.int .i64 0) (.int .i64 0)
                have HTE := set5 (x0 := (.int .i64 0)) (x1 := (.int .i64 0)) (x2 := (.int .i64 0)) (x3 := (.int .i64 0)) (x4 := (.int .i64 0)) HZi.out
                generalize ((((((((((wr).setCell ⟨w.heap.size, 0, none⟩ (.int .i64 0))).setCell ⟨w.heap.size, 1, none⟩ (.int .i64 0))).setCell ⟨w.heap.size, 2, none⟩ (.int .i64 0))).setCell ⟨w.heap.size, 3, none⟩ (.int .i64 0))).setCell ⟨w.heap.size, 4, none⟩ (.int .i64 0)) = WE at *
                have y0 : WE.cell? ⟨w.heap.size, 0, none⟩ = some (.int .i64 0) := by rw [Lib.cell_of_heap HTE]; rfl
                have y1 : WE.cell? ⟨w.heap.size, 1, none⟩ = some (.int .i64 0) := by rw [Lib.cell_of_heap HTE]; rfl
                have y2 : WE.cell? ⟨w.heap.size, 2, none⟩ = some (.int .i64 0) := by rw [Lib.cell_of_heap HTE]; rfl
                have y3 : WE.cell? ⟨w.heap.size, 3, none⟩ = some (.int .i64 0) := by rw [Lib.cell_of_heap HTE]; rfl
                have y4 : WE.cell? ⟨w.heap.size, 4, none⟩ = some (.int .i64 0) := by rw [Lib.cell_of_heap HTE]; rfl
                have yl := World.block_lt_of_cell? WE _ y0
                refine bodyPost_ret (v := .tuple #[.agg #[.int .i64 0, .int .i64 0, .int .i64 0, .int .i64 0, .int .i64 0], .bool false]) (by simp [results, Tryd.results15, go_sem, y0, y1, y2, y3, y4, yl]) rfl ⟨⟨⟨0, 0, 0, 0, 0⟩, false, rfl, ⟨(fun h => by cases h), fun _ => HBAD.out⟩⟩, HBE⟩

              · by_cases h15 : 15 < x.size
                · have h48i : ¬ (c.toNat : Int) < 48 := by omega
                  have h57i : ¬ (57 : Int) < c.toNat := by omega
                  have h15i : (15 : Int) < x.size := by omega
                  have hbad : ∀ r' : Rep, r'.small → lineS r' ≠ s := fun r' hr he => by
                    have hg := words_good hr k hlt
                    rw [← HW.out r' he] at hg
                    unfold GoodW at hg
                    rw [HX.out] at hg
                    have := hg.2; rw [Array.length_toList] at this; have h' : x.size = x.data.size := rfl; omega
                  have HBAD := Lib.hid hbad
                  clear hbad
                  have z0 : wr.cell? ⟨w.heap.size, 0, none⟩ = some (.int .i64 0) := by rw [Lib.cell_of_heap HZi.out]; rfl
                  have z1 : wr.cell? ⟨w.heap.size, 1, none⟩ = some (.int .i64 0) := by rw [Lib.cell_of_heap HZi.out]; rfl
                  have z2 : wr.cell? ⟨w.heap.size, 2, none⟩ = some (.int .i64 0) := by rw [Lib.cell_of_heap HZi.out]; rfl
                  have z3 : wr.cell? ⟨w.heap.size, 3, none⟩ = some (.int .i64 0) := by rw [Lib.cell_of_heap HZi.out]; rfl
                  have z4 : wr.cell? ⟨w.heap.size, 4, none⟩ = some (.int .i64 0) := by rw [Lib.cell_of_heap HZi.out]; rfl
                  have zf := Lib.frozen_of_heap HZi.out
                  go_wp2
                  have HBE := below_set5 hBi (Nat.le_refl _) (.int .i64 0) (.int .i64 0) (.int .i64 0) (.int .i64 0) (.int .i64 0)
                  have HTE := set5 (x0 := (.int .i64 0)) (x1 := (.int .i64 0)) (x2 := (.int .i64 0)) (x3 := (.int .i64 0)) (x4 := (.int .i64 0)) HZi.out
                  generalize ((((((((((wr).setCell ⟨w.heap.size, 0, none⟩ (.int .i64 0))).setCell ⟨w.heap.size, 1, none⟩ (.int .i64 0))).setCell ⟨w.heap.size, 2, none⟩ (.int .i64 0))).setCell ⟨w.heap.size, 3, none⟩ (.int .i64 0))).setCell ⟨w.heap.size, 4, none⟩ (.int .i64 0)) = WE at *
                  have y0 : WE.cell? ⟨w.heap.size, 0, none⟩ = some (.int .i64 0) := by rw [Lib.cell_of_heap HTE]; rfl
                  have y1 : WE.cell? ⟨w.heap.size, 1, none⟩ = some (.int .i64 0) := by rw [Lib.cell_of_heap HTE]; rfl
                  have y2 : WE.cell? ⟨w.heap.size, 2, none⟩ = some (.int .i64 0) := by rw [Lib.cell_of_heap HTE]; rfl
                  have y3 : WE.cell? ⟨w.heap.size, 3, none⟩ = some (.int .i64 0) := by rw [Lib.cell_of_heap HTE]; rfl
                  have y4 : WE.cell? ⟨w.heap.size, 4, none⟩ = some (.int .i64 0) := by rw [Lib.cell_of_heap HTE]; rfl
                  have yl := World.block_lt_of_cell? WE _ y0
                  refine bodyPost_ret (v := .tuple #[.agg #[.int .i64 0, .int .i64 0, .int .i64 0, .int .i64 0, .int .i64 0], .bool false]) (by simp [results, Tryd.results15, go_sem, y0, y1, y2, y3, y4, yl]) rfl ⟨⟨⟨0, 0, 0, 0, 0⟩, false, rfl, ⟨(fun h => by cases h), fun _ => HBAD.out⟩⟩, HBE⟩

                · have h48i : ¬ (c.toNat : Int) < 48 := by omega
                  have h57i : ¬ (57 : Int) < c.toNat := by omega
                  have h15i : ¬ (15 : Int) < x.size := by omega
                  have hdg : digs (x.data.toList.take m) := HD.out.1
                  have hvl : val (x.data.toList.take m) < 10 ^ 15 := Nat.lt_of_lt_of_le (val_lt _ hdg) (Nat.pow_le_pow_right (by decide) (by simp; omega))
                  have hvs := val_snoc (x.data.toList.take m) c
                  rw [← HTK.out] at hvs
                  have HVS := Lib.hid hvs
                  have HDG := Lib.hid hdg
                  clear hvs hdg
                  have hnc : wr.cell? ⟨w.heap.size + 1 + 1, k, none⟩ = some (.int .i64 (val (x.data.toList.take m))) := by
                    have := nArr_cell HNi.out k hlt
                    simpa using this
                  have hnl := World.block_lt_of_cell? wr _ hnc
                  have hnf := Lib.frozen_of_heap HNi.out
                  generalize val (x.data.toList.take m) = P at *
                  have hp1 : IntKind.i64.wrap (10 * (P : Int)) = 10 * P := IntWalk.i64_in _ (by omega)
                  have hp2 : IntKind.u8.wrap ((c.toNat : Int) - 48) = (c.toNat : Int) - 48 := IntWalk.u8_in _ (by omega)
                  have hp3 : IntKind.i64.wrap ((c.toNat : Int) - 48) = (c.toNat : Int) - 48 := IntWalk.i64_in _ (by omega)
                  have hp4 : IntKind.i64.wrap (10 * (P : Int) + ((c.toNat : Int) - 48)) = 10 * (P : Int) + ((c.toNat : Int) - 48) := IntWalk.i64_in _ (by omega)
                  go_wp2
                  go_roundw
                  case rel =>
                    refine ⟨m + 1, by omega, by go_num, fun j hj => ?_, ?_, ?_, ?_, ⟨?_, fun _ => by omega⟩, ?_, hBi.setCell (by simp; omega) _⟩
                    · rw [World.cell?_setCell_other _ _ _ _ (by simp)]; exact HCi.out j hj
                    · rw [nArr_set HNi.out k hlt]
                      congr 3
                      funext j
                      by_cases hj : j = k
                      · have := HVS.out
                        simp [hj]
                        omega
                      · simp [hj]
                    · rw [Below.heap_setCell _ _ _ _ (by simp; omega)]; exact HZi.out
                    · rw [Below.heap_setCell _ _ _ _ (by simp)]; exact HSi.out
                    · rw [HTK.out]
                      intro y hy
                      rcases List.mem_append.1 hy with hy | hy
                      · exact HDG.out y hy
                      · have : y = c := by simpa using hy
                        subst this; omega
                    · simpa using hszi
                  case measure => simp [intOf]; omega
          · obtain rfl : m = x.size := by omega
            have htk : x.data.toList.take x.size = x.data.toList := List.take_of_length_le (by rw [Array.length_toList]; exact Nat.le_refl _)
            have HD2 : Hid (digs x.data.toList ∧ (0 < x.size → x.size ≤ 15)) := by have := HD.out; rwa [htk] at this
            rw [htk] at HNi
            clear HD htk
            go_wp2
            go_roundw
            case rel =>
              refine ⟨k + 1, _, by omega, by go_num, HNi, HZi, HSi, fun j hj => ?_, fun j hj => ?_, hBi⟩
              · by_cases hjk : j = k
                · subst hjk
                  refine ⟨?_, by simp [HX.out]⟩
                  unfold GoodW
                  rw [HX.out]
                  refine ⟨HD2.out.1, ?_⟩
                  have := HD2.out.2
                  rw [Array.length_toList]
                  have h' : x.size = x.data.size := rfl
                  omega
                · have := HG.out j (by omega)
                  simpa [hjk] using this
              · have := HF.out j (by omega)
                simpa [show j ≠ k by omega] using this
            case measure => simp [intOf]; omega
      · obtain rfl : k = 5 := by omega
        have hsm : ∀ j, j < 5 → small (f j) := fun j hj => by
          obtain ⟨⟨h1, h2⟩, h3⟩ := HG.out j hj
          have := Nat.lt_of_lt_of_le (val_lt _ h1) (Nat.pow_le_pow_right (by decide) h2)
          unfold small
          omega
        have c0 := nArr_cell HN.out 0 (by omega)
        have c1 := nArr_cell HN.out 1 (by omega)
        have c2 := nArr_cell HN.out 2 (by omega)
        have c3 := nArr_cell HN.out 3 (by omega)
        have c4 := nArr_cell HN.out 4 (by omega)
        have HR : Hid (∀ r' : Rep, r'.small → lineS r' = s → r' = ⟨f 0, f 1, f 2, f 3, f 4⟩) := fun r' hr he => by
          have hw := HW.out r' he
          have g := fun j hj => (HG.out j hj).2
          rw [hw] at g
          have g0 := (g 0 (by omega)).trans (dec_val _ hr.a.1)
          have g1 := (g 1 (by omega)).trans (dec_val _ hr.b.1)
          have g2 := (g 2 (by omega)).trans (dec_val _ hr.c.1)
          have g3 := (g 3 (by omega)).trans (dec_val _ hr.d.1)
          have g4 := (g 4 (by omega)).trans (dec_val _ hr.e.1)
          rw [g0, g1, g2, g3, g4]
        have hrs : Rep.small ⟨f 0, f 1, f 2, f 3, f 4⟩ := ⟨hsm 0 (by omega), hsm 1 (by omega), hsm 2 (by omega), hsm 3 (by omega), hsm 4 (by omega)⟩
        have HRS := Lib.hid hrs
        clear hsm HG HF hrs
        generalize f 0 = n0 at *
        generalize f 1 = n1 at *
        generalize f 2 = n2 at *
        generalize f 3 = n3 at *
        generalize f 4 = n4 at *
        go_wp2
        obtain ⟨ln, hln⟩ : ∃ ln, lineS ⟨n0, n1, n2, n3, n4⟩ = ln := ⟨_, rfl⟩
        have HLN := Lib.hid hln
        clear hln c0 c1 c2 c3 c4
        generalize hW : wr.alloc (.cells #[.int .i64 n0, .int .i64 n1, .int .i64 n2, .int .i64 n3, .int .i64 n4] 35) = W
        have HBW : Below w.heap.size w W := by rw [← hW]; exact hB.alloc hB.size _
        have HZW : W.heap[w.heap.size]? = some (.cells #[.int .i64 0, .int .i64 0, .int .i64 0, .int .i64 0, .int .i64 0] 35 (0, 0)) := by rw [← hW, Lib.alloc_old _ _ _ (by omega)]; exact HZ.out
        have hwl : w.heap.size < W.heap.size := (Array.getElem?_eq_some_iff.1 HZW).1
        have d0 : W.cell? ⟨wr.heap.size, 0, none⟩ = some (.int .i64 n0) := by rw [← hW]; simp
        have d1 : W.cell? ⟨wr.heap.size, 1, none⟩ = some (.int .i64 n1) := by rw [← hW]; simp
        have d2 : W.cell? ⟨wr.heap.size, 2, none⟩ = some (.int .i64 n2) := by rw [← hW]; simp
        have d3 : W.cell? ⟨wr.heap.size, 3, none⟩ = some (.int .i64 n3) := by rw [← hW]; simp
        have d4 : W.cell? ⟨wr.heap.size, 4, none⟩ = some (.int .i64 n4) := by rw [← hW]; simp
        have dl := World.block_lt_of_cell? W _ d0
        have hwg : w.heap.size < wr.heap.size := by omega
        clear hW HZ HN HS hB
        by_cases hq : ln = s
        · subst hq
          refine PlanS.region_plan (PlanS.But w.heap.size) [] (takes [0, 1, 3] (.one 2 (takes [4] (.one 5 (takes [6] .done))))) (by kernel_rfl) (by kernel_rfl) (by kernel_rfl) (fun _ _ d _ _ h => by cases d <;> exact h) ?_
          simp only [takes]
          iterate 3 ((first | refine PlanS.take_no rfl rfl ?_ | (refine PlanS.take_yes rfl rfl ?_; refine ⟨?_, ?_, ?_⟩; rotate_left; · (intro w' hw'; have z0 := PlanS.But.cell hw' d0 (Nat.ne_of_gt hwg); have z1 := PlanS.But.cell hw' d1 (Nat.ne_of_gt hwg); have z2 := PlanS.But.cell hw' d2 (Nat.ne_of_gt hwg); have z3 := PlanS.But.cell hw' d3 (Nat.ne_of_gt hwg); have z4 := PlanS.But.cell hw' d4 (Nat.ne_of_gt hwg); go_simp; first | done | rfl))); try simp only [Act.put, List.setIfInBounds_toArray, List.set_cons_zero, List.set_cons_succ, List.getElem_toArray, List.getElem_cons_zero, List.getElem_cons_succ])
          refine PlanS.loud_yes rfl rfl (fun K hK => ?_)
          go_simp
          refine (line_is ⟨n0, n1, n2, n3, n4⟩ _ HRS.out.fit (HE.out.below HBW.drew) ln HLN.out).mono ?_
          rintro q w2 ⟨rfl, hb⟩
          refine hK _ _ (.inr (PlanS.But.below hb)) ?_
          clear hK K
          try simp only [Act.put, List.setIfInBounds_toArray, List.set_cons_zero, List.set_cons_succ, List.getElem_toArray, List.getElem_cons_zero, List.getElem_cons_succ]
          have HB2 : Below w.heap.size w w2 := HBW.drew.trans (hb.mono HBW.size)
          have HZ2 : w2.heap[w.heap.size]? = some (.cells #[.int .i64 0, .int .i64 0, .int .i64 0, .int .i64 0, .int .i64 0] 35 (0, 0)) := (hb.block _ hwl).trans HZW
          have f0 : w2.cell? ⟨w.heap.size, 0, none⟩ = some (.int .i64 0) := by rw [Lib.cell_of_heap HZ2]; rfl
          have f1 : w2.cell? ⟨w.heap.size, 1, none⟩ = some (.int .i64 0) := by rw [Lib.cell_of_heap HZ2]; rfl
          have f2 : w2.cell? ⟨w.heap.size, 2, none⟩ = some (.int .i64 0) := by rw [Lib.cell_of_heap HZ2]; rfl
          have f3 : w2.cell? ⟨w.heap.size, 3, none⟩ = some (.int .i64 0) := by rw [Lib.cell_of_heap HZ2]; rfl
          have f4 : w2.cell? ⟨w.heap.size, 4, none⟩ = some (.int .i64 0) := by rw [Lib.cell_of_heap HZ2]; rfl
          have fl := World.block_lt_of_cell? w2 _ f0
          have ff := Lib.frozen_of_heap HZ2
          clear hb
          iterate 1 ((first | refine PlanS.take_no rfl rfl ?_ | (refine PlanS.take_yes rfl rfl ?_; refine ⟨?_, ?_, ?_⟩; rotate_left; · (intro w' hw'; go_simp; first | done | rfl))); try simp only [Act.put, List.setIfInBounds_toArray, List.set_cons_zero, List.set_cons_succ, List.getElem_toArray, List.getElem_cons_zero, List.getElem_cons_succ])
          refine PlanS.loud_yes rfl rfl (fun K hK => ?_)
          go_simp
          refine hK _ _ (.inr (PlanS.But.set5 _ _ _ _ _)) ?_
          clear hK K
          try simp only [Act.put, List.setIfInBounds_toArray, List.set_cons_zero, List.set_cons_succ, List.getElem_toArray, List.getElem_cons_zero, List.getElem_cons_succ]
          have HBE := below_set5 HB2 (Nat.le_refl _) (.int .i64 n0) (.int .i64 n1) (.int .i64 n2) (.int .i64 n3) (.int .i64 n4)
          have HTE := set5 (x0 := (.int .i64 n0)) (x1 := (.int .i64 n1)) (x2 := (.int .i64 n2)) (x3 := (.int .i64 n3)) (x4 := (.int .i64 n4)) HZ2
          generalize ((((((((((w2).setCell ⟨w.heap.size, 0, none⟩ (.int .i64 n0))).setCell ⟨w.heap.size, 1, none⟩ (.int .i64 n1))).setCell ⟨w.heap.size, 2, none⟩ (.int .i64 n2))).setCell ⟨w.heap.size, 3, none⟩ (.int .i64 n3))).setCell ⟨w.heap.size, 4, none⟩ (.int .i64 n4)) = WE at *
          have y0 : WE.cell? ⟨w.heap.size, 0, none⟩ = some (.int .i64 n0) := by rw [Lib.cell_of_heap HTE]; rfl
          have y1 : WE.cell? ⟨w.heap.size, 1, none⟩ = some (.int .i64 n1) := by rw [Lib.cell_of_heap HTE]; rfl
          have y2 : WE.cell? ⟨w.heap.size, 2, none⟩ = some (.int .i64 n2) := by rw [Lib.cell_of_heap HTE]; rfl
          have y3 : WE.cell? ⟨w.heap.size, 3, none⟩ = some (.int .i64 n3) := by rw [Lib.cell_of_heap HTE]; rfl
          have y4 : WE.cell? ⟨w.heap.size, 4, none⟩ = some (.int .i64 n4) := by rw [Lib.cell_of_heap HTE]; rfl
          have yl := World.block_lt_of_cell? WE _ y0
          clear f0 f1 f2 f3 f4 fl ff HB2 HZ2
          iterate 1 ((first | refine PlanS.take_no rfl rfl ?_ | (refine PlanS.take_yes rfl rfl ?_; refine ⟨?_, ?_, ?_⟩; rotate_left; · (intro w' hw'; go_simp; first | done | rfl))); try simp only [Act.put, List.setIfInBounds_toArray, List.set_cons_zero, List.set_cons_succ, List.getElem_toArray, List.getElem_cons_zero, List.getElem_cons_succ])
          refine PlanS.plan_done ?_
          go_wp2
          refine bodyPost_ret (v := .tuple #[.agg #[.int .i64 n0, .int .i64 n1, .int .i64 n2, .int .i64 n3, .int .i64 n4], .bool true]) (by simp [results, Tryd.results15, go_sem, y0, y1, y2, y3, y4, yl]) rfl ⟨⟨⟨n0, n1, n2, n3, n4⟩, true, rfl, ⟨fun _ => ⟨HRS.out, HLN.out⟩, fun h => by cases h⟩⟩, HBE⟩
        · have HQ := Lib.hid hq
          have hql := list_ne hq
          refine PlanS.region_plan (PlanS.But w.heap.size) [] (takes [0, 1, 3] (.one 2 (takes [4] (.one 5 (takes [6] .done))))) (by kernel_rfl) (by kernel_rfl) (by kernel_rfl) (fun _ _ d _ _ h => by cases d <;> exact h) ?_
          simp only [takes]
          iterate 3 ((first | refine PlanS.take_no rfl rfl ?_ | (refine PlanS.take_yes rfl rfl ?_; refine ⟨?_, ?_, ?_⟩; rotate_left; · (intro w' hw'; have z0 := PlanS.But.cell hw' d0 (Nat.ne_of_gt hwg); have z1 := PlanS.But.cell hw' d1 (Nat.ne_of_gt hwg); have z2 := PlanS.But.cell hw' d2 (Nat.ne_of_gt hwg); have z3 := PlanS.But.cell hw' d3 (Nat.ne_of_gt hwg); have z4 := PlanS.But.cell hw' d4 (Nat.ne_of_gt hwg); go_simp; first | done | rfl))); try simp only [Act.put, List.setIfInBounds_toArray, List.set_cons_zero, List.set_cons_succ, List.getElem_toArray, List.getElem_cons_zero, List.getElem_cons_succ])
          refine PlanS.loud_yes rfl rfl (fun K hK => ?_)
          go_simp
          refine (line_is ⟨n0, n1, n2, n3, n4⟩ _ HRS.out.fit (HE.out.below HBW.drew) ln HLN.out).mono ?_
          rintro q w2 ⟨rfl, hb⟩
          refine hK _ _ (.inr (PlanS.But.below hb)) ?_
          clear hK K
          try simp only [Act.put, List.setIfInBounds_toArray, List.set_cons_zero, List.set_cons_succ, List.getElem_toArray, List.getElem_cons_zero, List.getElem_cons_succ]
          have HB2 : Below w.heap.size w w2 := HBW.drew.trans (hb.mono HBW.size)
          have HZ2 : w2.heap[w.heap.size]? = some (.cells #[.int .i64 0, .int .i64 0, .int .i64 0, .int .i64 0, .int .i64 0] 35 (0, 0)) := (hb.block _ hwl).trans HZW
          have f0 : w2.cell? ⟨w.heap.size, 0, none⟩ = some (.int .i64 0) := by rw [Lib.cell_of_heap HZ2]; rfl
          have f1 : w2.cell? ⟨w.heap.size, 1, none⟩ = some (.int .i64 0) := by rw [Lib.cell_of_heap HZ2]; rfl
          have f2 : w2.cell? ⟨w.heap.size, 2, none⟩ = some (.int .i64 0) := by rw [Lib.cell_of_heap HZ2]; rfl
          have f3 : w2.cell? ⟨w.heap.size, 3, none⟩ = some (.int .i64 0) := by rw [Lib.cell_of_heap HZ2]; rfl
          have f4 : w2.cell? ⟨w.heap.size, 4, none⟩ = some (.int .i64 0) := by rw [Lib.cell_of_heap HZ2]; rfl
          have fl := World.block_lt_of_cell? w2 _ f0
          have ff := Lib.frozen_of_heap HZ2
          clear hb
          iterate 1 ((first | refine PlanS.take_no rfl rfl ?_ | (refine PlanS.take_yes rfl rfl ?_; refine ⟨?_, ?_, ?_⟩; rotate_left; · (intro w' hw'; go_simp; first | done | rfl))); try simp only [Act.put, List.setIfInBounds_toArray, List.set_cons_zero, List.set_cons_succ, List.getElem_toArray, List.getElem_cons_zero, List.getElem_cons_succ])
          refine PlanS.loud_yes rfl rfl (fun K hK => ?_)
          go_simp
          refine hK _ _ (.inr (PlanS.But.set5 _ _ _ _ _)) ?_
          clear hK K
          try simp only [Act.put, List.setIfInBounds_toArray, List.set_cons_zero, List.set_cons_succ, List.getElem_toArray, List.getElem_cons_zero, List.getElem_cons_succ]
          have HBE := below_set5 HB2 (Nat.le_refl _) (.int .i64 n0) (.int .i64 n1) (.int .i64 n2) (.int .i64 n3) (.int .i64 n4)
          have HTE := set5 (x0 := (.int .i64 n0)) (x1 := (.int .i64 n1)) (x2 := (.int .i64 n2)) (x3 := (.int .i64 n3)) (x4 := (.int .i64 n4)) HZ2
          generalize ((((((((((w2).setCell ⟨w.heap.size, 0, none⟩ (.int .i64 n0))).setCell ⟨w.heap.size, 1, none⟩ (.int .i64 n1))).setCell ⟨w.heap.size, 2, none⟩ (.int .i64 n2))).setCell ⟨w.heap.size, 3, none⟩ (.int .i64 n3))).setCell ⟨w.heap.size, 4, none⟩ (.int .i64 n4)) = WE at *
          have y0 : WE.cell? ⟨w.heap.size, 0, none⟩ = some (.int .i64 n0) := by rw [Lib.cell_of_heap HTE]; rfl
          have y1 : WE.cell? ⟨w.heap.size, 1, none⟩ = some (.int .i64 n1) := by rw [Lib.cell_of_heap HTE]; rfl
          have y2 : WE.cell? ⟨w.heap.size, 2, none⟩ = some (.int .i64 n2) := by rw [Lib.cell_of_heap HTE]; rfl
          have y3 : WE.cell? ⟨w.heap.size, 3, none⟩ = some (.int .i64 n3) := by rw [Lib.cell_of_heap HTE]; rfl
          have y4 : WE.cell? ⟨w.heap.size, 4, none⟩ = some (.int .i64 n4) := by rw [Lib.cell_of_heap HTE]; rfl
          have yl := World.block_lt_of_cell? WE _ y0
          clear f0 f1 f2 f3 f4 fl ff HB2 HZ2
          iterate 1 ((first | refine PlanS.take_no rfl rfl ?_ | (refine PlanS.take_yes rfl rfl ?_; refine ⟨?_, ?_, ?_⟩; rotate_left; · (intro w' hw'; go_simp; first | done | rfl))); try simp only [Act.put, List.setIfInBounds_toArray, List.set_cons_zero, List.set_cons_succ, List.getElem_toArray, List.getElem_cons_zero, List.getElem_cons_succ])
          refine PlanS.plan_done ?_
          go_wp2
          refine bodyPost_ret (v := .tuple #[.agg #[.int .i64 n0, .int .i64 n1, .int .i64 n2, .int .i64 n3, .int .i64 n4], .bool false]) (by simp [results, Tryd.results15, go_sem, y0, y1, y2, y3, y4, yl, hql]) rfl ⟨⟨⟨n0, n1, n2, n3, n4⟩, false, rfl, ⟨(fun h => by cases h), fun _ r' h1 h2 => HQ.out (by rw [← h2, HR.out r' h1 h2]; exact HLN.out.symm)⟩⟩, HBE⟩
  · have hne : ((Lib.countB s ⟨#[32]⟩ : Int) + 1 != 10) = true := by simp; omega
    have HW : Hid (∀ r', lineS r' ≠ s) := fun r' h => hc (line_split r' s h).1
    go_wp2_with (go_at_call 24; refine (Tryd.strings_Split _ _ mx _ hs (keep1 ((Below.refl _ _).alloc (Nat.le_refl _) _) hmx) (by decide)).mono ?_; rintro q w1 ⟨rfl, rfl⟩)
    obtain ⟨W, hWe⟩ : ∃ W, W = (w.alloc (.cells #[.int .i64 0, .int .i64 0, .int .i64 0, .int .i64 0, .int .i64 0] 35)).alloc (.cells ((Lib.splitB ⟨#[32]⟩ 0 (Lib.countB s ⟨#[32]⟩) s).map Value.string).toArray 9) := ⟨_, rfl⟩
    have HBW : Below w.heap.size w W := by rw [hWe]; exact ((Below.refl _ _).alloc (Nat.le_refl _) _).alloc (by simp) _
    have HZW : W.heap[w.heap.size]? = some (.cells #[.int .i64 0, .int .i64 0, .int .i64 0, .int .i64 0, .int .i64 0] 35 (0, 0)) := by
      rw [hWe, Lib.alloc_old _ _ _ (by simp)]
      exact heap_alloc_new _ _
    rw [← hWe]
    clear hWe
    have y0 : W.cell? ⟨w.heap.size, 0, none⟩ = some (.int .i64 0) := by rw [Lib.cell_of_heap HZW]; rfl
    have y1 : W.cell? ⟨w.heap.size, 1, none⟩ = some (.int .i64 0) := by rw [Lib.cell_of_heap HZW]; rfl
    have y2 : W.cell? ⟨w.heap.size, 2, none⟩ = some (.int .i64 0) := by rw [Lib.cell_of_heap HZW]; rfl
    have y3 : W.cell? ⟨w.heap.size, 3, none⟩ = some (.int .i64 0) := by rw [Lib.cell_of_heap HZW]; rfl
    have y4 : W.cell? ⟨w.heap.size, 4, none⟩ = some (.int .i64 0) := by rw [Lib.cell_of_heap HZW]; rfl
    have yl := World.block_lt_of_cell? W _ y0
    refine bodyPost_ret (v := .tuple #[.agg #[.int .i64 0, .int .i64 0, .int .i64 0, .int .i64 0, .int .i64 0], .bool false]) (by simp [results, Tryd.results15, go_sem, y0, y1, y2, y3, y4, yl]) rfl ⟨⟨⟨0, 0, 0, 0, 0⟩, false, rfl, (fun h => by cases h), fun _ r' _ => HW.out r'⟩, HBW⟩

end Go.Proofs.YtohhkoojjelghaaDoor
