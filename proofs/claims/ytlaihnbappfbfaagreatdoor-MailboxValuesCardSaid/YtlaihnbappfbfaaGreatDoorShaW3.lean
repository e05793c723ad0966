/- Walks of sha256: Write of a short text to a fresh Hash. -/
import Derived.Test.YtlaihnbappfbfaaGreatDoorS1
import Derived.Deep.MidRow
import Derived.Lib.BufferWrite
import Derived.Lib.SliceRun
namespace Go.Proofs.YtlaihnbappfbfaaGreatDoor
open Go.RowKit

/-- Cells of a row, from a place on, are others. -/
def spl (cur : List Value) (o : Nat) (vs : List Value) : List Value := cur.take o ++ vs ++ cur.drop (o + vs.length)
theorem spl_length (cur : List Value) (o : Nat) (vs : List Value) (h : o + vs.length ≤ cur.length) : (spl cur o vs).length = cur.length := by
  simp [spl]; omega
theorem heap_setCells (g : Nat) (t : TypeId) : ∀ (vs : List Value) (o : Nat) (cur : List Value) (w : World), w.heap[g]? = some (.cells cur.toArray t (0, 0)) → o + vs.length ≤ cur.length →
    (w.setCells g o vs).heap[g]? = some (.cells (spl cur o vs).toArray t (0, 0))
  | [], o, cur, w, h, _ => by simpa [World.setCells, spl] using h
  | v :: r, o, cur, w, h, hl => by
    have h1 := heap_setCell_same h (off := o) v
    have hs : cur.toArray.setIfInBounds o v = (cur.set o v).toArray := by simp
    rw [hs] at h1
    have := heap_setCells g t r (o + 1) (cur.set o v) (w.setCell ⟨g, o, none⟩ v) h1 (by simp at hl ⊢; omega)
    show ((w.setCell ⟨g, o, none⟩ v).setCells g (o + 1) r).heap[g]? = _
    rw [this]
    congr 2
    simp only [spl, List.length_cons] at hl ⊢
    rw [List.take_set, List.drop_set, if_pos (by omega)]
    have ho : o < cur.length := by omega
    have e1 : (cur.take (o + 1)).set o v = cur.take o ++ [v] := by
      rw [List.take_succ_eq_append_getElem ho, List.set_append_right _ _ (by simp; omega)]
      simp [Nat.min_eq_left (Nat.le_of_lt ho)]
    rw [e1, show o + 1 + r.length = o + (r.length + 1) by omega]
    simp
theorem mods_setCells {S : List Nat} {a : World} {b : Nat} (hb : b ∈ S ∨ a.heap.size ≤ b) : ∀ (vs : List Value) (o : Nat) (w : World), Mods S a w → Mods S a (w.setCells b o vs)
  | [], _, _, h => h
  | v :: r, o, _, h => mods_setCells hb r (o + 1) _ (h.setCell (p := ⟨b, o, none⟩) hb v)
theorem mods_setRow {S : List Nat} {a w : World} {b : Nat} {c : Array Value} (h : Mods S a w) (hb : b ∈ S ∨ a.heap.size ≤ b) : Mods S a (w.setRow b c) :=
  h.trans (T := [b]) ⟨rfl, rfl, rfl, by simp, fun k _ hk => setRow_other w b k c (by simpa using hk)⟩ (fun i hi => by
    have : i = b := by simpa using hi
    subst this; exact hb)

/-- The cells of a Hash. -/
def hashL (n : Nat) (st : List Int) (rest : List UInt8) : List Value := .int .i64 n :: (st.map (Value.int .u32) ++ bcells rest)
theorem hashL_state {n : Nat} {st st' : List Int} {rest : List UInt8} (h : st.length = 8) (h' : st'.length = 8) : spl (hashL n st rest) 1 (st'.map (Value.int .u32)) = hashL n st' rest := by
  simp [spl, hashL, h']
  rw [List.drop_left' (by simp [h])]
theorem hashL_rest {n : Nat} {st : List Int} {rest s : List UInt8} (h : st.length = 8) : spl (hashL n st rest) 9 (bcells s) = hashL n st (s ++ rest.drop s.length) := by
  have e1 : (hashL n st rest).take 9 = .int .i64 n :: st.map (Value.int .u32) := by
    simp [hashL]
    rw [List.take_left' (by simp [h])]
  have e2 : (hashL n st rest).drop (9 + (bcells s).length) = bcells (rest.drop s.length) := by
    rw [show 9 + (bcells s).length = (8 + s.length) + 1 by rw [bcells_length]; omega]
    show ((st.map (Value.int .u32)) ++ bcells rest).drop (8 + s.length) = _
    rw [List.drop_append, List.drop_eq_nil_of_le (by simp [h])]
    simp [bcells, h]
  simp only [spl, e1, e2]
  simp [hashL, bcells]
theorem infoU8 : (Tryz.prog.info? 5).map (·.size) = some 1 := by kernel_rfl

theorem hashL_length {n : Nat} {st : List Int} {rest : List UInt8} (h : st.length = 8) (hr : rest.length = 64) : (hashL n st rest).length = 73 := by
  simp [hashL, bcells, h, hr]
theorem u32_one (l : List Int) : (l.map (Value.int .u32)).toArray.all (·.oneCell') = true :=
  all_oneCell_toArray (fun v hv => by obtain ⟨x, _, rfl⟩ := List.mem_map.1 hv; rfl)
theorem shaI_length : shaI.length = 8 := rfl

set_option maxRecDepth 100000 in
set_option maxHeartbeats 2000000 in
theorem shaWrite_small {w : World} {H : Nat} {st0 : List Int} {rest0 : List UInt8} (hst0 : st0.length = 8) (hr0 : rest0.length = 64)
    (hH : w.heap[H]? = some (.cells (hashL 0 st0 rest0).toArray 222 (0, 0))) (s : ByteArray) (h0 : 0 < s.size) (h1 : s.size < 64) (htab : ShaTab w) :
    Calls Tryz.prog 157 #[.pointer (some ⟨H, 0, none⟩), .string s] w fun e w' => e = .returned (.int .i64 0) ∧ Mods [H] w w' ∧
      w'.heap[H]? = some (.cells (hashL s.size shaI (s.data.toList ++ rest0.drop s.size)).toArray 222 (0, 0)) := by
  have c0 : w.cell? ⟨H, 0, none⟩ = some (.int .i64 0) := cell_of_heap hH 0
  have hlen := hashL_length (n := 0) hst0 hr0
  have i0 := htab.2 0 (by omega)
  have i1 := htab.2 1 (by omega)
  have i2 := htab.2 2 (by omega)
  have i3 := htab.2 3 (by omega)
  have i4 := htab.2 4 (by omega)
  have i5 := htab.2 5 (by omega)
  have i6 := htab.2 6 (by omega)
  have i7 := htab.2 7 (by omega)
  have g1 : w.cell? ⟨H, 1, none⟩ = some ((hashL 0 st0 rest0)[1]'(by rw [hlen]; omega)) := by rw [cell_of_heap hH, List.getElem?_toArray, List.getElem?_eq_getElem]
  have f1 := frozen_of_heap hH 1
  have g2 : w.cell? ⟨H, 2, none⟩ = some ((hashL 0 st0 rest0)[2]'(by rw [hlen]; omega)) := by rw [cell_of_heap hH, List.getElem?_toArray, List.getElem?_eq_getElem]
  have f2 := frozen_of_heap hH 2
  have g3 : w.cell? ⟨H, 3, none⟩ = some ((hashL 0 st0 rest0)[3]'(by rw [hlen]; omega)) := by rw [cell_of_heap hH, List.getElem?_toArray, List.getElem?_eq_getElem]
  have f3 := frozen_of_heap hH 3
  have g4 : w.cell? ⟨H, 4, none⟩ = some ((hashL 0 st0 rest0)[4]'(by rw [hlen]; omega)) := by rw [cell_of_heap hH, List.getElem?_toArray, List.getElem?_eq_getElem]
  have f4 := frozen_of_heap hH 4
  have g5 : w.cell? ⟨H, 5, none⟩ = some ((hashL 0 st0 rest0)[5]'(by rw [hlen]; omega)) := by rw [cell_of_heap hH, List.getElem?_toArray, List.getElem?_eq_getElem]
  have f5 := frozen_of_heap hH 5
  have g6 : w.cell? ⟨H, 6, none⟩ = some ((hashL 0 st0 rest0)[6]'(by rw [hlen]; omega)) := by rw [cell_of_heap hH, List.getElem?_toArray, List.getElem?_eq_getElem]
  have f6 := frozen_of_heap hH 6
  have g7 : w.cell? ⟨H, 7, none⟩ = some ((hashL 0 st0 rest0)[7]'(by rw [hlen]; omega)) := by rw [cell_of_heap hH, List.getElem?_toArray, List.getElem?_eq_getElem]
  have f7 := frozen_of_heap hH 7
  have g8 : w.cell? ⟨H, 8, none⟩ = some ((hashL 0 st0 rest0)[8]'(by rw [hlen]; omega)) := by rw [cell_of_heap hH, List.getElem?_toArray, List.getElem?_eq_getElem]
  have f8 := frozen_of_heap hH 8
  have hw1 := heap_setCells H _ (shaI.map (Value.int .u32)) 1 _ w hH (by rw [hlen, List.length_map, shaI_length]; omega)
  rw [hashL_state hst0 shaI_length] at hw1
  have hm1 : Mods [H] w (w.setCells H 1 (shaI.map (Value.int .u32))) := mods_setCells (.inl (by simp)) _ _ _ (Mods.refl _ _)
  have h0' : (0 : Int) < (s.size : Int) := by omega
  have eW : w.setCells H 1 (shaI.map (Value.int .u32)) = ((((((((w.setCell ⟨H, 1, none⟩ (.int .u32 (shaI.getD 0 0))).setCell ⟨H, 2, none⟩ (.int .u32 (shaI.getD 1 0))).setCell ⟨H, 3, none⟩ (.int .u32 (shaI.getD 2 0))).setCell ⟨H, 4, none⟩ (.int .u32 (shaI.getD 3 0))).setCell ⟨H, 5, none⟩ (.int .u32 (shaI.getD 4 0))).setCell ⟨H, 6, none⟩ (.int .u32 (shaI.getD 5 0))).setCell ⟨H, 7, none⟩ (.int .u32 (shaI.getD 6 0))).setCell ⟨H, 8, none⟩ (.int .u32 (shaI.getD 7 0))) := rfl
  rw [eW] at hw1 hm1
  generalize (hashL 0 st0 rest0)[1]'(by rw [hlen]; omega) = y1 at g1
  generalize (hashL 0 st0 rest0)[2]'(by rw [hlen]; omega) = y2 at g2
  generalize (hashL 0 st0 rest0)[3]'(by rw [hlen]; omega) = y3 at g3
  generalize (hashL 0 st0 rest0)[4]'(by rw [hlen]; omega) = y4 at g4
  generalize (hashL 0 st0 rest0)[5]'(by rw [hlen]; omega) = y5 at g5
  generalize (hashL 0 st0 rest0)[6]'(by rw [hlen]; omega) = y6 at g6
  generalize (hashL 0 st0 rest0)[7]'(by rw [hlen]; omega) = y7 at g7
  generalize (hashL 0 st0 rest0)[8]'(by rw [hlen]; omega) = y8 at g8
  clear hH htab hlen eW
  generalize shaI.getD 0 0 = x0 at *
  generalize shaI.getD 1 0 = x1 at *
  generalize shaI.getD 2 0 = x2 at *
  generalize shaI.getD 3 0 = x3 at *
  generalize shaI.getD 4 0 = x4 at *
  generalize shaI.getD 5 0 = x5 at *
  generalize shaI.getD 6 0 = x6 at *
  generalize shaI.getD 7 0 = x7 at *
  generalize hW1 : ((((((((w.setCell ⟨H, 1, none⟩ (.int .u32 x0)).setCell ⟨H, 2, none⟩ (.int .u32 x1)).setCell ⟨H, 3, none⟩ (.int .u32 x2)).setCell ⟨H, 4, none⟩ (.int .u32 x3)).setCell ⟨H, 5, none⟩ (.int .u32 x4)).setCell ⟨H, 6, none⟩ (.int .u32 x5)).setCell ⟨H, 7, none⟩ (.int .u32 x6)).setCell ⟨H, 8, none⟩ (.int .u32 x7)) = W1 at *
  have c1 : W1.cell? ⟨H, 0, none⟩ = some (.int .i64 0) := cell_of_heap hw1 0
  have f1 : W1.frozen? ⟨H, 0, none⟩ = false := frozen_of_heap hw1 0
  have hcopy := fun ty => Lib.run_copy_row_string (P := Tryz.prog) W1 66 9 ty 5 H 9 64 64 s _ _ Tryz.underlying66 infoU8 hw1 (by omega) (by rw [List.size_toArray, hashL_length shaI_length hr0]; omega)
  have hbc : Lib.byteCells s.data.toList = bcells s.data.toList := rfl
  have hsl2 := slen s
  have hrow := hashL_rest (n := 0) (st := shaI) (rest := rest0) (s := s.data.toList) shaI_length
  simp only [spl, bcells_length, hsl2] at hrow
  simp only [hbc, hrow] at hcopy
  have hw2 := setRow_heap W1 H _ (hashL 0 shaI (s.data.toList ++ rest0.drop s.size)).toArray _ _ hw1
  have hm2 : Mods [H] w (W1.setRow H (hashL 0 shaI (s.data.toList ++ rest0.drop s.size)).toArray) := mods_setRow hm1 (.inl (by simp))
  generalize hW2 : W1.setRow H (hashL 0 shaI (s.data.toList ++ rest0.drop s.size)).toArray = W2 at *
  have c2 : W2.cell? ⟨H, 0, none⟩ = some (.int .i64 0) := cell_of_heap hw2 0
  have f2 : W2.frozen? ⟨H, 0, none⟩ = false := frozen_of_heap hw2 0
  have Hw2 := Lib.hid hw2
  have Hm2 := Lib.hid hm2
  have Hsl := Lib.hid hsl2
  have h64 : ((s.size : Int) == 64) = false := by simp; omega
  have h64' : (s.size : Int) ≤ 64 := by omega
  clear hw1 hm1 hrow hbc hw2 hm2 hsl2
  have hex : s.extract s.size s.size = ⟨#[]⟩ := by
    apply ByteArray.ext; apply Array.ext'
    simp
  have hem : (⟨#[]⟩ : ByteArray).size = 0 := rfl
  go_enter Tryz.func157, Tryz.ntmps157
  go_wp2
  go_loopw [1, 5, 6] (fun v _ _ wr => (v = .string s ∧ wr = W1) ∨ (v = .string ⟨#[]⟩ ∧ wr = W2.setCell ⟨H, 0, none⟩ (.int .i64 s.size))) (fun v _ _ _ => match v with | .string t => t.size | _ => 0)
  case atStart => exact .inl ⟨rfl, rfl⟩
  case round =>
    rcases hrel with ⟨rfl, rfl⟩ | ⟨rfl, rfl⟩
    · go_wp2
      go_round
      case rel => exact .inr ⟨rfl, by first | rfl | trivial⟩
      case measure => simp; omega
    · go_wp2
      go_ret
      refine ⟨rfl, Hm2.out.setCell (.inl (by simp)) _, ?_⟩
      have e := heap_setCell_same Hw2.out (off := 0) (.int .i64 s.size)
      rw [e]; rfl
end Go.Proofs.YtlaihnbappfbfaaGreatDoor
