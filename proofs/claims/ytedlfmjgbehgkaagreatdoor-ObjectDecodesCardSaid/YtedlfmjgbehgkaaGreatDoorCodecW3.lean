/- Laws on a slice of bytes turned into a string, and cut. -/
import Derived.Test.YtedlfmjgbehgkaaGreatDoorCodecW2
import Derived.Laws.BytesArg
namespace Go.Proofs.YtedlfmjgbehgkaaGreatDoor
open Go.RowKit

theorem strOfNums_bytes (l : List UInt8) : strOfNums (l.map fun c => (c.toNat : Int)) = ⟨l.toArray⟩ := by
  simp [strOfNums, List.map_map, Function.comp_def]
/-- 'string(b)'. -/
theorem run_string_of_bytes (w : World) (a : Option Addr) (n cap : Nat) (l : List UInt8) (hl : l.length = n)
    (ha : l = [] ∨ ∃ b off, a = some ⟨b, off, none⟩ ∧ ∀ i, (h : i < l.length) → w.cell? ⟨b, off + i, none⟩ = some (.int .u8 l[i].toNat)) :
    (convert 51 9 (.slice a n cap)).run Tryz.prog w = .ok (.string ⟨l.toArray⟩) w := by
  subst hl
  rcases ha with rfl | ⟨b, off, rfl, hc⟩
  · rw [run_convert_bytes_string w 51 9 5 _ _ cap Tryz.underlying51 Tryz.underlying5 Tryz.underlying9]
    cases a with
    | none => simp [Conv.bytesToString]; rfl
    | some a =>
      have h0 : (loadCells a 0).run Tryz.prog w = .ok (([] : List Int).map (Value.int .u8)).toArray w := by
        have := run_loadCells_list (P := Tryz.prog) w a [] (fun j v hj => by simp at hj)
        simpa using this
      have := run_bytesToString (P := Tryz.prog) w a 0 cap [] h0
      exact this
  · have := run_convert_bytes_arg (P := Tryz.prog) w 51 5 Tryz.underlying51 Tryz.underlying5 b off l.length cap (l.map fun c => (c.toNat : Int)) (by simp) (fun i hi => by
      rw [hc i hi]; simp [List.getD_eq_getElem?_getD, List.getElem?_eq_getElem hi]) 9 Tryz.underlying9
    rw [this, strOfNums_bytes]

/-- Behind 'b[size:]': the rest of the bytes. -/
theorem BytesIn.cut {w : World} {B : Nat} {p : Option Addr} {n cap : Nat} {l : List UInt8} (h : BytesIn w B (.slice p n cap) l) (k : Nat) (hk : k ≤ l.length) :
    n = l.length ∧ BytesIn w B (.slice (Option.map (fun x => x.add k) p) (l.length - k) (cap - k)) (l.drop k) ∧ (cap = k → BytesIn w B (.slice p (l.length - k) 0) (l.drop k)) := by
  obtain ⟨p', cap', e, hcap, hb⟩ := h
  simp only [Value.slice.injEq] at e
  obtain ⟨rfl, rfl, rfl⟩ := e
  refine ⟨rfl, ⟨_, _, by rw [List.length_drop], by rw [List.length_drop]; omega, ?_⟩, fun hck => ⟨_, _, by rw [List.length_drop], by rw [List.length_drop]; omega, .inl (List.drop_eq_nil_of_le (by omega))⟩⟩
  rcases hb with rfl | ⟨off, rfl, hc⟩
  · exact .inl (by simp)
  · by_cases hd : l.drop k = []
    · exact .inl hd
    · refine .inr ⟨off + k, by simp [Addr.add], fun i hi => ?_⟩
      rw [List.length_drop] at hi
      rw [Nat.add_assoc, hc (k + i) (by omega)]
      simp
/-- Behind 'b[:n]'. -/
theorem BytesIn.keep_head {w : World} {B : Nat} {p : Option Addr} {m cap : Nat} {l : List UInt8} (h : BytesIn w B (.slice p m cap) l) (n : Nat) (hn : n ≤ l.length) : BytesIn w B (.slice p n cap) (l.take n) := by
  obtain ⟨p', cap', e, hcap, hb⟩ := h
  simp only [Value.slice.injEq] at e
  obtain ⟨rfl, rfl, rfl⟩ := e
  have hl : (l.take n).length = n := by simp; omega
  refine ⟨_, _, by rw [hl], by omega, ?_⟩
  rcases hb with rfl | ⟨off, rfl, hc⟩
  · exact .inl (by simp)
  · refine .inr ⟨off, rfl, fun i hi => ?_⟩
    rw [hc i (by omega)]
    simp
theorem BytesIn.run_string {w : World} {B : Nat} {p : Option Addr} {n cap : Nat} {l : List UInt8} (h : BytesIn w B (.slice p n cap) l) : (convert 51 9 (.slice p n cap)).run Tryz.prog w = .ok (.string ⟨l.toArray⟩) w := by
  obtain ⟨p', cap', e, hcap, hb⟩ := h
  simp only [Value.slice.injEq] at e
  obtain ⟨rfl, rfl, rfl⟩ := e
  exact run_string_of_bytes w p l.length cap l rfl (hb.imp id fun ⟨off, h1, h2⟩ => ⟨B, off, h1, h2⟩)

structure RS where
  rest : List UInt8
  e : Int
/-- Block R is a reader: its bytes lie in block B. -/
def IsReader (w : World) (R B : Nat) (s : RS) : Prop :=
  ∃ v at_, w.heap[R]? = some (.cells #[v, .int .i64 at_, .int .i64 s.e] 81 (0, 0)) ∧ BytesIn w B v s.rest ∧ 0 ≤ at_ ∧ at_ + s.rest.length ≤ 1000000000000000000 ∧ R ≠ B
theorem IsReader.mods {S : List Nat} {w w' : World} {R B : Nat} {s : RS} (h : IsReader w R B s) (hm : Mods S w w') (h1 : R ∉ S) (h2 : B ∉ S) : IsReader w' R B s := by
  obtain ⟨v, at_, hR, hv, h3⟩ := h
  exact ⟨v, at_, hm.heap hR h1, hv.mods hm h2, h3⟩
theorem IsReader.lt {w : World} {R B : Nat} {s : RS} (h : IsReader w R B s) : R < w.heap.size := by
  obtain ⟨v, at_, hR, _⟩ := h
  exact lt_of_heap hR
theorem reader_moved {w : World} {R B : Nat} {v v' : Value} {at_ : Int} {rest' : List UInt8} {size : Nat} (hR : w.heap[R]? = some (.cells #[v, .int .i64 at_, .int .i64 0] 81 (0, 0)))
    (hv : BytesIn w B v' rest') (h0 : 0 ≤ at_) (h1 : at_ + size + rest'.length ≤ 1000000000000000000) (hRB : R ≠ B) :
    IsReader ((w.setCell ⟨R, 0, none⟩ v').setCell ⟨R, 1, none⟩ (.int .i64 (at_ + size))) R B ⟨rest', 0⟩ ∧ Mods [R] w ((w.setCell ⟨R, 0, none⟩ v').setCell ⟨R, 1, none⟩ (.int .i64 (at_ + size))) := by
  have hm : Mods [R] w ((w.setCell ⟨R, 0, none⟩ v').setCell ⟨R, 1, none⟩ (.int .i64 (at_ + size))) := ((Mods.refl [R] w).setCell (.inl (by simp)) _).setCell (.inl (by simp)) _
  refine ⟨⟨v', at_ + size, ?_, hv.mods hm (by simpa using fun e => hRB e.symm), by omega, by omega, hRB⟩, hm⟩
  have := heap_setCell_same (off := 1) (heap_setCell_same (off := 0) hR v') (.int .i64 (at_ + size))
  simpa using this
theorem reader_failed {w : World} {R B : Nat} {v : Value} {at_ : Int} {rest : List UInt8} {e : Int} (hR : w.heap[R]? = some (.cells #[v, .int .i64 at_, .int .i64 0] 81 (0, 0)))
    (hv : BytesIn w B v rest) (h0 : 0 ≤ at_) (h1 : at_ + rest.length ≤ 1000000000000000000) (hRB : R ≠ B) :
    IsReader (w.setCell ⟨R, 2, none⟩ (.int .i64 e)) R B ⟨rest, e⟩ ∧ Mods [R] w (w.setCell ⟨R, 2, none⟩ (.int .i64 e)) := by
  have hm : Mods [R] w (w.setCell ⟨R, 2, none⟩ (.int .i64 e)) := (Mods.refl [R] w).setCell (.inl (by simp)) _
  refine ⟨⟨v, at_, ?_, hv.mods hm (by simpa using fun e => hRB e.symm), by omega, by omega, hRB⟩, hm⟩
  have := heap_setCell_same (off := 2) hR (.int .i64 e)
  simpa using this
end Go.Proofs.YtedlfmjgbehgkaaGreatDoor
