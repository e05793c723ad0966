/- Walks of codec: the writer's methods, where there was no error. -/
import Derived.Test.YtedlfmjgbehgkaaGreatDoorCodecW6
namespace Go.Proofs.YtedlfmjgbehgkaaGreatDoor
open Go.RowKit

/-- Block W is a writer without an error that has written l. -/
def IsWriter (w : World) (W : Nat) (l : List UInt8) : Prop :=
  ∃ v, w.heap[W]? = some (.cells #[v, .int .i64 0] 96 (0, 0)) ∧ w.ownsRow (W + 1) 5 1 v l.length (bcells l)
/-- What a writer's method keeps. -/
def WKeep (W k : Nat) (o : Obj) : Prop := k ≠ W ∧ NotRow (W + 1) k o
theorem IsWriter.lt {w : World} {W : Nat} {l : List UInt8} (h : IsWriter w W l) : W < w.heap.size := by
  obtain ⟨v, h, _⟩ := h
  exact lt_of_heap h
theorem owns_of_block {w w' : World} {B : Nat} {v : Value} {n : Nat} {xs : List Value} (h : w.ownsRow B 5 1 v n xs) (hb : ∀ k, v.ownBlock = some k → w'.heap[k]? = w.heap[k]?) : w'.ownsRow B 5 1 v n xs := by
  obtain ⟨h1, ⟨rfl, h2⟩ | ⟨g', cap, cur, rfl, hB, hh, hn, hm, hc, ht⟩⟩ := h
  · exact ⟨h1, .inl ⟨rfl, h2⟩⟩
  · exact ⟨h1, .inr ⟨g', cap, cur, rfl, hB, by rw [hb g' rfl]; exact hh, hn, hm, hc, ht⟩⟩
/-- A call that keeps the writer's block and its row. -/
theorem IsWriter.keep {P : Nat → Obj → Prop} {w w' : World} {W : Nat} {l : List UInt8} (h : IsWriter w W l) (hk : Keep P w w') (h1 : ∀ o, P W o) (h2 : ∀ k cur, W < k → P k (.cells cur 5 (0, 0))) : IsWriter w' W l := by
  obtain ⟨v, hW, ho⟩ := h
  refine ⟨v, hk.block _ _ hW (h1 _), owns_of_block ho fun k hk' => ?_⟩
  obtain ⟨_, ⟨rfl, _⟩ | ⟨g', cap, cur, rfl, hB, hh, _⟩⟩ := ho
  · simp [Value.ownBlock] at hk'
  · simp only [Value.ownBlock, Option.some.injEq] at hk'
    subst hk'
    rw [hh, hk.block _ _ hh (h2 _ _ hB)]
theorem IsWriter.mods {S : List Nat} {w w' : World} {W : Nat} {l : List UInt8} (h : IsWriter w W l) (hm : Mods S w w') (hS : ∀ k ∈ S, k < W) : IsWriter w' W l :=
  h.keep (P := fun k _ => k ∉ S) (.of_mods hm (fun _ _ _ h => h)) (fun _ hm => by have := hS _ hm; omega) (fun k _ hk hm => by have := hS _ hm; omega)
theorem owns_shape {w : World} {B : Nat} {e : TypeId} {s : Nat} {v : Value} {n : Nat} {xs : List Value} (h : w.ownsRow B e s v n xs) : ∃ a m c, v = .slice a m c := by
  obtain ⟨_, ⟨rfl, rfl⟩ | ⟨g', cap, cur, rfl, _⟩⟩ := h
  · exact ⟨_, _, _, rfl⟩
  · exact ⟨_, _, _, rfl⟩
/-- The last store of a method: the new row goes into the writer's block. -/
theorem writer_stored {w w1 : World} {W : Nat} {v v' : Value} {l : List UInt8} (hW : w.heap[W]? = some (.cells #[v, .int .i64 0] 96 (0, 0)))
    (ho : w1.ownsRow (W + 1) 5 1 v' l.length (bcells l)) (hk : Keep (NotRow (W + 1)) w w1) :
    IsWriter (w1.setCell ⟨W, 0, none⟩ v') W l ∧ Keep (WKeep W) w (w1.setCell ⟨W, 0, none⟩ v') := by
  have hW1 : w1.heap[W]? = some (.cells #[v, .int .i64 0] 96 (0, 0)) := hk.block _ _ hW (.inl (by omega))
  refine ⟨⟨v', ?_, owns_of_block ho fun k hk' => heap_setCell_ne (by have := (ho.lt k hk').1; omega) _⟩, ?_⟩
  · have := heap_setCell_same (off := 0) hW1 v'
    simpa using this
  · exact (hk.weaken (fun k o _ h => h.2)).trans (.of_mods (S := [W]) ((Mods.refl [W] w1).setCell (.inl (by simp)) _) (fun k o _ h => by simpa using h.1))

theorem newWriter_any (w : World) : Calls Tryz.prog 30 #[] w fun e w' => e = .returned (.pointer (some ⟨w.heap.size, 0, none⟩)) ∧ IsWriter w' w.heap.size [] ∧ Mods [] w w' ∧ w'.heap.size = w.heap.size + 1 := by
  go_enter Tryz.func30, Tryz.ntmps30
  go_wp2
  go_ret
  exact ⟨rfl, ⟨_, heap_alloc_new w _, World.ownsRow_nil _ _ _ _⟩, (Mods.refl [] w).alloc _, by simp⟩

theorem writerNumber_any {w : World} {W : Nat} {l : List UInt8} (n : Nat) (hn : n < 9223372036854775808) (h : IsWriter w W l) (hl : l.length ≤ 140737488355000) :
    Calls Tryz.prog 31 #[.pointer (some ⟨W, 0, none⟩), .int .i64 n] w fun e w' => e = .returned (.tuple #[]) ∧ IsWriter w' W (l ++ encNat n) ∧ Keep (WKeep W) w w' := by
  have hlt := h.lt
  obtain ⟨v, hW, ho⟩ := h
  have hc0 := cell_of_heap hW 0
  have hc1 := cell_of_heap hW 1
  have hf0 := frozen_of_heap hW 0
  simp only [List.getElem?_toArray, List.getElem?_cons_zero, List.getElem?_cons_succ] at hc0 hc1
  have ho0 := Lib.hid ho
  have hW0 := Lib.hid hW
  have e1 : IntKind.u64.wrap (n : Int) = (n : Int) := IntWalk.u64_in _ ⟨by omega, by omega⟩
  clear ho hW
  go_enter Tryz.func31, Tryz.ntmps31
  go_wp2_with (go_at_call 58; go_in)
  refine (appendNatural_any n (by omega) ho0.out hl (by omega)).mono ?_
  rintro e w1 ⟨v', rfl, ho1, hk1⟩
  obtain ⟨a1, m1, c1, rfl⟩ := owns_shape ho1
  have hf1 : w1.frozen? ⟨W, 0, none⟩ = false := frozen_of_heap (hk1.block _ _ hW0.out (.inl (by omega))) 0
  have hc1' : w1.cell? ⟨W, 0, none⟩ = some v := by rw [cell_of_heap (hk1.block _ _ hW0.out (.inl (by omega))) 0]; rfl
  have H1 := Lib.hid ho1
  have H2 := Lib.hid hk1
  clear ho1 hk1
  go_wp2
  go_end0
  exact ⟨rfl, writer_stored hW0.out H1.out H2.out⟩

/-- The encoding of a text. -/
def encText (s : List UInt8) : List UInt8 := encNat s.length ++ s
theorem strCells_bytes (s : ByteArray) : Lib.strCells s = bcells s.data.toList := by
  simp [Lib.strCells, bcells]
set_option maxRecDepth 100000 in
theorem writerText_any {w : World} {W : Nat} {l : List UInt8} (s : ByteArray) (hs : s.size ≤ 16777216) (h : IsWriter w W l) (hl : l.length ≤ 140737000000000) :
    Calls Tryz.prog 32 #[.pointer (some ⟨W, 0, none⟩), .string s] w fun e w' => e = .returned (.tuple #[]) ∧ IsWriter w' W (l ++ encText s.data.toList) ∧ Keep (WKeep W) w w' := by
  have hlt := h.lt
  obtain ⟨v, hW, ho⟩ := h
  have hc0 := cell_of_heap hW 0
  have hc1 := cell_of_heap hW 1
  have hf0 := frozen_of_heap hW 0
  simp only [List.getElem?_toArray, List.getElem?_cons_zero, List.getElem?_cons_succ] at hc0 hc1
  obtain ⟨i0, hi, hz0, hz1, hz2⟩ := info_parts infoByte
  have ho0 := Lib.hid ho
  have hW0 := Lib.hid hW
  have e1 : IntKind.u64.wrap (s.size : Int) = (s.size : Int) := IntWalk.u64_in _ ⟨by omega, by omega⟩
  have hsl : s.data.toList.length = s.size := Array.length_toList
  have hlen := encNat_length_u64 s.size (by omega)
  have Hsl := Lib.hid hsl
  clear ho hW hsl
  go_enter Tryz.func32, Tryz.ntmps32
  go_wp2_with (go_at_call 58; go_in)
  refine (appendNatural_any s.size (by omega) ho0.out (by omega) (by omega)).mono ?_
  rintro e w1 ⟨v', rfl, ho1, hk1⟩
  have H1 := Lib.hid ho1
  have H2 := Lib.hid hk1
  have hs1 : W + 1 ≤ w1.heap.size := Nat.le_trans hlt hk1.size
  clear ho1 hk1
  go_wp2_with (at_builtin; refine Lib.wpList_append_own_string _ rfl _ _ 51 9 rfl (W + 1) 5 i0 Tryz.underlying51 Tryz.underlying9 hi hz0 hz1 hz2 _ _ _ rfl H1.out s rfl ?c1 ?c2 hs1 ?_)
  case c1 => unfold maxLen; rw [List.length_append]; omega
  case c2 => rw [List.length_append]; omega
  intro v2 w2 ho2 hg2 _
  obtain ⟨a2, m2, c2, rfl⟩ := owns_shape ho2
  have hk2 : Keep (NotRow (W + 1)) w w2 := H2.out.grown hg2 (notRow_of_owns H1.out)
  have hf1 : w2.frozen? ⟨W, 0, none⟩ = false := frozen_of_heap (hk2.block _ _ hW0.out (.inl (by omega))) 0
  have hc1' : w2.cell? ⟨W, 0, none⟩ = some v := by rw [cell_of_heap (hk2.block _ _ hW0.out (.inl (by omega))) 0]; rfl
  have H3 : Hid (w2.ownsRow (W + 1) 5 1 (.slice a2 m2 c2) (l ++ encText s.data.toList).length (bcells (l ++ encText s.data.toList))) := by
    show World.ownsRow _ _ _ _ _ _ _
    unfold encText
    rw [← List.append_assoc, bcells_append, Hsl.out, List.length_append, Hsl.out, ← strCells_bytes, List.length_append]
    exact ho2
  have H4 := Lib.hid hk2
  clear ho2 hg2 hk2
  go_wp2
  go_end0
  exact ⟨rfl, writer_stored hW0.out H3.out H4.out⟩

set_option maxRecDepth 100000 in
theorem writerBytes_any {w : World} {W : Nat} {l : List UInt8} (h : IsWriter w W l) (hne : l ≠ []) (hl : l.length ≤ 140737000000000) :
    Calls Tryz.prog 33 #[.pointer (some ⟨W, 0, none⟩)] w fun e w' => ∃ v g, e = .returned (.tuple #[v, .int .i64 0]) ∧ BytesIn w' g v l ∧ w.heap.size ≤ g ∧ g < w'.heap.size ∧ Mods [] w w' := by
  have hlt := h.lt
  obtain ⟨v, hW, ho⟩ := h
  have hc0 := cell_of_heap hW 0
  have hc1 := cell_of_heap hW 1
  simp only [List.getElem?_toArray, List.getElem?_cons_zero, List.getElem?_cons_succ] at hc0 hc1
  have hg : ∃ g, v.ownBlock = some g := by
    cases hv : v.ownBlock with
    | some g => exact ⟨g, rfl⟩
    | none =>
      exfalso
      obtain ⟨_, ⟨rfl, h2⟩ | ⟨g', cap, cur, rfl, _⟩⟩ := ho
      · exact hne (by simpa using h2)
      · simp [Value.ownBlock] at hv
  obtain ⟨g, hg⟩ := hg
  have hb := bytesIn_of_owns ho hg
  obtain ⟨a0, m0, c0, rfl⟩ := owns_shape ho
  cases a0 with
  | none => simp [Value.ownBlock] at hg
  | some a0 =>
    have Hb := Lib.hid hb
    clear ho hW hg hb hne
    go_enter Tryz.func33, Tryz.ntmps33
    go_wp2_with (go_at_call 45; refine (cloneBytes_any Hb.out (by omega)).mono ?_; rintro e w1 ⟨v', g', rfl, h1, h2, h3, h4⟩)
    go_ret2
    exact ⟨v', g', rfl, h1, h2, h3, h4⟩
end Go.Proofs.YtedlfmjgbehgkaaGreatDoor
