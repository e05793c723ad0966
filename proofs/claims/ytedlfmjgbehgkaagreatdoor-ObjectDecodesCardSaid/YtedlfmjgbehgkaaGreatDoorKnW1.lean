/- Walks of object: OfBlock, OfListing, String at the names of the examples. -/
import Derived.Test.YtedlfmjgbehgkaaGreatDoorObjW5
import Derived.Test.YtedlfmjgbehgkaaGreatDoorShelf
namespace Go.Proofs.YtedlfmjgbehgkaaGreatDoor
open Go.RowKit

theorem cells5 {w : World} {b : Nat} {a0 a1 a2 a3 a4 : Value} {t : TypeId} (h : w.heap[b]? = some (.cells #[a0, a1, a2, a3, a4] t (0, 0))) :
    (w.cell? ⟨b, 0, none⟩ = some a0 ∧ w.cell? ⟨b, 1, none⟩ = some a1 ∧ w.cell? ⟨b, 2, none⟩ = some a2 ∧ w.cell? ⟨b, 3, none⟩ = some a3 ∧ w.cell? ⟨b, 4, none⟩ = some a4) ∧
    (w.frozen? ⟨b, 0, none⟩ = false ∧ w.frozen? ⟨b, 1, none⟩ = false ∧ w.frozen? ⟨b, 2, none⟩ = false ∧ w.frozen? ⟨b, 3, none⟩ = false ∧ w.frozen? ⟨b, 4, none⟩ = false) :=
  ⟨⟨cell_of_heap h 0, cell_of_heap h 1, cell_of_heap h 2, cell_of_heap h 3, cell_of_heap h 4⟩, ⟨frozen_of_heap h 0, frozen_of_heap h 1, frozen_of_heap h 2, frozen_of_heap h 3, frozen_of_heap h 4⟩⟩
theorem mods_set5 {a w : World} {b : Nat} (h : Mods [] a w) (hb : a.heap.size ≤ b) (v0 v1 v2 v3 v4 : Value) :
    Mods [] a (((((w.setCell ⟨b, 0, none⟩ v0).setCell ⟨b, 1, none⟩ v1).setCell ⟨b, 2, none⟩ v2).setCell ⟨b, 3, none⟩ v3).setCell ⟨b, 4, none⟩ v4) :=
  ((((h.setCell (.inr hb) _).setCell (.inr hb) _).setCell (.inr hb) _).setCell (.inr hb) _).setCell (.inr hb) _

theorem set5_heap {w : World} {b : Nat} {a0 a1 a2 a3 a4 : Value} {t : TypeId} (h : w.heap[b]? = some (.cells #[a0, a1, a2, a3, a4] t (0, 0))) (v0 v1 v2 v3 v4 : Value) :
    (((((w.setCell ⟨b, 0, none⟩ v0).setCell ⟨b, 1, none⟩ v1).setCell ⟨b, 2, none⟩ v2).setCell ⟨b, 3, none⟩ v3).setCell ⟨b, 4, none⟩ v4).heap[b]? = some (.cells #[v0, v1, v2, v3, v4] t (0, 0)) := by
  have h0 := heap_setCell_same h (off := 0) v0
  have h1 := heap_setCell_same h0 (off := 1) v1
  have h2 := heap_setCell_same h1 (off := 2) v2
  have h3 := heap_setCell_same h2 (off := 3) v3
  have h4 := heap_setCell_same h3 (off := 4) v4
  simpa using h4

set_option maxRecDepth 100000 in
theorem ofBirth_any (k : Int) (o : ByteArray) (n : Int) (w : World) :
    Calls Tryz.prog 39 #[.int .i64 k, .agg #[.string o, .int .i64 n]] w fun e w' => e = .returned (nameVal k o n 0 ⟨#[]⟩) ∧ Mods [] w w' := by
  go_enter Tryz.func39, Tryz.ntmps39
  go_wp2
  refine bodyPost_ret (v := .agg #[.int .i64 k, .string o, .int .i64 n, .int .i64 0, .string ⟨#[]⟩]) ?_ rfl ⟨rfl, ?_⟩
  · simp [results, Tryz.results39, go_sem]
  · exact ((Mods.refl [] w).alloc _).alloc _

set_option maxRecDepth 100000 in
theorem ofBlock_any (o : ByteArray) (n i : Int) (w : World) :
    Calls Tryz.prog 14 #[.agg #[.string o, .int .i64 n], .int .i64 i] w fun e w' => e = .returned (nameVal 8 o n i ⟨#[]⟩) ∧ Mods [] w w' := by
  go_enter Tryz.func14, Tryz.ntmps14
  go_wp2_with fail
  refine (ofBirth_any 8 o n _).mono ?_
  rintro e w1 ⟨rfl, hm⟩
  have hw0 := hm.heap (heap_alloc_new (w.alloc (.cells #[.string o, .int .i64 n] 46)) (.cells #[.int .i64 0, .string ⟨#[]⟩, .int .i64 0, .int .i64 0, .string ⟨#[]⟩] 25)) (by simp)
  have hs := hm.size
  simp at hs hw0
  have hs1 : w.heap.size + 1 < w1.heap.size := by omega
  have hs2 : w.heap.size + 1 ≠ w1.heap.size := by omega
  obtain ⟨⟨a0, a1, a2, a3, a4⟩, ⟨c0, c1, c2, c3, c4⟩⟩ := cells5 hw0
  have Hm := Lib.hid hm
  have Hw0 := Lib.hid hw0
  clear hm hw0
  unfold nameVal
  go_wp2
  obtain ⟨⟨d0, d1, d2, d3, d4⟩, -⟩ := cells5 (heap_alloc_old (o := .cells #[.int .i64 8, .string o, .int .i64 n, .int .i64 i, .string ⟨#[]⟩] 25) (set5_heap Hw0.out (.int .i64 8) (.string o) (.int .i64 n) (.int .i64 i) (.string ⟨#[]⟩)))
  have hmf : Mods [] w ((((((w1.setCell ⟨w.heap.size + 1, 0, none⟩ (.int .i64 8)).setCell ⟨w.heap.size + 1, 1, none⟩ (.string o)).setCell ⟨w.heap.size + 1, 2, none⟩ (.int .i64 n)).setCell ⟨w.heap.size + 1, 3, none⟩ (.int .i64 i)).setCell ⟨w.heap.size + 1, 4, none⟩ (.string ⟨#[]⟩)).alloc (.cells #[.int .i64 8, .string o, .int .i64 n, .int .i64 i, .string ⟨#[]⟩] 25)) :=
    (mods_set5 (((Mods.refl [] w).alloc _).alloc _ |>.trans' Hm.out) (by omega) _ _ _ _ _).alloc _
  generalize ((((((w1.setCell ⟨w.heap.size + 1, 0, none⟩ (.int .i64 8)).setCell ⟨w.heap.size + 1, 1, none⟩ (.string o)).setCell ⟨w.heap.size + 1, 2, none⟩ (.int .i64 n)).setCell ⟨w.heap.size + 1, 3, none⟩ (.int .i64 i)).setCell ⟨w.heap.size + 1, 4, none⟩ (.string ⟨#[]⟩)).alloc (.cells #[.int .i64 8, .string o, .int .i64 n, .int .i64 i, .string ⟨#[]⟩] 25)) = wf at *
  refine bodyPost_ret (v := .agg #[.int .i64 8, .string o, .int .i64 n, .int .i64 i, .string ⟨#[]⟩]) (by simp [results, Tryz.results14, go_sem, d0, d1, d2, d3, d4]) rfl ⟨rfl, hmf⟩

set_option maxRecDepth 100000 in
theorem ofListing_any (o : ByteArray) (n : Int) (w : World) :
    Calls Tryz.prog 17 #[.agg #[.string o, .int .i64 n]] w fun e w' => e = .returned (nameVal 10 o n 0 ⟨#[]⟩) ∧ Mods [] w w' := by
  go_enter Tryz.func17, Tryz.ntmps17
  go_wp2_with fail
  refine (ofBirth_any 10 o n _).mono ?_
  rintro e w1 ⟨rfl, hm⟩
  have hw0 := hm.heap (heap_alloc_new (w.alloc (.cells #[.string o, .int .i64 n] 46)) (.cells #[.int .i64 0, .string ⟨#[]⟩, .int .i64 0, .int .i64 0, .string ⟨#[]⟩] 25)) (by simp)
  have hs := hm.size
  simp at hs hw0
  have hs1 : w.heap.size + 1 < w1.heap.size := by omega
  have hs2 : w.heap.size + 1 ≠ w1.heap.size := by omega
  obtain ⟨⟨a0, a1, a2, a3, a4⟩, ⟨c0, c1, c2, c3, c4⟩⟩ := cells5 hw0
  have Hm := Lib.hid hm
  have Hw0 := Lib.hid hw0
  clear hm hw0
  unfold nameVal
  go_wp2
  refine bodyPost_ret (v := .agg #[.int .i64 10, .string o, .int .i64 n, .int .i64 0, .string ⟨#[]⟩]) (by simp [results, Tryz.results17, go_sem, a0, a1, a2, a3, a4]) rfl ⟨rfl, ?_⟩
  exact mods_set5 ((((Mods.refl [] w).alloc _).alloc _).trans' Hm.out) (by omega) _ _ _ _ _

/-- cmp.Or at two strings of which the second is not empty. -/
theorem or_any (a b : ByteArray) (w : World) (N : Nat) (c0 : w.cell? ⟨N, 0, none⟩ = some (.string a)) (c1 : w.cell? ⟨N, 1, none⟩ = some (.string b)) (hb : b.toList ≠ []) :
    Calls Tryz.prog 43 #[.slice (some ⟨N, 0, none⟩) 2 2] w fun e w' => e = .returned (.string (if a.toList = [] then b else a)) ∧ w = w' := by
  by_cases ha : a.toList = []
  · rw [if_pos ha]
    have hb' : b.toList.isEmpty = false := by simpa using hb
    clear hb
    go_enter Tryz.func43, Tryz.ntmps43
    go_wp2
    go_loop [5, 8] (fun _ i => i = .int .i64 0 ∨ i = .int .i64 1) (fun _ i => 2 - (intOf i).toNat)
    case atStart => exact .inl rfl
    case round =>
      rcases hrel with rfl | rfl
      · go_wp2
        go_round
        case rel => exact .inr rfl
        case measure => simp [intOf]
      · go_wp2
        go_ret
        exact ⟨rfl, rfl⟩
  · rw [if_neg ha]
    have ha' : a.toList.isEmpty = false := by simpa using ha
    clear ha hb
    go_enter Tryz.func43, Tryz.ntmps43
    go_wp2
    go_loop [5, 8] (fun _ i => i = .int .i64 0) (fun _ i => 2 - (intOf i).toNat)
    case atStart => rfl
    case round =>
      subst hrel
      go_wp2
      go_ret
      exact ⟨rfl, rfl⟩
end Go.Proofs.YtedlfmjgbehgkaaGreatDoor
