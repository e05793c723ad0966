/- Walks of object: fields at the texts of the examples. -/
import Derived.Test.YtedlfmjgbehgkaaGreatDoorKnW2
namespace Go.Proofs.YtedlfmjgbehgkaaGreatDoor
open Go.RowKit

set_option maxRecDepth 100000 in
set_option maxHeartbeats 1000000 in
/-- The closure 'next': the first item, and the rest in the box. -/
theorem next_any (b B off n c : Nat) (s : ByteArray) (w : World) (hb : w.heap[b]? = some (.cells #[.slice (some ⟨B, off, none⟩) (n + 1) (c + 1)] 75 (0, 0)))
    (hs : w.cell? ⟨B, off, none⟩ = some (.string s)) (hn : n ≤ c) (hc : c ≤ 1000) :
    Calls Tryz.prog 69 #[.pointer (some ⟨b, 0, none⟩)] w fun e w' => e = .returned (.string s) ∧ (∃ o', w'.heap[b]? = some (.cells #[.slice (some ⟨B, o', none⟩) n c] 75 (0, 0)) ∧ (0 < c → o' = off + 1)) ∧ Mods [b] w w' := by
  have h0 := cell_of_heap hb 0
  have f0 := frozen_of_heap hb 0
  simp only [List.getElem?_toArray, List.getElem?_cons_zero] at h0
  have Hb := Lib.hid hb
  have hn0 : ((n : Int) + 1 == 0) = false := by simp; omega
  clear hb
  rcases Nat.eq_zero_or_pos c with rfl | hc0
  · have hn1 : n = 0 := by omega
    subst hn1
    go_enter Tryz.func69, Tryz.ntmps69
    go_wp2
    go_ret
    refine ⟨rfl, ⟨off, ?_, by omega⟩, (Mods.refl [b] w).setCell (.inl (by simp)) _⟩
    rw [heap_setCell_same Hb.out]; rfl
  · obtain ⟨c, rfl⟩ : ∃ d, c = d + 1 := ⟨c - 1, by omega⟩
    go_enter Tryz.func69, Tryz.ntmps69
    go_wp2
    go_ret
    refine ⟨rfl, ⟨off + 1, ?_, fun _ => rfl⟩, (Mods.refl [b] w).setCell (.inl (by simp)) _⟩
    rw [heap_setCell_same Hb.out]; rfl

theorem row6 {w : World} {b : Nat} {a0 a1 a2 a3 a4 a5 : Value} {t : TypeId} (h : w.heap[b]? = some (.cells #[a0, a1, a2, a3, a4, a5] t (0, 0))) :
    w.cell? ⟨b, 0, none⟩ = some a0 ∧ w.cell? ⟨b, 1, none⟩ = some a1 ∧ w.cell? ⟨b, 2, none⟩ = some a2 ∧ w.cell? ⟨b, 3, none⟩ = some a3 ∧ w.cell? ⟨b, 4, none⟩ = some a4 ∧ w.cell? ⟨b, 5, none⟩ = some a5 :=
  ⟨cell_of_heap h 0, cell_of_heap h 1, cell_of_heap h 2, cell_of_heap h 3, cell_of_heap h 4, cell_of_heap h 5⟩

/-- What stands while fields is at work: b is the box of the items. -/
structure FI (w : World) (b : Nat) (row : Array Value) (k : Int) (o : ByteArray) (n i : Int) (t : ByteArray) (W : World) : Prop where
  r : W.heap[b + 1]? = some (.cells #[.int .i64 0, .string ⟨#[]⟩, .int .i64 0, .int .i64 0, .string ⟨#[]⟩] 25 (0, 0))
  u : W.heap[b + 2]? = some (.cells row 54 (0, 0))
  n : W.heap[b + 3]? = some (.cells #[.int .i64 k, .string o, .int .i64 n, .int .i64 i, .string t] 25 (0, 0))
  sz : b + 4 ≤ W.heap.size
  hb : b = w.heap.size
  mods : Mods [] w W
theorem FI.step {w : World} {b : Nat} {row : Array Value} {k : Int} {o : ByteArray} {n i : Int} {t : ByteArray} {W W' : World} (h : FI w b row k o n i t W) (hm : Mods [b] W W') : FI w b row k o n i t W' :=
  ⟨hm.heap h.r (by simp), hm.heap h.u (by simp), hm.heap h.n (by simp), Nat.le_trans h.sz hm.size, h.hb, h.mods.trans hm (fun j hj => by simp at hj; exact .inr (by rw [hj, h.hb]; exact Nat.le_refl _))⟩
theorem FI.start {w : World} {row : Array Value} {k : Int} (s : Value) :
    FI w w.heap.size row k ⟨#[]⟩ 0 0 ⟨#[]⟩ ((((w.alloc (.cells #[s] 75)).alloc (.cells #[.int .i64 0, .string ⟨#[]⟩, .int .i64 0, .int .i64 0, .string ⟨#[]⟩] 25)).alloc (.cells row 54)).alloc (.cells #[.int .i64 k, .string ⟨#[]⟩, .int .i64 0, .int .i64 0, .string ⟨#[]⟩] 25)) := by
  have h1 := heap_alloc_new (w.alloc (.cells #[s] 75)) (.cells #[.int .i64 0, .string ⟨#[]⟩, .int .i64 0, .int .i64 0, .string ⟨#[]⟩] 25)
  have h2 := heap_alloc_new ((w.alloc (.cells #[s] 75)).alloc (.cells #[.int .i64 0, .string ⟨#[]⟩, .int .i64 0, .int .i64 0, .string ⟨#[]⟩] 25)) (.cells row 54)
  have h3 := heap_alloc_new (((w.alloc (.cells #[s] 75)).alloc (.cells #[.int .i64 0, .string ⟨#[]⟩, .int .i64 0, .int .i64 0, .string ⟨#[]⟩] 25)).alloc (.cells row 54)) (.cells #[.int .i64 k, .string ⟨#[]⟩, .int .i64 0, .int .i64 0, .string ⟨#[]⟩] 25)
  simp only [World.size_alloc] at h1 h2 h3
  exact ⟨heap_alloc_old (heap_alloc_old h1), heap_alloc_old h2, h3, by simp only [World.size_alloc]; omega, rfl, ((((Mods.refl [] w).alloc _).alloc _).alloc _).alloc _⟩
theorem FI.box {w : World} {row : Array Value} {k : Int} (s : Value) :
    ((((w.alloc (.cells #[s] 75)).alloc (.cells #[.int .i64 0, .string ⟨#[]⟩, .int .i64 0, .int .i64 0, .string ⟨#[]⟩] 25)).alloc (.cells row 54)).alloc (.cells #[.int .i64 k, .string ⟨#[]⟩, .int .i64 0, .int .i64 0, .string ⟨#[]⟩] 25)).heap[w.heap.size]? = some (.cells #[s] 75 (0, 0)) :=
  heap_alloc_old (heap_alloc_old (heap_alloc_old (heap_alloc_new w _)))
theorem FI.store {w : World} {b : Nat} {row : Array Value} {k : Int} {o : ByteArray} {n i : Int} {t : ByteArray} {W : World} (h : FI w b row k o n i t W) (j : Nat) (v : Value) (o' : ByteArray) (n' i' : Int) (t' : ByteArray)
    (hv : (#[.int .i64 k, .string o, .int .i64 n, .int .i64 i, .string t] : Array Value).setIfInBounds j v = #[.int .i64 k, .string o', .int .i64 n', .int .i64 i', .string t']) :
    FI w b row k o' n' i' t' (W.setCell ⟨b + 3, j, none⟩ v) := by
  have hm : Mods [b + 3] W (W.setCell ⟨b + 3, j, none⟩ v) := (Mods.refl _ W).setCell (.inl (by simp)) _
  exact ⟨hm.heap h.r (by simp), hm.heap h.u (by simp), by rw [heap_setCell_same h.n, hv], by simpa [World.setCell] using h.sz, h.hb, h.mods.trans hm (fun j hj => by simp at hj; have := h.hb; omega)⟩
theorem FI.cells {w : World} {b : Nat} {a0 a1 a2 a3 a4 a5 : Value} {k : Int} {o : ByteArray} {n i : Int} {t : ByteArray} {W : World} (h : FI w b #[a0, a1, a2, a3, a4, a5] k o n i t W) :
    (W.cell? ⟨b + 2, 1, none⟩ = some a1 ∧ W.cell? ⟨b + 2, 2, none⟩ = some a2 ∧ W.cell? ⟨b + 2, 3, none⟩ = some a3 ∧ W.cell? ⟨b + 2, 4, none⟩ = some a4) ∧
    (W.cell? ⟨b + 3, 0, none⟩ = some (.int .i64 k) ∧ W.cell? ⟨b + 3, 1, none⟩ = some (.string o) ∧ W.cell? ⟨b + 3, 2, none⟩ = some (.int .i64 n) ∧ W.cell? ⟨b + 3, 3, none⟩ = some (.int .i64 i) ∧ W.cell? ⟨b + 3, 4, none⟩ = some (.string t)) ∧
    (W.frozen? ⟨b + 3, 1, none⟩ = false ∧ W.frozen? ⟨b + 3, 2, none⟩ = false ∧ W.frozen? ⟨b + 3, 3, none⟩ = false ∧ W.frozen? ⟨b + 3, 4, none⟩ = false) ∧
    (W.cell? ⟨b + 1, 0, none⟩ = some (.int .i64 0) ∧ W.cell? ⟨b + 1, 1, none⟩ = some (.string ⟨#[]⟩) ∧ W.cell? ⟨b + 1, 2, none⟩ = some (.int .i64 0) ∧ W.cell? ⟨b + 1, 3, none⟩ = some (.int .i64 0) ∧ W.cell? ⟨b + 1, 4, none⟩ = some (.string ⟨#[]⟩)) ∧
    (W.frozen? ⟨b + 1, 0, none⟩ = false ∧ W.frozen? ⟨b + 1, 1, none⟩ = false ∧ W.frozen? ⟨b + 1, 2, none⟩ = false ∧ W.frozen? ⟨b + 1, 3, none⟩ = false ∧ W.frozen? ⟨b + 1, 4, none⟩ = false) := by
  obtain ⟨_, u1, u2, u3, u4, _⟩ := row6 h.u
  obtain ⟨⟨n0, n1, n2, n3, n4⟩, ⟨_, g1, g2, g3, g4⟩⟩ := cells5 h.n
  obtain ⟨r, g⟩ := cells5 h.r
  exact ⟨⟨u1, u2, u3, u4⟩, ⟨n0, n1, n2, n3, n4⟩, ⟨g1, g2, g3, g4⟩, r, g⟩
theorem mods_bytesWorld (w : World) (e : TypeId) (s : ByteArray) : Mods [] w (Lib.bytesWorld w e s) := by
  exact .of_below (Lib.bytesWorld_below w e s)
theorem mods_drewN (S : List Nat) (w : World) (n : Nat) : Mods S w (w.drewN n) := (Mods.refl S w).drewN n

set_option maxRecDepth 100000 in
set_option maxHeartbeats 1000000 in
/-- fields at kind 10 and the item "0#0". -/
theorem fields_listing (B : Nat) (w : World) (hu : Usages w) (hm : ∃ m, w.cell? ⟨1, 0, none⟩ = some (.int .i64 m))
    (hs : w.cell? ⟨B, 1, none⟩ = some (.string ⟨#[48, 35, 48]⟩)) :
    Calls Tryz.prog 42 #[.int .i64 10, .slice (some ⟨B, 1, none⟩) 1 1] w fun e w' => e = .returned (nameVal 10 ⟨#[]⟩ 0 0 ⟨#[]⟩) ∧ Mods [] w w' := by
  have hlt := hu.lt
  have hBl := lt_of_cell hs
  simp only at hBl
  obtain ⟨h0, h1, h2, h3, h4, h5⟩ := hu.row 10 (by omega)
  obtain ⟨m, hm⟩ := hm
  have hml := lt_of_cell hm
  simp only at hml
  simp only [Nat.reduceMul, Nat.reduceAdd] at h0 h1 h2 h3 h4 h5
  have e1 : uOwner 10 = true := rfl
  have e2 : uNumber 10 = true := rfl
  have e3 : uIndex 10 = false := rfl
  have e4 : uText 10 = false := rfl
  have e5 : uMost 10 = 0 := rfl
  rw [e1] at h1
  rw [e2] at h2
  rw [e3] at h3
  rw [e4] at h4
  rw [e5] at h5
  generalize (⟨(uWord 10).toArray⟩ : ByteArray) = wd at h0
  clear e1 e2 e3 e4 e5
  have Hs := Lib.hid hs
  have Hm0 := Lib.hid hm
  clear hs hm hu
  go_enter Tryz.func42, Tryz.ntmps42
  go_wp2_with fail
  have F0 := FI.start (w := w) (row := #[.string wd, .bool true, .bool true, .bool false, .bool false, .int .i64 (0 : Nat)]) (k := 10) (.slice (some ⟨B, 1, none⟩) 1 1)
  have hbx := FI.box (w := w) (row := #[.string wd, .bool true, .bool true, .bool false, .bool false, .int .i64 (0 : Nat)]) (k := 10) (.slice (some ⟨B, 1, none⟩) 1 1)
  generalize hW0 : ((((w.alloc _).alloc _).alloc _).alloc _) = W0 at F0 hbx
  clear hW0
  refine (next_any w.heap.size B 1 0 0 _ W0 hbx (F0.mods.keep Hs.out) (by omega) (by omega)).mono ?_
  rintro e W1 ⟨rfl, ⟨o', hbx1, -⟩, hm1⟩
  have F1 := F0.step hm1
  have HF1 := Lib.hid F1
  clear F0 F1 hm1 hbx hbx1
  go_wp2_with fail
  refine (Tryz.strings_Cut ⟨#[48, 35, 48]⟩ ⟨#[35]⟩ m W1 (by decide) (HF1.out.mods.keep Hm0.out)).mono ?_
  rintro e W2 ⟨rfl, nd, rfl⟩
  have hcut : Lib.cut (⟨#[48, 35, 48]⟩ : ByteArray).data.toList (⟨#[35]⟩ : ByteArray).data.toList = ([48], [48], true) := by decide
  rw [hcut]
  have F2 := HF1.out.step (mods_drewN [w.heap.size] W1 nd)
  generalize W1.drewN nd = W2 at F2
  obtain ⟨⟨u1, u2, u3, u4⟩, ⟨n0, n1, n2, n3, n4⟩, ⟨g1, g2, g3, g4⟩, -, -⟩ := F2.cells
  have HF2 := Lib.hid F2
  clear hcut F2 HF1
  go_wp2_with fail
  refine (Tryz.strconv_Atoi ⟨#[48]⟩ 0 (by decide) (by decide) W2).mono ?_
  rintro e W3 ⟨rfl, t, rfl⟩
  have F3 := HF2.out.step ((mods_bytesWorld W2 5 t).weaken (T := [w.heap.size]) (by simp))
  generalize Lib.bytesWorld W2 5 t = W3 at F3
  clear u1 u2 u3 u4 n0 n1 n2 n3 n4 g1 g2 g3 g4 HF2
  obtain ⟨⟨u1, u2, u3, u4⟩, ⟨n0, n1, n2, n3, n4⟩, ⟨g1, g2, g3, g4⟩, ⟨r0, r1, r2, r3, r4⟩, ⟨q0, q1, q2, q3, q4⟩⟩ := F3.cells
  have HF3 := Lib.hid F3
  clear F3
  go_wp2
  have F4 := HF3.out.store 2 (.int .i64 0) ⟨#[]⟩ 0 0 ⟨#[]⟩ (by rfl)
  obtain ⟨⟨d0, d1, d2, d3, d4⟩, -⟩ := cells5 (set5_heap (w := W3.setCell ⟨w.heap.size + 1 + 1 + 1, 2, none⟩ (.int .i64 0)) F4.r (.int .i64 10) (.string ⟨#[]⟩) (.int .i64 0) (.int .i64 0) (.string ⟨#[]⟩))
  have hmf := mods_set5 (b := w.heap.size + 1) F4.mods (by omega) (.int .i64 10) (.string ⟨#[]⟩) (.int .i64 0) (.int .i64 0) (.string ⟨#[]⟩)
  refine bodyPost_ret (v := .agg #[.int .i64 10, .string ⟨#[]⟩, .int .i64 0, .int .i64 0, .string ⟨#[]⟩]) (by simp [results, Tryz.results42, go_sem, d0, d1, d2, d3, d4]) rfl ⟨rfl, hmf⟩

set_option maxRecDepth 100000 in
set_option maxHeartbeats 1000000 in
/-- fields at kind 3 and the items "3.1", "64". -/
theorem fields_page (B : Nat) (w : World) (hu : Usages w) (hm : ∃ m, w.cell? ⟨1, 0, none⟩ = some (.int .i64 m))
    (hs : w.cell? ⟨B, 1, none⟩ = some (.string ⟨#[51, 46, 49]⟩)) (hs2 : w.cell? ⟨B, 2, none⟩ = some (.string ⟨#[54, 52]⟩)) :
    Calls Tryz.prog 42 #[.int .i64 3, .slice (some ⟨B, 1, none⟩) 2 2] w fun e w' => e = .returned (nameVal 3 ⟨#[51, 46, 49]⟩ 0 64 ⟨#[]⟩) ∧ Mods [] w w' := by
  have hlt := hu.lt
  have hBl := lt_of_cell hs
  simp only at hBl
  obtain ⟨h0, h1, h2, h3, h4, h5⟩ := hu.row 3 (by omega)
  obtain ⟨m, hm⟩ := hm
  have hml := lt_of_cell hm
  simp only at hml
  simp only [Nat.reduceMul, Nat.reduceAdd] at h0 h1 h2 h3 h4 h5
  have e1 : uOwner 3 = true := rfl
  have e2 : uNumber 3 = false := rfl
  have e3 : uIndex 3 = true := rfl
  have e4 : uText 3 = false := rfl
  have e5 : uMost 3 = 63 := rfl
  rw [e1] at h1
  rw [e2] at h2
  rw [e3] at h3
  rw [e4] at h4
  rw [e5] at h5
  generalize (⟨(uWord 3).toArray⟩ : ByteArray) = wd at h0
  clear e1 e2 e3 e4 e5
  have Hs := Lib.hid hs
  have Hs2 := Lib.hid hs2
  have Hm0 := Lib.hid hm
  clear hs hs2 hm hu
  go_enter Tryz.func42, Tryz.ntmps42
  go_wp2_with fail
  have F0 := FI.start (w := w) (row := #[.string wd, .bool true, .bool false, .bool true, .bool false, .int .i64 (63 : Nat)]) (k := 3) (.slice (some ⟨B, 1, none⟩) 2 2)
  have hbx := FI.box (w := w) (row := #[.string wd, .bool true, .bool false, .bool true, .bool false, .int .i64 (63 : Nat)]) (k := 3) (.slice (some ⟨B, 1, none⟩) 2 2)
  generalize hW0 : ((((w.alloc _).alloc _).alloc _).alloc _) = W0 at F0 hbx
  clear hW0
  refine (next_any w.heap.size B 1 1 1 _ W0 hbx (F0.mods.keep Hs.out) (by omega) (by omega)).mono ?_
  rintro e W1 ⟨rfl, ⟨o', hbx1, ho'⟩, hm1⟩
  have ho2 := ho' (by omega)
  subst ho2
  have F1 := F0.step hm1
  have HF1 := Lib.hid F1
  have Hbx := Lib.hid hbx1
  clear F0 F1 hm1 hbx hbx1 ho'
  go_wp2_with fail
  refine (Tryz.strings_Cut ⟨#[51, 46, 49]⟩ ⟨#[35]⟩ m W1 (by decide) (HF1.out.mods.keep Hm0.out)).mono ?_
  rintro e W2 ⟨rfl, nd, rfl⟩
  have hcut : Lib.cut (⟨#[51, 46, 49]⟩ : ByteArray).data.toList (⟨#[35]⟩ : ByteArray).data.toList = ([51, 46, 49], [], false) := by decide
  rw [hcut]
  have F2 := HF1.out.step (mods_drewN [w.heap.size] W1 nd)
  have hbx2 := (mods_drewN [] W1 nd).heap Hbx.out (by simp)
  generalize W1.drewN nd = W2 at F2 hbx2
  obtain ⟨⟨u1, u2, u3, u4⟩, ⟨n0, n1, n2, n3, n4⟩, ⟨g1, g2, g3, g4⟩, -, -⟩ := F2.cells
  have HF2 := Lib.hid F2
  have Hbx2 := Lib.hid hbx2
  clear hcut F2 HF1 hbx2 Hbx
  go_wp2_with fail
  have F3 := HF2.out.store 1 (.string ⟨#[51, 46, 49]⟩) ⟨#[51, 46, 49]⟩ 0 0 ⟨#[]⟩ (by rfl)
  have hbx3 : (W2.setCell ⟨w.heap.size + 1 + 1 + 1, 1, none⟩ (.string ⟨#[51, 46, 49]⟩)).heap[w.heap.size]? = some (.cells #[.slice (some ⟨B, 2, none⟩) 1 1] 75 (0, 0)) := by rw [heap_setCell_ne (by omega)]; exact Hbx2.out
  generalize W2.setCell ⟨w.heap.size + 1 + 1 + 1, 1, none⟩ (.string ⟨#[51, 46, 49]⟩) = W3 at F3 hbx3
  refine (next_any w.heap.size B 2 0 0 _ W3 hbx3 (F3.mods.keep Hs2.out) (by omega) (by omega)).mono ?_
  rintro e W4 ⟨rfl, ⟨o', hbx1, -⟩, hm1⟩
  have F4 := F3.step hm1
  have HF4 := Lib.hid F4
  clear hbx1 hm1 F3 hbx3 F4 HF2 Hbx2 u1 u2 u3 u4 n0 n1 n2 n3 n4 g1 g2 g3 g4
  go_wp2_with fail
  refine (Tryz.strconv_Atoi ⟨#[54, 52]⟩ 64 (by decide) (by decide) W4).mono ?_
  rintro e W5 ⟨rfl, t, rfl⟩
  have F5 := HF4.out.step ((mods_bytesWorld W4 5 t).weaken (T := [w.heap.size]) (by simp))
  generalize Lib.bytesWorld W4 5 t = W5 at F5
  obtain ⟨⟨u1, u2, u3, u4⟩, ⟨n0, n1, n2, n3, n4⟩, ⟨g1, g2, g3, g4⟩, ⟨r0, r1, r2, r3, r4⟩, ⟨q0, q1, q2, q3, q4⟩⟩ := F5.cells
  have HF5 := Lib.hid F5
  clear F5 HF4
  go_wp2
  have F6 := HF5.out.store 3 (.int .i64 64) ⟨#[51, 46, 49]⟩ 0 64 ⟨#[]⟩ (by rfl)
  obtain ⟨⟨d0, d1, d2, d3, d4⟩, -⟩ := cells5 (set5_heap (w := W5.setCell ⟨w.heap.size + 1 + 1 + 1, 3, none⟩ (.int .i64 64)) F6.r (.int .i64 3) (.string ⟨#[51, 46, 49]⟩) (.int .i64 0) (.int .i64 64) (.string ⟨#[]⟩))
  have hmf := mods_set5 (b := w.heap.size + 1) F6.mods (by omega) (.int .i64 3) (.string ⟨#[51, 46, 49]⟩) (.int .i64 0) (.int .i64 64) (.string ⟨#[]⟩)
  refine bodyPost_ret (v := .agg #[.int .i64 3, .string ⟨#[51, 46, 49]⟩, .int .i64 0, .int .i64 64, .string ⟨#[]⟩]) (by simp [results, Tryz.results42, go_sem, d0, d1, d2, d3, d4]) rfl ⟨rfl, hmf⟩
end Go.Proofs.YtedlfmjgbehgkaaGreatDoor
