/- Walks of object: Encode. -/
import Derived.Test.YtedlfmjgbehgkaaGreatDoorObjW3
import Derived.Test.YtedlfmjgbehgkaaGreatDoorCodecW7
import Derived.Deep.RegionHeld3
import Derived.Deep.RegionWith
import Derived.Deep.DeepCutAuto
import Derived.Deep.CutBlock
namespace Go.Proofs.YtedlfmjgbehgkaaGreatDoor
open Go.RowKit

/-- The encoding of a name of kind k. -/
def encV (k : Nat) (o : List UInt8) (n i : Nat) (t : List UInt8) : List UInt8 :=
  encNat k ++ (if uOwner k then encText o else []) ++ (if uNumber k then encNat n else []) ++ (if uIndex k then encNat i else []) ++ (if uText k then encText t else [])

theorem cell_realloc {w : World} {o o' : Obj} {p : Addr} {v : Value} (h : (w.alloc o).cell? p = some v) (hp : p.block < w.heap.size) : (w.alloc o').cell? p = some v := by
  have e1 : (w.alloc o).cell? p = w.cell? p := World.cell?_of_block (w := w) (Below.heap_alloc w o p.block hp)
  have e2 : (w.alloc o').cell? p = w.cell? p := World.cell?_of_block (w := w) (Below.heap_alloc w o' p.block hp)
  rw [e2, ← e1]; exact h

/-- What holds between two writes of Encode. -/
def EncInv (w : World) (N U W k : Nat) (nv : Array Value) (wx : World) (acc : List UInt8) : Prop :=
  IsWriter wx W acc ∧ wx.heap[N]? = some (.cells nv 25 (0, 0)) ∧ wx.heap[U]? = some (.cells (uRow k).toArray 54 (0, 0)) ∧ Mods [] w wx
theorem mods_wkeep {w wx wy : World} {W : Nat} (h : Mods [] w wx) (hW : w.heap.size ≤ W) (hk : Keep (WKeep W) wx wy) : Mods [] w wy :=
  ⟨hk.os.trans h.os, hk.tape.trans h.tape, hk.output.trans h.output, Nat.le_trans h.size hk.size, fun i hi _ => by
    have hs : w.heap[i]? = some w.heap[i] := Array.getElem?_eq_getElem hi
    rw [hk.block i _ (h.heap hs (by simp)) ⟨by omega, .inl (by omega)⟩, hs]⟩
theorem encInv_step {w wx wy : World} {N U W k : Nat} {nv : Array Value} {acc acc' : List UInt8} (h : EncInv w N U W k nv wx acc) (hN : N ≠ W) (hU : U ≠ W) (hW : w.heap.size ≤ W) (hw : IsWriter wy W acc') (hk : Keep (WKeep W) wx wy) : EncInv w N U W k nv wy acc' := by
  obtain ⟨_, h2, h3, h4⟩ := h
  exact ⟨hw, hk.block _ _ h2 ⟨hN, .inr (by simp)⟩, hk.block _ _ h3 ⟨hU, .inr (by simp)⟩, mods_wkeep h4 hW hk⟩
theorem encInv_cells {w wx : World} {N U W k : Nat} {a b c d e : Value} {acc : List UInt8} (h : EncInv w N U W k #[a, b, c, d, e] wx acc) :
    (wx.cell? ⟨N, 0, none⟩ = some a ∧ wx.cell? ⟨N, 1, none⟩ = some b ∧ wx.cell? ⟨N, 2, none⟩ = some c ∧ wx.cell? ⟨N, 3, none⟩ = some d ∧ wx.cell? ⟨N, 4, none⟩ = some e) ∧
    (wx.cell? ⟨U, 1, none⟩ = some (.bool (uOwner k)) ∧ wx.cell? ⟨U, 2, none⟩ = some (.bool (uNumber k)) ∧ wx.cell? ⟨U, 3, none⟩ = some (.bool (uIndex k)) ∧ wx.cell? ⟨U, 4, none⟩ = some (.bool (uText k))) := by
  obtain ⟨_, h2, h3, _⟩ := h
  exact ⟨⟨cell_of_heap h2 0, cell_of_heap h2 1, cell_of_heap h2 2, cell_of_heap h2 3, cell_of_heap h2 4⟩, ⟨cell_of_heap h3 1, cell_of_heap h3 2, cell_of_heap h3 3, cell_of_heap h3 4⟩⟩

theorem writerNumber_at {w : World} {W : Nat} {l : List UInt8} (n : Int) (h0 : 0 ≤ n) (hn : n < 9223372036854775808) (h : IsWriter w W l) (hl : l.length ≤ 140737000000000) :
    Calls Tryz.prog 31 #[.pointer (some ⟨W, 0, none⟩), .int .i64 n] w fun e w' => e = .returned (.tuple #[]) ∧ IsWriter w' W (l ++ encNat n.toNat) ∧ Keep (WKeep W) w w' := by
  obtain ⟨n, rfl⟩ := Int.eq_ofNat_of_zero_le h0
  exact writerNumber_any n (by omega) h (by omega)
theorem encText_length (s : List UInt8) (h : s.length < 18446744073709551616) : (encText s).length ≤ s.length + 10 := by
  have := encNat_length_u64 s.length h
  simp [encText]; omega
theorem checkV_zero {k : Nat} {o t : List UInt8} {n i : Int} (hk1 : 1 ≤ k) (hk2 : k ≤ 20) (h : checkV ⟨k, o, n, i, t⟩ = 0) :
    (uNumber k = true → 0 ≤ n) ∧ (uNumber k = true → n < 9223372036854775808) ∧ (uIndex k = true → 0 ≤ i) ∧ (uIndex k = true → i < 9223372036854775808) := by
  rw [checkV_core hk1 hk2] at h
  unfold checkB at h
  have hm : uMost k ≤ 1073741824 := by unfold uMost; split <;> (try split) <;> omega
  split at h
  · cases h
  split at h
  · cases h
  split at h
  · cases h
  rename_i h3
  have h4 : ∀ b, uNumber k = b → ∀ c, uIndex k = c → ¬ ((b = true ∧ ¬ (0 ≤ n ∧ n ≤ 1073741824)) ∨ (c = true ∧ ¬ (0 ≤ i ∧ i ≤ uMost k))) := fun b hb c hc => by rw [← hb, ← hc]; exact h3
  refine ⟨fun hb => ?_, fun hb => ?_, fun hb => ?_, fun hb => ?_⟩
  · have := h4 _ hb _ rfl; simp only [true_and] at this; omega
  · have := h4 _ hb _ rfl; simp only [true_and] at this; omega
  · have := h4 _ rfl _ hb; simp only [true_and] at this; omega
  · have := h4 _ rfl _ hb; simp only [true_and] at this; omega

theorem two_a (w1 : World) (row : Array Value) :
    ((w1.alloc (.cells #[.slice none 0 0, .int .i64 0] 96)).alloc (.cells row 54)).drew.heap[w1.heap.size + 1]? = some (.cells row 54 (0, 0)) ∧
    IsWriter ((w1.alloc (.cells #[.slice none 0 0, .int .i64 0] 96)).alloc (.cells row 54)).drew w1.heap.size [] ∧ w1.heap.size + 1 ≠ w1.heap.size ∧ w1.heap.size ≤ w1.heap.size + 1 ∧ w1.heap.size ≤ w1.heap.size ∧
    Mods [] w1 ((w1.alloc (.cells #[.slice none 0 0, .int .i64 0] 96)).alloc (.cells row 54)).drew := by
  refine ⟨?_, ⟨_, heap_alloc_old (heap_alloc_new w1 _), World.ownsRow_nil _ _ _ _⟩, by omega, by omega, by omega, (((Mods.refl [] w1).alloc _).alloc _).drew⟩
  have := heap_alloc_new (w1.alloc (.cells #[.slice none 0 0, .int .i64 0] 96)) (.cells row 54)
  rwa [World.size_alloc] at this
theorem two_b (w1 : World) (row : Array Value) :
    ((w1.alloc (.cells row 54)).alloc (.cells #[.slice none 0 0, .int .i64 0] 96)).drew.heap[w1.heap.size]? = some (.cells row 54 (0, 0)) ∧
    IsWriter ((w1.alloc (.cells row 54)).alloc (.cells #[.slice none 0 0, .int .i64 0] 96)).drew (w1.heap.size + 1) [] ∧ w1.heap.size ≠ w1.heap.size + 1 ∧ w1.heap.size ≤ w1.heap.size ∧ w1.heap.size ≤ w1.heap.size + 1 ∧
    Mods [] w1 ((w1.alloc (.cells row 54)).alloc (.cells #[.slice none 0 0, .int .i64 0] 96)).drew := by
  refine ⟨heap_alloc_old (heap_alloc_new w1 _), ⟨_, ?_, World.ownsRow_nil _ _ _ _⟩, by omega, by omega, by omega, (((Mods.refl [] w1).alloc _).alloc _).drew⟩
  have := heap_alloc_new (w1.alloc (.cells row 54)) (.cells #[.slice none 0 0, .int .i64 0] 96)
  rwa [World.size_alloc] at this

set_option maxRecDepth 100000 in
set_option maxHeartbeats 4000000 in
theorem encode_ok (k : Nat) (o t : ByteArray) (n i : Int) (w : World) (hu : Usages w) (ho : o.size ≤ 1000000) (ht : t.size ≤ 1000000) (hk1 : 1 ≤ k) (hk2 : k ≤ 20)
    (hc : checkV ⟨k, o.data.toList, n, i, t.data.toList⟩ = 0) :
    Calls Tryz.prog 9 #[nameVal k o n i t] w fun e w' => e = .returned (.tuple #[.string ⟨(encV k o.data.toList n.toNat i.toNat t.data.toList).toArray⟩, .int .i64 0]) ∧ Mods [] w w' := by
  have hlt := hu.lt
  have hk0 : (0 : Int) ≤ (k : Int) := by omega
  have hk21 : (k : Int) < 21 := by omega
  have Hu := Lib.hid hu
  obtain ⟨hn0, hn1, hi0, hi1⟩ := checkV_zero hk1 hk2 hc
  have e1 := encNat_length_u64 k (by omega)
  have e2 := encText_length o.data.toList (by rw [slen]; omega)
  have e3 : uNumber k = true → (encNat n.toNat).length ≤ 10 := fun h => encNat_length_u64 _ (by have := hn0 h; have := hn1 h; omega)
  have e4 : uIndex k = true → (encNat i.toNat).length ≤ 10 := fun h => encNat_length_u64 _ (by have := hi0 h; have := hi1 h; omega)
  have hso := slen o
  have hL0 : ([] ++ encNat k).length ≤ 140737000000000 := by simp; omega
  have hL1 : ([] ++ encNat k ++ (if uOwner k then encText o.data.toList else [])).length ≤ 140737000000000 := by split <;> (simp; omega)
  have hL2 : ([] ++ encNat k ++ (if uOwner k then encText o.data.toList else []) ++ (if uNumber k then encNat n.toNat else [])).length ≤ 140737000000000 := by
    rw [List.length_append]
    have : (if uNumber k then encNat n.toNat else []).length ≤ 10 := by split; exact e3 ‹_›; simp
    have : ([] ++ encNat k ++ (if uOwner k then encText o.data.toList else [])).length ≤ 100000000 := by split <;> (simp; omega)
    omega
  have hL3 : ([] ++ encNat k ++ (if uOwner k then encText o.data.toList else []) ++ (if uNumber k then encNat n.toNat else []) ++ (if uIndex k then encNat i.toNat else [])).length ≤ 140737000000000 := by
    rw [List.length_append, List.length_append]
    have : (if uNumber k then encNat n.toNat else []).length ≤ 10 := by split; exact e3 ‹_›; simp
    have : (if uIndex k then encNat i.toNat else []).length ≤ 10 := by split; exact e4 ‹_›; simp
    have : ([] ++ encNat k ++ (if uOwner k then encText o.data.toList else [])).length ≤ 100000000 := by split <;> (simp; omega)
    omega
  have hL4 : ([] ++ encNat k ++ (if uOwner k then encText o.data.toList else []) ++ (if uNumber k then encNat n.toNat else []) ++ (if uIndex k then encNat i.toNat else []) ++ (if uText k then encText t.data.toList else [])).length ≤ 140737000000000 := by
    rw [List.length_append, List.length_append, List.length_append]
    have : (if uNumber k then encNat n.toNat else []).length ≤ 10 := by split; exact e3 ‹_›; simp
    have : (if uIndex k then encNat i.toNat else []).length ≤ 10 := by split; exact e4 ‹_›; simp
    have := encText_length t.data.toList (by rw [slen]; omega)
    have := slen t
    have : (if uText k then encText t.data.toList else []).length ≤ 10000000 := by split; omega; simp
    have : ([] ++ encNat k ++ (if uOwner k then encText o.data.toList else [])).length ≤ 100000000 := by split <;> (simp; omega)
    omega
  have hne : [] ++ encNat k ++ (if uOwner k then encText o.data.toList else []) ++ (if uNumber k then encNat n.toNat else []) ++ (if uIndex k then encNat i.toNat else []) ++ (if uText k then encText t.data.toList else []) ≠ [] := by
    have := encNat_length_pos k
    intro h
    simp at h
    rw [h.1] at this
    simp at this
  have HL : Hid True := trivial
  clear hu e1 e2 e3 e4 hso
  unfold nameVal
  go_enter Tryz.func9, Tryz.ntmps9
  go_wp2_with fail
  refine (check_any k o t n i _ (Hu.out.mods ((Mods.refl [] w).alloc _) (by simp)) (by omega) (by omega)).mono ?_
  rintro e w1 ⟨rfl, hm⟩
  rw [hc]
  obtain ⟨h0, h1, h2, h3, h4, h5⟩ := (Hu.out.mods ((Mods.refl [] w).alloc (.cells #[.int .i64 k, .string o, .int .i64 n, .int .i64 i, .string t] 25) |>.trans' hm) (by simp)).row k (by omega)
  have hN := hm.heap (heap_alloc_new w (.cells #[.int .i64 k, .string o, .int .i64 n, .int .i64 i, .string t] 25)) (by simp)
  have n0 := cell_of_heap hN 0
  have n1 := cell_of_heap hN 1
  have n2 := cell_of_heap hN 2
  have n3 := cell_of_heap hN 3
  have n4 := cell_of_heap hN 4
  simp only [List.getElem?_toArray, List.getElem?_cons_zero, List.getElem?_cons_succ] at n0 n1 n2 n3 n4
  have hs1 := hm.size
  rw [World.size_alloc] at hs1
  have Hm := Lib.hid hm
  have HN := Lib.hid hN
  clear hm hN
  go_upto_region 4 with fail
  go_cut [5, 6] (fun u wr wc => ∃ U W : Nat, u = .pointer (some ⟨U, 0, none⟩) ∧ wr = .pointer (some ⟨W, 0, none⟩) ∧ wc.heap[U]? = some (.cells (uRow k).toArray 54 (0, 0)) ∧ IsWriter wc W [] ∧ U ≠ W ∧ w1.heap.size ≤ U ∧ w1.heap.size ≤ W ∧ Mods [] w1 wc)
  case first =>
    have hwl : w.heap.size < w1.heap.size := by omega
    have hgl : 0 < w1.heap.size := by omega
    go_region_calls
    all_goals (go_wp2_with fail; go_meet)
    all_goals first
      | exact ⟨w1.heap.size + 1, w1.heap.size, rfl, rfl, two_a w1 _⟩
      | exact ⟨w1.heap.size, w1.heap.size + 1, rfl, rfl, two_b w1 _⟩
  case rest =>
    obtain ⟨U, W, rfl, rfl, hU, hW, hUW, hU1, hW1, hmc⟩ := hcut
    have hmw : Mods [] w wc := (((Mods.refl [] w).alloc _).trans' Hm.out).trans' hmc
    have I0 : EncInv w w.heap.size U W k #[.int .i64 k, .string o, .int .i64 n, .int .i64 i, .string t] wc [] := ⟨hW, hmc.heap HN.out (by simp), hU, hmw⟩
    obtain ⟨⟨a0, a1, a2, a3, a4⟩, ⟨b1, b2, b3, b4⟩⟩ := encInv_cells I0
    have hNW : w.heap.size ≠ W := by omega
    have hwW : w.heap.size ≤ W := by omega
    have HI0 := Lib.hid I0
    have HUW := Lib.hid hUW
    have HNW := Lib.hid hNW
    clear I0 hmw hmc hU hW h0 h1 h2 h3 h4 h5 n0 n1 n2 n3 n4 Hm HN hUW hNW
    go_wp2_with fail
    refine (writerNumber_any k (by omega) HI0.out.1 (by simp)).mono ?_
    rintro e w2 ⟨rfl, hw2, hk2⟩
    have I1 := encInv_step HI0.out HNW.out HUW.out hwW hw2 hk2
    obtain ⟨⟨a0', a1', a2', a3', a4'⟩, ⟨b1', b2', b3', b4'⟩⟩ := encInv_cells I1
    have HI1 := Lib.hid I1
    clear I1 hw2 hk2 a0 a1 a2 a3 a4 b1 b2 b3 b4
    go_upto_if 24 with fail
    go_cut [28] (fun _ wc => Hid (EncInv w w.heap.size U W k #[.int .i64 k, .string o, .int .i64 n, .int .i64 i, .string t] wc ([] ++ encNat k ++ (if uOwner k then encText o.data.toList else []))))
    case first =>
      cases hb : uOwner k with
      | true =>
        have Hb := Lib.hid hb
        clear hb
        go_wp2_with fail
        refine (writerText_any o (by omega) HI1.out.1 hL0).mono ?_
        rintro e wx ⟨rfl, hwx, hkx⟩
        have I2 := encInv_step HI1.out HNW.out HUW.out hwW hwx hkx
        have HI2 := Lib.hid I2
        clear I2 hwx hkx
        go_wp2
        go_meet
        show EncInv _ _ _ _ _ _ _ _
        rw [Hb.out]
        exact HI2.out
      | false =>
        have Hb := Lib.hid hb
        clear hb
        go_wp2
        go_meet
        show EncInv _ _ _ _ _ _ _ _
        rw [Hb.out]
        simpa using HI1.out
    case rest =>
    have HI2 := hcut
    clear hcut HI1
    obtain ⟨⟨x01, x11, x21, x31, x41⟩, ⟨y11, y21, y31, y41⟩⟩ := encInv_cells HI2.out
    go_upto_if 30 with fail
    go_cut [34] (fun _ wc => Hid (EncInv w w.heap.size U W k #[.int .i64 k, .string o, .int .i64 n, .int .i64 i, .string t] wc ([] ++ encNat k ++ (if uOwner k then encText o.data.toList else []) ++ (if uNumber k then encNat n.toNat else []))))
    case first =>
      cases hb : uNumber k with
      | true =>
        have Hb := Lib.hid hb
        clear hb
        go_wp2_with fail
        refine (writerNumber_at n (hn0 Hb.out) (hn1 Hb.out) HI2.out.1 hL1).mono ?_
        rintro e wx ⟨rfl, hwx, hkx⟩
        have I2 := encInv_step HI2.out HNW.out HUW.out hwW hwx hkx
        have HI2 := Lib.hid I2
        clear I2 hwx hkx
        go_wp2
        go_meet
        show EncInv _ _ _ _ _ _ _ _
        rw [Hb.out]
        exact HI2.out
      | false =>
        have Hb := Lib.hid hb
        clear hb
        go_wp2
        go_meet
        show EncInv _ _ _ _ _ _ _ _
        rw [Hb.out]
        simpa using HI2.out
    case rest =>
    have HI3 := hcut
    clear hcut HI2
    obtain ⟨⟨x02, x12, x22, x32, x42⟩, ⟨y12, y22, y32, y42⟩⟩ := encInv_cells HI3.out
    go_upto_if 36 with fail
    go_cut [40] (fun _ wc => Hid (EncInv w w.heap.size U W k #[.int .i64 k, .string o, .int .i64 n, .int .i64 i, .string t] wc ([] ++ encNat k ++ (if uOwner k then encText o.data.toList else []) ++ (if uNumber k then encNat n.toNat else []) ++ (if uIndex k then encNat i.toNat else []))))
    case first =>
      cases hb : uIndex k with
      | true =>
        have Hb := Lib.hid hb
        clear hb
        go_wp2_with fail
        refine (writerNumber_at i (hi0 Hb.out) (hi1 Hb.out) HI3.out.1 hL2).mono ?_
        rintro e wx ⟨rfl, hwx, hkx⟩
        have I2 := encInv_step HI3.out HNW.out HUW.out hwW hwx hkx
        have HI2 := Lib.hid I2
        clear I2 hwx hkx
        go_wp2
        go_meet
        show EncInv _ _ _ _ _ _ _ _
        rw [Hb.out]
        exact HI2.out
      | false =>
        have Hb := Lib.hid hb
        clear hb
        go_wp2
        go_meet
        show EncInv _ _ _ _ _ _ _ _
        rw [Hb.out]
        simpa using HI3.out
    case rest =>
    have HI4 := hcut
    clear hcut HI3
    obtain ⟨⟨x03, x13, x23, x33, x43⟩, ⟨y13, y23, y33, y43⟩⟩ := encInv_cells HI4.out
    go_upto_if 42 with fail
    go_cut [46] (fun _ wc => Hid (EncInv w w.heap.size U W k #[.int .i64 k, .string o, .int .i64 n, .int .i64 i, .string t] wc ([] ++ encNat k ++ (if uOwner k then encText o.data.toList else []) ++ (if uNumber k then encNat n.toNat else []) ++ (if uIndex k then encNat i.toNat else []) ++ (if uText k then encText t.data.toList else []))))
    case first =>
      cases hb : uText k with
      | true =>
        have Hb := Lib.hid hb
        clear hb
        go_wp2_with fail
        refine (writerText_any t (by omega) HI4.out.1 hL3).mono ?_
        rintro e wx ⟨rfl, hwx, hkx⟩
        have I2 := encInv_step HI4.out HNW.out HUW.out hwW hwx hkx
        have HI2 := Lib.hid I2
        clear I2 hwx hkx
        go_wp2
        go_meet
        show EncInv _ _ _ _ _ _ _ _
        rw [Hb.out]
        exact HI2.out
      | false =>
        have Hb := Lib.hid hb
        clear hb
        go_wp2
        go_meet
        show EncInv _ _ _ _ _ _ _ _
        rw [Hb.out]
        simpa using HI4.out
    case rest =>
    have HI5 := hcut
    clear hcut HI4
    obtain ⟨⟨x04, x14, x24, x34, x44⟩, ⟨y14, y24, y34, y44⟩⟩ := encInv_cells HI5.out
    obtain ⟨L, hL⟩ : ∃ L, L = [] ++ encNat k ++ (if uOwner k then encText o.data.toList else []) ++ (if uNumber k then encNat n.toNat else []) ++ (if uIndex k then encNat i.toNat else []) ++ (if uText k then encText t.data.toList else []) := ⟨_, rfl⟩
    rw [← hL] at hL4 hne HI5
    have HLe := Lib.hid hL
    clear hL
    go_wp2_with fail
    refine (writerBytes_any HI5.out.1 hne hL4).mono ?_
    rintro e wy ⟨v, g, rfl, hb, _, _, hmy⟩
    obtain ⟨p, cap, rfl, hcap, hb'⟩ := id hb
    have hrs := hb.run_string
    have Hrs := hrs
    have Hmy := Lib.hid (HI5.out.2.2.2.trans' hmy)
    clear hb hb' hmy
    go_wp2
    go_ret2
    exact ⟨by rw [HLe.out]; simp [encV], Hmy.out⟩
end Go.Proofs.YtedlfmjgbehgkaaGreatDoor
