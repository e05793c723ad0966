/- Walks of object: Decode (printed by gen_objw5.py). -/
import Derived.Test.YtedlfmjgbehgkaaGreatDoorObjW4
namespace Go.Proofs.YtedlfmjgbehgkaaGreatDoor
open Go.RowKit

theorem encode_err (k : Int) (o t : ByteArray) (n i : Int) (w : World) (hu : Usages w) (ho : o.size ≤ 1000000) (ht : t.size ≤ 1000000)
    (hc : checkV ⟨k, o.data.toList, n, i, t.data.toList⟩ ≠ 0) :
    Calls Tryz.prog 9 #[nameVal k o n i t] w fun e w' => e = .returned (.tuple #[.string ⟨#[]⟩, .int .i64 (checkV ⟨k, o.data.toList, n, i, t.data.toList⟩)]) ∧ Mods [] w w' := by
  have hlt := hu.lt
  have Hu := Lib.hid hu
  obtain ⟨c, hcc⟩ : ∃ c, checkV ⟨k, o.data.toList, n, i, t.data.toList⟩ = c := ⟨_, rfl⟩
  have b1 : (c == 0) = false := by rw [← hcc]; simpa using hc
  have b2 : (c != 0) = true := by rw [← hcc]; simpa using hc
  have Hc := Lib.hid hcc
  rw [hcc]
  clear hu hc hcc
  unfold nameVal
  go_enter Tryz.func9, Tryz.ntmps9
  go_wp2_with fail
  refine (check_any k o t n i _ (Hu.out.mods ((Mods.refl [] w).alloc _) (by simp)) (by omega) (by omega)).mono ?_
  rintro e w1 ⟨rfl, hm⟩
  rw [Hc.out]
  have Hm := Lib.hid hm
  clear hm
  go_wp2
  go_ret2
  exact ⟨rfl, ((Mods.refl [] w).alloc _).trans' Hm.out⟩

/-- What Decode reads, field by field: the value and the reader's state behind it. -/
def dk (s : List UInt8) : Nat × RS := rstep 0 (pNum 20) ⟨s, 0⟩
def dOwner (k : Nat) (st : RS) : List UInt8 × RS := if uOwner k then rstep [] (pText 16777216) st else ([], st)
def dNumber (k : Nat) (st : RS) : Nat × RS := if uNumber k then rstep 0 (pNum 1073741824) st else (0, st)
def dIndex (k : Nat) (st : RS) : Nat × RS := if uIndex k then rstep 0 (pNum (uMost k)) st else (0, st)
def dText (k : Nat) (st : RS) : List UInt8 × RS := if uText k then rstep [] (pText 32) st else ([], st)

theorem pText_len (most : Int) (b : List UInt8) : (pText most b).1.length ≤ b.length := by
  unfold pText
  split
  · simp
  split
  · simp
  split
  · simp
  · simp only [List.length_take, List.length_drop]; omega
theorem rstep_rest {α : Type} (z : α) (p : List UInt8 → α × Nat × Int) (s : RS) : (rstep z p s).2.rest.length ≤ s.rest.length := by
  unfold rstep
  split
  · simp
  split
  · simp
  · simp
theorem rstep_text_len (most : Int) (s : RS) : (rstep [] (pText most) s).1.length ≤ s.rest.length := by
  unfold rstep
  split
  · simp
  split
  · simp
  · exact pText_len most s.rest
theorem dk_le (s : List UInt8) : (dk s).1 ≤ 20 := by
  unfold dk rstep
  split
  · simp
  split
  · simp
  · rename_i h1 h2
    simp only [ne_eq, Decidable.not_not] at h2
    simp only []
    unfold pNum at h2 ⊢
    split
    · rw [if_pos ‹_›] at h2; simp at h2
    · rename_i h3
      rw [if_neg h3] at h2
      have : ¬ ((20 : Int) < ((parse9 s).1 : Int)) := fun h => h3 ⟨h2, h⟩
      omega

/-- What holds between two reads of Decode. -/
def DecInv (w : World) (N U R B k : Nat) (wx : World) (st : RS) (o : List UInt8) (n i : Nat) (t : List UInt8) : Prop :=
  IsReader wx R B st ∧ wx.heap[N]? = some (.cells #[.int .i64 k, .string ⟨o.toArray⟩, .int .i64 n, .int .i64 i, .string ⟨t.toArray⟩] 25 (0, 0)) ∧ wx.heap[U]? = some (.cells (uRow k).toArray 54 (0, 0)) ∧
  wx.heap[w.heap.size]? = some (.cells #[.int .i64 0, .string ⟨#[]⟩, .int .i64 0, .int .i64 0, .string ⟨#[]⟩] 25 (0, 0)) ∧ Mods [] w wx
theorem decInv_cells {w wx : World} {N U R B k : Nat} {st : RS} {o t : List UInt8} {n i : Nat} (h : DecInv w N U R B k wx st o n i t) :
    (wx.cell? ⟨N, 0, none⟩ = some (.int .i64 k) ∧ wx.cell? ⟨N, 1, none⟩ = some (.string ⟨o.toArray⟩) ∧ wx.cell? ⟨N, 2, none⟩ = some (.int .i64 n) ∧ wx.cell? ⟨N, 3, none⟩ = some (.int .i64 i) ∧ wx.cell? ⟨N, 4, none⟩ = some (.string ⟨t.toArray⟩)) ∧
    (wx.cell? ⟨U, 1, none⟩ = some (.bool (uOwner k)) ∧ wx.cell? ⟨U, 2, none⟩ = some (.bool (uNumber k)) ∧ wx.cell? ⟨U, 3, none⟩ = some (.bool (uIndex k)) ∧ wx.cell? ⟨U, 4, none⟩ = some (.bool (uText k)) ∧ wx.cell? ⟨U, 5, none⟩ = some (.int .i64 (uMost k))) ∧
    (∀ j, wx.frozen? ⟨N, j, none⟩ = false) := by
  obtain ⟨_, h2, h3, _⟩ := h
  exact ⟨⟨cell_of_heap h2 0, cell_of_heap h2 1, cell_of_heap h2 2, cell_of_heap h2 3, cell_of_heap h2 4⟩, ⟨cell_of_heap h3 1, cell_of_heap h3 2, cell_of_heap h3 3, cell_of_heap h3 4, cell_of_heap h3 5⟩, fun j => frozen_of_heap h2 j⟩
/-- Behind a read, before the store. -/
theorem decInv_read {w wx wy : World} {N U R B k : Nat} {st st' : RS} {o t : List UInt8} {n i : Nat} (h : DecInv w N U R B k wx st o n i t) (hN : N ≠ R) (hU : U ≠ R) (hW : w.heap.size < R) (hr : IsReader wy R B st') (hm : Mods [R] wx wy) : DecInv w N U R B k wy st' o n i t := by
  obtain ⟨_, h2, h3, h4, h5⟩ := h
  exact ⟨hr, hm.heap h2 (by simpa using hN), hm.heap h3 (by simpa using hU), hm.heap h4 (by simp; omega), h5.trans hm (fun j hj => by simp at hj; omega)⟩
theorem decInv_store {w wx : World} {N U R B k : Nat} {st : RS} {o t : List UInt8} {n i : Nat} (h : DecInv w N U R B k wx st o n i t) (hN : N ≠ R) (hB : N ≠ B) (hU : U ≠ N) (hW : w.heap.size < N) (j : Nat) (v : Value) (o' : List UInt8) (n' i' : Nat) (t' : List UInt8)
    (hv : (#[.int .i64 k, .string ⟨o.toArray⟩, .int .i64 n, .int .i64 i, .string ⟨t.toArray⟩] : Array Value).setIfInBounds j v = #[.int .i64 k, .string ⟨o'.toArray⟩, .int .i64 n', .int .i64 i', .string ⟨t'.toArray⟩]) :
    DecInv w N U R B k (wx.setCell ⟨N, j, none⟩ v) st o' n' i' t' := by
  obtain ⟨h1, h2, h3, h4, h5⟩ := h
  have hm : Mods [N] wx (wx.setCell ⟨N, j, none⟩ v) := (Mods.refl [N] wx).setCell (.inl (by simp)) _
  refine ⟨h1.mods hm (by simpa using fun e => hN e.symm) (by simpa using fun e => hB e.symm), ?_, hm.heap h3 (by simpa using hU), hm.heap h4 (by simp; omega), h5.trans hm (fun j hj => by simp at hj; omega)⟩
  rw [heap_setCell_same h2, hv]

/-- What Decode answers: a name of kind k with the fields, or ErrFormat. -/
def decRes (s : List UInt8) : Option (Nat × List UInt8 × Nat × Nat × List UInt8) :=
  let (k, s1) := dk s
  let (o, s2) := dOwner k s1
  let (n, s3) := dNumber k s2
  let (i, s4) := dIndex k s3
  let (t, s5) := dText k s4
  if rclose s5 = 0 ∧ checkV ⟨k, o, n, i, t⟩ = 0 then some (k, o, n, i, t) else none
def decVal : Option (Nat × List UInt8 × Nat × Nat × List UInt8) → Value
  | some (k, o, n, i, t) => .tuple #[nameVal k ⟨o.toArray⟩ n i ⟨t.toArray⟩, .int .i64 0]
  | none => .tuple #[nameVal 0 ⟨#[]⟩ 0 0 ⟨#[]⟩, .int .i64 3]

set_option maxRecDepth 100000 in
set_option maxHeartbeats 4000000 in
theorem decode_any (s : ByteArray) (w : World) (hs : s.size ≤ 1000000) (hu : Usages w) :
    Calls Tryz.prog 6 #[.string s] w fun e w' => e = .returned (decVal (decRes s.data.toList)) ∧ Mods [] w w' := by
  have hlt := hu.lt
  have Hu := Lib.hid hu
  clear hu
  have kc := fun W => run_bytes W s
  obtain ⟨k, hk⟩ : ∃ k, (dk s.data.toList).1 = k := ⟨_, rfl⟩
  obtain ⟨s1, hs1⟩ : ∃ s1, (dk s.data.toList).2 = s1 := ⟨_, rfl⟩
  have hk20 : k ≤ 20 := by rw [← hk]; exact dk_le _
  have hl1 : s1.rest.length ≤ 1000000 := by rw [← hs1]; have := rstep_rest 0 (pNum 20) ⟨s.data.toList, 0⟩; have := slen s; unfold dk; simp at *; omega
  have Hk := Lib.hid hk
  have Hs1 := Lib.hid hs1
  clear hk hs1
  go_enter Tryz.func6, Tryz.ntmps6
  go_wp2_with fail
  have hb1 := bwOf_bytes (w.alloc (.cells #[.int .i64 0, .string ⟨#[]⟩, .int .i64 0, .int .i64 0, .string ⟨#[]⟩] 25)) s
  have hmb := bwOf_mods (w.alloc (.cells #[.int .i64 0, .string ⟨#[]⟩, .int .i64 0, .int .i64 0, .string ⟨#[]⟩] 25)) s
  have hz := bwOf_size (w.alloc (.cells #[.int .i64 0, .string ⟨#[]⟩, .int .i64 0, .int .i64 0, .string ⟨#[]⟩] 25)) s
  refine (newReader_any hb1 (by rw [slen]; omega)).mono ?_
  rintro e w1 ⟨R, B, rfl, hr, hg, hgR, hR, hm⟩
  have hm0 : Mods [] w w1 := (((Mods.refl [] w).alloc _).trans' hmb).trans' hm
  have hw0 : w1.heap[w.heap.size]? = some (.cells #[.int .i64 0, .string ⟨#[]⟩, .int .i64 0, .int .i64 0, .string ⟨#[]⟩] 25 (0, 0)) := hm.heap (hmb.heap (heap_alloc_new w _) (by simp)) (by simp)
  rw [hz, World.size_alloc] at hg
  have Hr := Lib.hid hr
  have Hm0 := Lib.hid hm0
  have Hw0 := Lib.hid hw0
  clear hb1 hmb hz hr hm hm0 hw0 kc
  go_wp2_with fail
  refine (readerNumber_any 20 Hr.out).mono ?_
  rintro e w2 ⟨rfl, hr2, hm2⟩
  have hk2 : (rstep 0 (pNum 20) ⟨s.data.toList, 0⟩).1 = k := Hk.out
  have hs2 : (rstep 0 (pNum 20) ⟨s.data.toList, 0⟩).2 = s1 := Hs1.out
  rw [hk2]
  rw [hs2] at hr2
  have hU2 : Usages w2 := (Hu.out.mods Hm0.out (by simp)).mods hm2 (by simp; omega)
  obtain ⟨h0, h1, h2, h3, h4, h5⟩ := hU2.row k (by omega)
  have hsz2 := hm2.size
  have hm02 : Mods [] w w2 := Hm0.out.trans hm2 (fun j hj => by simp at hj; omega)
  have hw2 := hm2.heap Hw0.out (by simp; omega)
  have Hr2 := Lib.hid hr2
  have Hm02 := Lib.hid hm02
  have Hw2 := Lib.hid hw2
  have hgl2 : 0 < w2.heap.size := hU2.lt
  have hki : (0 : Int) ≤ (k : Int) := by omega
  have hki2 : (k : Int) < 21 := by omega
  clear hr2 hm2 hm02 hw2 hU2 hk2 hs2
  go_upto_if 18 with fail
  have hI1 : DecInv w w2.heap.size (w2.heap.size + 1) R B k ((w2.alloc (.cells #[.int .i64 k, .string ⟨#[]⟩, .int .i64 0, .int .i64 0, .string ⟨#[]⟩] 25)).alloc (.cells (uRow k).toArray 54)) s1 [] 0 0 [] := by
    have hma : Mods [] w2 ((w2.alloc (.cells #[.int .i64 k, .string ⟨#[]⟩, .int .i64 0, .int .i64 0, .string ⟨#[]⟩] 25)).alloc (.cells (uRow k).toArray 54)) := ((Mods.refl [] w2).alloc _).alloc _
    refine ⟨Hr2.out.mods hma (by simp) (by simp), heap_alloc_old (heap_alloc_new w2 _), ?_, heap_alloc_old (heap_alloc_old Hw2.out), Hm02.out.trans' hma⟩
    have := heap_alloc_new (w2.alloc (.cells #[.int .i64 k, .string ⟨#[]⟩, .int .i64 0, .int .i64 0, .string ⟨#[]⟩] 25)) (.cells (uRow k).toArray 54)
    rwa [World.size_alloc] at this
  obtain ⟨N, hN⟩ : ∃ N, N = w2.heap.size := ⟨_, rfl⟩
  obtain ⟨U, hU⟩ : ∃ U, U = w2.heap.size + 1 := ⟨_, rfl⟩
  have hNR : N ≠ R := by omega
  have hNB : N ≠ B := by omega
  have hUN : U ≠ N := by omega
  have hUR : U ≠ R := by omega
  have hwN : w.heap.size < N := by omega
  have hwR : w.heap.size < R := by omega
  rw [← hU, ← hN] at hI1
  obtain ⟨w3, hw3⟩ : ∃ w3, (w2.alloc (.cells #[.int .i64 k, .string ⟨#[]⟩, .int .i64 0, .int .i64 0, .string ⟨#[]⟩] 25)).alloc (.cells #[.string ⟨(uWord k).toArray⟩, .bool (uOwner k), .bool (uNumber k), .bool (uIndex k), .bool (uText k), .int .i64 (uMost k)] 54) = w3 := ⟨_, rfl⟩
  have hI1 : DecInv w N U R B k w3 s1 [] 0 0 [] := by rw [← hw3]; exact hI1
  rw [← hU, ← hN, hw3]
  have HI1 := Lib.hid hI1
  clear hw3 hN hU
  clear hI1 h0 h1 h2 h3 h4 h5
  obtain ⟨⟨x00, x10, x20, x30, x40⟩, ⟨y10, y20, y30, y40, y50⟩, fr0⟩ := decInv_cells HI1.out
  obtain ⟨o, ho⟩ : ∃ o, (dOwner k s1).1 = o := ⟨_, rfl⟩
  obtain ⟨s2, hs2⟩ : ∃ s2, (dOwner k s1).2 = s2 := ⟨_, rfl⟩
  have hl2 : s2.rest.length ≤ 1000000 := by
    rw [← hs2]; unfold dOwner; split
    · exact Nat.le_trans (rstep_rest _ _ _) hl1
    · exact hl1
  have hlo : o.length ≤ 1000000 := by
    rw [← ho]; unfold dOwner; split
    · exact Nat.le_trans (rstep_text_len _ _) hl1
    · simp
  have Ho := Lib.hid ho
  have Hs2 := Lib.hid hs2
  clear ho hs2
  go_upto_if 18 with fail
  go_cut [21] (fun _ wc => Hid (DecInv w N U R B k wc s2 o 0 0 []))
  case first =>
    cases hb : uOwner k with
    | true =>
      have e1 : (rstep [] (pText 16777216) s1).1 = o := by rw [← Ho.out]; unfold dOwner; rw [if_pos hb]
      have e2 : (rstep [] (pText 16777216) s1).2 = s2 := by rw [← Hs2.out]; unfold dOwner; rw [if_pos hb]
      have E1 := Lib.hid e1
      have E2 := Lib.hid e2
      clear hb e1 e2
      go_wp2_with fail
      refine (readerText_any 16777216 HI1.out.1).mono ?_
      rw [E1.out, E2.out]
      rintro e wx ⟨rfl, hrx, hmx⟩
      have I2 := decInv_read HI1.out hNR hUR hwR hrx hmx
      obtain ⟨⟨z0, z1, z2, z3, z4⟩, _, frz⟩ := decInv_cells I2
      have frj := frz 1
      clear frz
      have HI2 := Lib.hid I2
      clear I2 hrx hmx
      go_wp2
      go_meet
      exact decInv_store HI2.out hNR hNB hUN hwN 1 _ o 0 0 [] rfl
    | false =>
      have e1 : o = [] := by rw [← Ho.out]; unfold dOwner; rw [if_neg (by rw [hb]; simp)]
      have e2 : s2 = s1 := by rw [← Hs2.out]; unfold dOwner; rw [if_neg (by rw [hb]; simp)]
      have E1 := Lib.hid e1
      have E2 := Lib.hid e2
      clear hb e1 e2
      go_wp2
      go_meet
      show DecInv _ _ _ _ _ _ _ _ _ _ _ _
      rw [E1.out, E2.out]
      exact HI1.out
  case rest =>
  have HI2 := hcut
  clear hcut HI1
  obtain ⟨⟨x01, x11, x21, x31, x41⟩, ⟨y11, y21, y31, y41, y51⟩, fr1⟩ := decInv_cells HI2.out
  obtain ⟨n, hn⟩ : ∃ n, (dNumber k s2).1 = n := ⟨_, rfl⟩
  obtain ⟨s3, hs3⟩ : ∃ s3, (dNumber k s2).2 = s3 := ⟨_, rfl⟩
  have hl3 : s3.rest.length ≤ 1000000 := by
    rw [← hs3]; unfold dNumber; split
    · exact Nat.le_trans (rstep_rest _ _ _) hl2
    · exact hl2
  have Hn := Lib.hid hn
  have Hs3 := Lib.hid hs3
  clear hn hs3
  go_upto_if 23 with fail
  go_cut [26] (fun _ wc => Hid (DecInv w N U R B k wc s3 o n 0 []))
  case first =>
    cases hb : uNumber k with
    | true =>
      have e1 : (rstep 0 (pNum 1073741824) s2).1 = n := by rw [← Hn.out]; unfold dNumber; rw [if_pos hb]
      have e2 : (rstep 0 (pNum 1073741824) s2).2 = s3 := by rw [← Hs3.out]; unfold dNumber; rw [if_pos hb]
      have E1 := Lib.hid e1
      have E2 := Lib.hid e2
      clear hb e1 e2
      go_wp2_with fail
      refine (readerNumber_any 1073741824 HI2.out.1).mono ?_
      rw [E1.out, E2.out]
      rintro e wx ⟨rfl, hrx, hmx⟩
      have I2 := decInv_read HI2.out hNR hUR hwR hrx hmx
      obtain ⟨⟨z0, z1, z2, z3, z4⟩, _, frz⟩ := decInv_cells I2
      have frj := frz 2
      clear frz
      have HI2 := Lib.hid I2
      clear I2 hrx hmx
      go_wp2
      go_meet
      exact decInv_store HI2.out hNR hNB hUN hwN 2 _ o n 0 [] rfl
    | false =>
      have e1 : n = 0 := by rw [← Hn.out]; unfold dNumber; rw [if_neg (by rw [hb]; simp)]
      have e2 : s3 = s2 := by rw [← Hs3.out]; unfold dNumber; rw [if_neg (by rw [hb]; simp)]
      have E1 := Lib.hid e1
      have E2 := Lib.hid e2
      clear hb e1 e2
      go_wp2
      go_meet
      show DecInv _ _ _ _ _ _ _ _ _ _ _ _
      rw [E1.out, E2.out]
      exact HI2.out
  case rest =>
  have HI3 := hcut
  clear hcut HI2
  obtain ⟨⟨x02, x12, x22, x32, x42⟩, ⟨y12, y22, y32, y42, y52⟩, fr2⟩ := decInv_cells HI3.out
  obtain ⟨i, hi⟩ : ∃ i, (dIndex k s3).1 = i := ⟨_, rfl⟩
  obtain ⟨s4, hs4⟩ : ∃ s4, (dIndex k s3).2 = s4 := ⟨_, rfl⟩
  have hl4 : s4.rest.length ≤ 1000000 := by
    rw [← hs4]; unfold dIndex; split
    · exact Nat.le_trans (rstep_rest _ _ _) hl3
    · exact hl3
  have Hi := Lib.hid hi
  have Hs4 := Lib.hid hs4
  clear hi hs4
  go_upto_if 28 with fail
  go_cut [33] (fun _ wc => Hid (DecInv w N U R B k wc s4 o n i []))
  case first =>
    cases hb : uIndex k with
    | true =>
      have e1 : (rstep 0 (pNum (uMost k)) s3).1 = i := by rw [← Hi.out]; unfold dIndex; rw [if_pos hb]
      have e2 : (rstep 0 (pNum (uMost k)) s3).2 = s4 := by rw [← Hs4.out]; unfold dIndex; rw [if_pos hb]
      have E1 := Lib.hid e1
      have E2 := Lib.hid e2
      clear hb e1 e2
      go_wp2_with fail
      refine (readerNumber_any (uMost k) HI3.out.1).mono ?_
      rw [E1.out, E2.out]
      rintro e wx ⟨rfl, hrx, hmx⟩
      have I2 := decInv_read HI3.out hNR hUR hwR hrx hmx
      obtain ⟨⟨z0, z1, z2, z3, z4⟩, _, frz⟩ := decInv_cells I2
      have frj := frz 3
      clear frz
      have HI2 := Lib.hid I2
      clear I2 hrx hmx
      go_wp2
      go_meet
      exact decInv_store HI2.out hNR hNB hUN hwN 3 _ o n i [] rfl
    | false =>
      have e1 : i = 0 := by rw [← Hi.out]; unfold dIndex; rw [if_neg (by rw [hb]; simp)]
      have e2 : s4 = s3 := by rw [← Hs4.out]; unfold dIndex; rw [if_neg (by rw [hb]; simp)]
      have E1 := Lib.hid e1
      have E2 := Lib.hid e2
      clear hb e1 e2
      go_wp2
      go_meet
      show DecInv _ _ _ _ _ _ _ _ _ _ _ _
      rw [E1.out, E2.out]
      exact HI3.out
  case rest =>
  have HI4 := hcut
  clear hcut HI3
  obtain ⟨⟨x03, x13, x23, x33, x43⟩, ⟨y13, y23, y33, y43, y53⟩, fr3⟩ := decInv_cells HI4.out
  obtain ⟨t, ht⟩ : ∃ t, (dText k s4).1 = t := ⟨_, rfl⟩
  obtain ⟨s5, hs5⟩ : ∃ s5, (dText k s4).2 = s5 := ⟨_, rfl⟩
  have hl5 : s5.rest.length ≤ 1000000 := by
    rw [← hs5]; unfold dText; split
    · exact Nat.le_trans (rstep_rest _ _ _) hl4
    · exact hl4
  have hlt' : t.length ≤ 1000000 := by
    rw [← ht]; unfold dText; split
    · exact Nat.le_trans (rstep_text_len _ _) hl4
    · simp
  have Ht := Lib.hid ht
  have Hs5 := Lib.hid hs5
  clear ht hs5
  go_upto_if 35 with fail
  go_cut [38] (fun _ wc => Hid (DecInv w N U R B k wc s5 o n i t))
  case first =>
    cases hb : uText k with
    | true =>
      have e1 : (rstep [] (pText 32) s4).1 = t := by rw [← Ht.out]; unfold dText; rw [if_pos hb]
      have e2 : (rstep [] (pText 32) s4).2 = s5 := by rw [← Hs5.out]; unfold dText; rw [if_pos hb]
      have E1 := Lib.hid e1
      have E2 := Lib.hid e2
      clear hb e1 e2
      go_wp2_with fail
      refine (readerText_any 32 HI4.out.1).mono ?_
      rw [E1.out, E2.out]
      rintro e wx ⟨rfl, hrx, hmx⟩
      have I2 := decInv_read HI4.out hNR hUR hwR hrx hmx
      obtain ⟨⟨z0, z1, z2, z3, z4⟩, _, frz⟩ := decInv_cells I2
      have frj := frz 4
      clear frz
      have HI2 := Lib.hid I2
      clear I2 hrx hmx
      go_wp2
      go_meet
      exact decInv_store HI2.out hNR hNB hUN hwN 4 _ o n i t rfl
    | false =>
      have e1 : t = [] := by rw [← Ht.out]; unfold dText; rw [if_neg (by rw [hb]; simp)]
      have e2 : s5 = s4 := by rw [← Hs5.out]; unfold dText; rw [if_neg (by rw [hb]; simp)]
      have E1 := Lib.hid e1
      have E2 := Lib.hid e2
      clear hb e1 e2
      go_wp2
      go_meet
      show DecInv _ _ _ _ _ _ _ _ _ _ _ _
      rw [E1.out, E2.out]
      exact HI4.out
  case rest =>
  have HI5 := hcut
  clear hcut HI4
  obtain ⟨⟨x04, x14, x24, x34, x44⟩, ⟨y14, y24, y34, y44, y54⟩, fr4⟩ := decInv_cells HI5.out
  have hdr : decRes s.data.toList = if rclose s5 = 0 ∧ checkV ⟨k, o, n, i, t⟩ = 0 then some (k, o, n, i, t) else none := by
    unfold decRes
    simp only [Hk.out, Hs1.out, Ho.out, Hs2.out, Hn.out, Hs3.out, Hi.out, Hs4.out, Ht.out, Hs5.out]
  have hU5 : Usages _ := Hu.out.mods HI5.out.2.2.2.2 (by simp)
  have hw5 := HI5.out.2.2.2.1
  have r0 := cell_of_heap hw5 0
  have r1 := cell_of_heap hw5 1
  have r2 := cell_of_heap hw5 2
  have r3 := cell_of_heap hw5 3
  have r4 := cell_of_heap hw5 4
  have q0 := frozen_of_heap hw5 0
  have q1 := frozen_of_heap hw5 1
  have q2 := frozen_of_heap hw5 2
  have q3 := frozen_of_heap hw5 3
  have q4 := frozen_of_heap hw5 4
  simp only [List.getElem?_toArray, List.getElem?_cons_zero, List.getElem?_cons_succ] at r0 r1 r2 r3 r4
  have Hdr := Lib.hid hdr
  have HU5 := Lib.hid hU5
  have Hw5 := Lib.hid hw5
  clear hdr hU5 hw5
  go_wp2_with fail
  refine (readerClose_any HI5.out.1).mono ?_
  rintro e w6 ⟨rfl, rfl⟩
  by_cases hcl : rclose s5 = 0
  · have b1 : (rclose s5 == 0) = true := by simpa using hcl
    have b2 : (rclose s5 != 0) = false := by simpa using hcl
    have Hcl := Lib.hid hcl
    clear hcl
    go_wp2_with fail
    refine (check_any k ⟨o.toArray⟩ ⟨t.toArray⟩ n i _ HU5.out (by show o.toArray.size ≤ _; simp; omega) (by show t.toArray.size ≤ _; simp; omega)).mono ?_
    rintro e w7 ⟨rfl, hm7⟩
    have hc7 : checkV ⟨k, (⟨o.toArray⟩ : ByteArray).data.toList, n, i, (⟨t.toArray⟩ : ByteArray).data.toList⟩ = checkV ⟨k, o, n, i, t⟩ := rfl
    rw [hc7]
    have hI7 : DecInv w N U R B k w7 s5 o n i t := by
      obtain ⟨p1, p2, p3, p4, p5⟩ := HI5.out
      exact ⟨p1.mods hm7 (by simp) (by simp), hm7.heap p2 (by simp), hm7.heap p3 (by simp), hm7.heap p4 (by simp), p5.trans' hm7⟩
    obtain ⟨⟨z0, z1, z2, z3, z4⟩, _, _⟩ := decInv_cells hI7
    have hw7 := hI7.2.2.2.1
    have a0 := cell_of_heap hw7 0
    have a1 := cell_of_heap hw7 1
    have a2 := cell_of_heap hw7 2
    have a3 := cell_of_heap hw7 3
    have a4 := cell_of_heap hw7 4
    have c0 := frozen_of_heap hw7 0
    have c1 := frozen_of_heap hw7 1
    have c2 := frozen_of_heap hw7 2
    have c3 := frozen_of_heap hw7 3
    have c4 := frozen_of_heap hw7 4
    simp only [List.getElem?_toArray, List.getElem?_cons_zero, List.getElem?_cons_succ] at a0 a1 a2 a3 a4
    have Hm7 := Lib.hid hI7.2.2.2.2
    clear hm7 hc7 hI7 hw7 r0 r1 r2 r3 r4 q0 q1 q2 q3 q4
    by_cases hck : checkV ⟨k, o, n, i, t⟩ = 0
    · have b3 : (checkV ⟨k, o, n, i, t⟩ == 0) = true := by simpa using hck
      have b4 : (checkV ⟨k, o, n, i, t⟩ != 0) = false := by simpa using hck
      have Hv : Hid (decVal (decRes s.data.toList) = .tuple #[nameVal k ⟨o.toArray⟩ n i ⟨t.toArray⟩, .int .i64 0]) := by
        show _ = _
        rw [Hdr.out, if_pos ⟨Hcl.out, hck⟩]; rfl
      clear hck
      go_wp2
      refine bodyPost_ret (v := .tuple #[.agg #[.int .i64 k, .string ⟨o.toArray⟩, .int .i64 n, .int .i64 i, .string ⟨t.toArray⟩], .int .i64 0]) (by simp [results, Tryz.results6, go_sem, a0, a1, a2, a3, a4]) rfl ⟨by rw [Hv.out]; rfl, ?_⟩
      exact ((((Hm7.out.setCell (.inr (by simp)) _).setCell (.inr (by simp)) _).setCell (.inr (by simp)) _).setCell (.inr (by simp)) _).setCell (.inr (by simp)) _
    · have b3 : (checkV ⟨k, o, n, i, t⟩ == 0) = false := by simpa using hck
      have b4 : (checkV ⟨k, o, n, i, t⟩ != 0) = true := by simpa using hck
      have Hv : Hid (decVal (decRes s.data.toList) = .tuple #[nameVal 0 ⟨#[]⟩ 0 0 ⟨#[]⟩, .int .i64 3]) := by
        show _ = _
        rw [Hdr.out, if_neg (fun h => hck h.2)]; rfl
      clear hck
      go_wp2
      refine bodyPost_ret (v := .tuple #[.agg #[.int .i64 0, .string ⟨#[]⟩, .int .i64 0, .int .i64 0, .string ⟨#[]⟩], .int .i64 3]) (by simp [results, Tryz.results6, go_sem, a0, a1, a2, a3, a4]) rfl ⟨by rw [Hv.out]; rfl, ?_⟩
      exact ((((Hm7.out.setCell (.inr (by simp)) _).setCell (.inr (by simp)) _).setCell (.inr (by simp)) _).setCell (.inr (by simp)) _).setCell (.inr (by simp)) _
  · have b1 : (rclose s5 == 0) = false := by simpa using hcl
    have b2 : (rclose s5 != 0) = true := by simpa using hcl
    have Hv : Hid (decVal (decRes s.data.toList) = .tuple #[nameVal 0 ⟨#[]⟩ 0 0 ⟨#[]⟩, .int .i64 3]) := by
      show _ = _
      rw [Hdr.out, if_neg (fun h => hcl h.1)]; rfl
    have Hm5 := Lib.hid HI5.out.2.2.2.2
    clear hcl
    go_wp2
    refine bodyPost_ret (v := .tuple #[.agg #[.int .i64 0, .string ⟨#[]⟩, .int .i64 0, .int .i64 0, .string ⟨#[]⟩], .int .i64 3]) (by simp [results, Tryz.results6, go_sem, r0, r1, r2, r3, r4]) rfl ⟨by rw [Hv.out]; rfl, ?_⟩
    exact ((((Hm5.out.setCell (.inr (by simp)) _).setCell (.inr (by simp)) _).setCell (.inr (by simp)) _).setCell (.inr (by simp)) _).setCell (.inr (by simp)) _
end Go.Proofs.YtedlfmjgbehgkaaGreatDoor
