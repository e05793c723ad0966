/- Walks of the reference of layer 4: Decode (printed by gen_refw8.py). -/
import Derived.Test.YtedlfmjgbehgkaaGreatDoorRefW7
import Derived.Test.YtedlfmjgbehgkaaGreatDoorKnW1
namespace Go.Proofs.YtedlfmjgbehgkaaGreatDoor
open Go.RowKit

def gOwner (k : Int) (s : List UInt8) : List UInt8 × List UInt8 := if uOwner k.toNat then rPiece s else ([], s)
def gNumber (k : Int) (s : List UInt8) : Int × List UInt8 := if uNumber k.toNat then rTake s else (0, s)
def gIndex (k : Int) (s : List UInt8) : Int × List UInt8 := if uIndex k.toNat then rTake s else (0, s)
def gText (k : Int) (s : List UInt8) : List UInt8 × List UInt8 := if uText k.toNat then rPiece s else ([], s)
theorem rPiece_len (s : List UInt8) : (rPiece s).1.length ≤ s.length ∧ (rPiece s).2.length ≤ s.length := by
  have := rTake_len s
  unfold rPiece
  split
  · simp
  · simp; omega
theorem gOwner_len (k : Int) (s : List UInt8) : (gOwner k s).1.length ≤ s.length ∧ (gOwner k s).2.length ≤ s.length := by
  unfold gOwner; split
  · exact rPiece_len s
  · simp
theorem gNumber_len (k : Int) (s : List UInt8) : (gNumber k s).2.length ≤ s.length := by
  unfold gNumber; split
  · exact rTake_len s
  · simp
theorem gIndex_len (k : Int) (s : List UInt8) : (gIndex k s).2.length ≤ s.length := by
  unfold gIndex; split
  · exact rTake_len s
  · simp
theorem gText_len (k : Int) (s : List UInt8) : (gText k s).1.length ≤ s.length ∧ (gText k s).2.length ≤ s.length := by
  unfold gText; split
  · exact rPiece_len s
  · simp

/-- What the reference's Decode answers. -/
def refRes (s : List UInt8) : Option (Int × List UInt8 × Int × Int × List UInt8) :=
  let (k, s1) := rTake s
  let (o, s2) := gOwner k s1
  let (n, s3) := gNumber k s2
  let (i, s4) := gIndex k s3
  let (t, s5) := gText k s4
  if checkV ⟨k, o, n, i, t⟩ = 0 ∧ encV k.toNat o n.toNat i.toNat t = s ∧ s5 = [] then some (k, o, n, i, t) else none
def refVal : Option (Int × List UInt8 × Int × Int × List UInt8) → Value
  | some (k, o, n, i, t) => .tuple #[nameVal k ⟨o.toArray⟩ n i ⟨t.toArray⟩, .int .i64 0]
  | none => .tuple #[nameVal 0 ⟨#[]⟩ 0 0 ⟨#[]⟩, .int .i64 3]

/-- What holds between two reads of the reference's Decode. -/
def DR (w : World) (wx : World) (k : Int) (o : List UInt8) (n i : Int) (t : List UInt8) : Prop :=
  wx.heap[w.heap.size + 1]? = some (.cells #[.int .i64 k, .string ⟨o.toArray⟩, .int .i64 n, .int .i64 i, .string ⟨t.toArray⟩] 30 (0, 0)) ∧
  wx.heap[w.heap.size]? = some (.cells #[.int .i64 0, .string ⟨#[]⟩, .int .i64 0, .int .i64 0, .string ⟨#[]⟩] 30 (0, 0)) ∧ Mods [] w wx
theorem DR.step {w wx wy : World} {k : Int} {o : List UInt8} {n i : Int} {t : List UInt8} (h : DR w wx k o n i t) (hm : Mods [] wx wy) : DR w wy k o n i t :=
  ⟨hm.heap h.1 (by simp), hm.heap h.2.1 (by simp), h.2.2.trans' hm⟩
theorem DR.store {w wx : World} {k : Int} {o : List UInt8} {n i : Int} {t : List UInt8} (h : DR w wx k o n i t) (j : Nat) (v : Value) (k' : Int) (o' : List UInt8) (n' i' : Int) (t' : List UInt8)
    (hv : (#[.int .i64 k, .string ⟨o.toArray⟩, .int .i64 n, .int .i64 i, .string ⟨t.toArray⟩] : Array Value).setIfInBounds j v = #[.int .i64 k', .string ⟨o'.toArray⟩, .int .i64 n', .int .i64 i', .string ⟨t'.toArray⟩]) :
    DR w (wx.setCell ⟨w.heap.size + 1, j, none⟩ v) k' o' n' i' t' := by
  have hm : Mods [w.heap.size + 1] wx (wx.setCell ⟨w.heap.size + 1, j, none⟩ v) := (Mods.refl _ wx).setCell (.inl (by simp)) _
  exact ⟨by rw [heap_setCell_same h.1, hv], hm.heap h.2.1 (by simp), h.2.2.trans hm (fun j hj => by simp at hj; omega)⟩
theorem DR.start (w : World) : DR w ((w.alloc (.cells #[.int .i64 0, .string ⟨#[]⟩, .int .i64 0, .int .i64 0, .string ⟨#[]⟩] 30)).alloc (.cells #[.int .i64 0, .string ⟨#[]⟩, .int .i64 0, .int .i64 0, .string ⟨#[]⟩] 30)) 0 [] 0 0 [] := by
  have h := heap_alloc_new (w.alloc (.cells #[.int .i64 0, .string ⟨#[]⟩, .int .i64 0, .int .i64 0, .string ⟨#[]⟩] 30)) (.cells #[.int .i64 0, .string ⟨#[]⟩, .int .i64 0, .int .i64 0, .string ⟨#[]⟩] 30)
  rw [World.size_alloc] at h
  exact ⟨h, heap_alloc_old (heap_alloc_new w _), ((Mods.refl [] w).alloc _).alloc _⟩
theorem DR.cells {w wx : World} {k : Int} {o : List UInt8} {n i : Int} {t : List UInt8} (h : DR w wx k o n i t) :
    (wx.cell? ⟨w.heap.size + 1, 0, none⟩ = some (.int .i64 k) ∧ wx.cell? ⟨w.heap.size + 1, 1, none⟩ = some (.string ⟨o.toArray⟩) ∧ wx.cell? ⟨w.heap.size + 1, 2, none⟩ = some (.int .i64 n) ∧ wx.cell? ⟨w.heap.size + 1, 3, none⟩ = some (.int .i64 i) ∧ wx.cell? ⟨w.heap.size + 1, 4, none⟩ = some (.string ⟨t.toArray⟩)) ∧
    (wx.frozen? ⟨w.heap.size + 1, 0, none⟩ = false ∧ wx.frozen? ⟨w.heap.size + 1, 1, none⟩ = false ∧ wx.frozen? ⟨w.heap.size + 1, 2, none⟩ = false ∧ wx.frozen? ⟨w.heap.size + 1, 3, none⟩ = false ∧ wx.frozen? ⟨w.heap.size + 1, 4, none⟩ = false) := cells5 h.1

theorem encode_any_err {k : Int} {o t : List UInt8} {n i : Int} (h : checkV ⟨k, o, n, i, t⟩ = 0) : ∃ kk : Nat, k = kk ∧ 1 ≤ kk ∧ kk ≤ 20 := by
  by_cases hk : 1 ≤ k ∧ k ≤ 20
  · obtain ⟨kk, rfl⟩ := Int.eq_ofNat_of_zero_le (show 0 ≤ k by omega)
    exact ⟨kk, rfl, by omega, by omega⟩
  · rw [checkV_bad hk] at h; cases h

set_option maxRecDepth 100000 in
set_option maxHeartbeats 2000000 in
theorem refDecode_any (s : ByteArray) (w : World) (hs : s.size ≤ 1000000) :
    Calls Tryz.prog 7 #[.string s] w fun e w' => e = .returned (refVal (refRes s.data.toList)) ∧ Mods [] w w' := by
  obtain ⟨k, hk⟩ : ∃ k, (rTake s.data.toList).1 = k := ⟨_, rfl⟩
  obtain ⟨s1, hs1⟩ : ∃ s1, (rTake s.data.toList).2 = s1 := ⟨_, rfl⟩
  have hl1 : s1.length ≤ 1000000 := by rw [← hs1]; have := rTake_len s.data.toList; rw [slen] at this; omega
  have Hk := Lib.hid hk
  have Hs1 := Lib.hid hs1
  have hrr : Hid (rTake s.data.toList = (k, s1)) := by show _ = _; rw [← hk, ← hs1]
  clear hk hs1
  have HO : Hid (∀ w, Calls Tryz.prog 24 #[.int .i64 k] w fun e w' => e = .returned (.bool (uOwner k.toNat)) ∧ w = w') := fun w => refOwned_any k w
  have HN : Hid (∀ w, Calls Tryz.prog 26 #[.int .i64 k] w fun e w' => e = .returned (.bool (uNumber k.toNat)) ∧ w = w') := fun w => refNumbered_any k w
  have HX : Hid (∀ w, Calls Tryz.prog 27 #[.int .i64 k] w fun e w' => e = .returned (.int .i64 (rMost k.toNat)) ∧ w = w') := fun w => refMost_any k w
  have HT : Hid (∀ w, Calls Tryz.prog 28 #[.int .i64 k] w fun e w' => e = .returned (.bool (uText k.toNat)) ∧ w = w') := fun w => refTexted_any k w
  obtain ⟨fo, hfo⟩ : ∃ fo, uOwner k.toNat = fo := ⟨_, rfl⟩
  obtain ⟨fn, hfn⟩ : ∃ fn, uNumber k.toNat = fn := ⟨_, rfl⟩
  obtain ⟨fx, hfx⟩ : ∃ fx, rMost k.toNat = fx := ⟨_, rfl⟩
  obtain ⟨ft, hft⟩ : ∃ ft, uText k.toNat = ft := ⟨_, rfl⟩
  rw [hfo] at HO
  rw [hfn] at HN
  rw [hfx] at HX
  rw [hft] at HT
  have hfx' : Hid ((0 ≤ fx ∧ uIndex k.toNat = true) ∨ (¬ 0 ≤ fx ∧ uIndex k.toNat = false)) := by
    show _ ∨ _
    rw [← hfx]; unfold rMost
    cases h : uIndex k.toNat
    · exact .inr ⟨by simp, rfl⟩
    · exact .inl ⟨by simp, rfl⟩
  have Hfo := Lib.hid hfo
  have Hfn := Lib.hid hfn
  have Hft := Lib.hid hft
  clear hfo hfn hfx hft
  go_enter Tryz.func7, Tryz.ntmps7
  go_wp2_with fail
  have D0 := DR.start w
  generalize ((w.alloc (.cells #[.int .i64 0, .string ⟨#[]⟩, .int .i64 0, .int .i64 0, .string ⟨#[]⟩] 30)).alloc (.cells #[.int .i64 0, .string ⟨#[]⟩, .int .i64 0, .int .i64 0, .string ⟨#[]⟩] 30)) = W0 at D0
  refine (refTake_any s W0 (by omega)).mono ?_
  rintro e w1 ⟨rfl, hm1⟩
  rw [Hk.out, Hs1.out]
  have D1 := D0.step hm1
  obtain ⟨⟨x0, x1, x2, x3, x4⟩, ⟨f0, f1, f2, f3, f4⟩⟩ := D1.cells
  have HD1 := Lib.hid D1
  clear D0 hm1 D1
  go_upto_if 17 with ((go_at_call 24; refine (HO.out _).mono ?_; rintro e w' ⟨rfl, rfl⟩))
  have HD1b := Lib.hid (HD1.out.store 0 (.int .i64 k) k [] 0 0 [] rfl)
  generalize w1.setCell ⟨w.heap.size + 1, 0, none⟩ (.int .i64 k) = w2 at HD1b
  clear x0 x1 x2 x3 x4 f0 f1 f2 f3 f4
  obtain ⟨⟨x0, x1, x2, x3, x4⟩, ⟨f0, f1, f2, f3, f4⟩⟩ := HD1b.out.cells
  go_cut [5] (fun v wc => v = .string ⟨(gOwner k s1).2.toArray⟩ ∧ Hid (DR w wc k (gOwner k s1).1 0 0 []))
  case first =>
    rcases Bool.eq_false_or_eq_true fo with hb | hb
    · have hg : Hid (gOwner k s1 = rPiece s1) := by show _ = _; unfold gOwner; rw [if_pos (by rw [Hfo.out, hb])]
      subst hb
      go_wp2_with fail
      refine (refPiece_any ⟨s1.toArray⟩ _ (by rw [mk_size]; omega)).mono ?_
      rintro e wx ⟨rfl, hm⟩
      have hgd : (⟨s1.toArray⟩ : ByteArray).data.toList = s1 := rfl
      rw [hgd]
      have D := HD1b.out.step hm
      obtain ⟨⟨a0, a1, a2, a3, a4⟩, ⟨g0, g1, g2, g3, g4⟩⟩ := D.cells
      have HD := Lib.hid D
      clear D hm hgd
      go_wp2
      go_meet
      rw [hg.out]
      exact ⟨rfl, HD.out.store 1 _ _ _ _ _ _ rfl⟩
    · have hg : Hid (gOwner k s1 = ([], s1)) := by show _ = _; unfold gOwner; rw [if_neg (by rw [Hfo.out, hb]; decide)]
      subst hb
      go_wp2
      go_meet
      rw [hg.out]
      exact ⟨rfl, HD1b.out⟩
  case rest =>
  obtain ⟨hv, HD2⟩ := hcut
  subst hv
  obtain ⟨o, ho⟩ : ∃ o, (gOwner k s1).1 = o := ⟨_, rfl⟩
  obtain ⟨s2, hs2⟩ : ∃ s2, (gOwner k s1).2 = s2 := ⟨_, rfl⟩
  have hl2 : s2.length ≤ 1000000 := by rw [← hs2]; have := (gOwner_len k s1).2; omega
  have hlo : o.length ≤ 1000000 := by rw [← ho]; have := (gOwner_len k s1).1; omega
  have hr2 : Hid (gOwner k s1 = (o, s2)) := by show _ = _; rw [← ho, ← hs2]
  rw [ho] at HD2
  rw [hs2]
  clear ho hs2
  clear x0 x1 x2 x3 x4 f0 f1 f2 f3 f4
  obtain ⟨⟨x0, x1, x2, x3, x4⟩, ⟨f0, f1, f2, f3, f4⟩⟩ := HD2.out.cells
  have HD2b := HD2
  go_upto_if 26 with ((go_at_call 26; refine (HN.out _).mono ?_; rintro e w' ⟨rfl, rfl⟩))
  go_cut [5] (fun v wc => v = .string ⟨(gNumber k s2).2.toArray⟩ ∧ Hid (DR w wc k o (gNumber k s2).1 0 []))
  case first =>
    rcases Bool.eq_false_or_eq_true fn with hb | hb
    · have hg : Hid (gNumber k s2 = rTake s2) := by show _ = _; unfold gNumber; rw [if_pos (by rw [Hfn.out, hb])]
      subst hb
      go_wp2_with fail
      refine (refTake_any ⟨s2.toArray⟩ _ (by rw [mk_size]; omega)).mono ?_
      rintro e wx ⟨rfl, hm⟩
      have hgd : (⟨s2.toArray⟩ : ByteArray).data.toList = s2 := rfl
      rw [hgd]
      have D := HD2b.out.step hm
      obtain ⟨⟨a0, a1, a2, a3, a4⟩, ⟨g0, g1, g2, g3, g4⟩⟩ := D.cells
      have HD := Lib.hid D
      clear D hm hgd
      go_wp2
      go_meet
      rw [hg.out]
      exact ⟨rfl, HD.out.store 2 _ _ _ _ _ _ rfl⟩
    · have hg : Hid (gNumber k s2 = (0, s2)) := by show _ = _; unfold gNumber; rw [if_neg (by rw [Hfn.out, hb]; decide)]
      subst hb
      go_wp2
      go_meet
      rw [hg.out]
      exact ⟨rfl, HD2b.out⟩
  case rest =>
  obtain ⟨hv, HD3⟩ := hcut
  subst hv
  obtain ⟨n, hn⟩ : ∃ n, (gNumber k s2).1 = n := ⟨_, rfl⟩
  obtain ⟨s3, hs3⟩ : ∃ s3, (gNumber k s2).2 = s3 := ⟨_, rfl⟩
  have hl3 : s3.length ≤ 1000000 := by rw [← hs3]; have := gNumber_len k s2; omega
  skip
  have hr3 : Hid (gNumber k s2 = (n, s3)) := by show _ = _; rw [← hn, ← hs3]
  rw [hn] at HD3
  rw [hs3]
  clear hn hs3
  clear x0 x1 x2 x3 x4 f0 f1 f2 f3 f4
  obtain ⟨⟨x0, x1, x2, x3, x4⟩, ⟨f0, f1, f2, f3, f4⟩⟩ := HD3.out.cells
  have HD3b := HD3
  go_upto_if 36 with ((go_at_call 27; refine (HX.out _).mono ?_; rintro e w' ⟨rfl, rfl⟩))
  go_cut [5] (fun v wc => v = .string ⟨(gIndex k s3).2.toArray⟩ ∧ Hid (DR w wc k o n (gIndex k s3).1 []))
  case first =>
    rcases hfx'.out with ⟨hb, hb2⟩ | ⟨hb, hb2⟩
    · have hg : Hid (gIndex k s3 = rTake s3) := by show _ = _; unfold gIndex; rw [if_pos hb2]
      clear hb2
      go_wp2_with fail
      refine (refTake_any ⟨s3.toArray⟩ _ (by rw [mk_size]; omega)).mono ?_
      rintro e wx ⟨rfl, hm⟩
      have hgd : (⟨s3.toArray⟩ : ByteArray).data.toList = s3 := rfl
      rw [hgd]
      have D := HD3b.out.step hm
      obtain ⟨⟨a0, a1, a2, a3, a4⟩, ⟨g0, g1, g2, g3, g4⟩⟩ := D.cells
      have HD := Lib.hid D
      clear D hm hgd
      go_wp2
      go_meet
      rw [hg.out]
      exact ⟨rfl, HD.out.store 3 _ _ _ _ _ _ rfl⟩
    · have hg : Hid (gIndex k s3 = (0, s3)) := by show _ = _; unfold gIndex; rw [if_neg (by rw [hb2]; decide)]
      clear hb2
      go_wp2
      go_meet
      rw [hg.out]
      exact ⟨rfl, HD3b.out⟩
  case rest =>
  obtain ⟨hv, HD4⟩ := hcut
  subst hv
  obtain ⟨i, hi⟩ : ∃ i, (gIndex k s3).1 = i := ⟨_, rfl⟩
  obtain ⟨s4, hs4⟩ : ∃ s4, (gIndex k s3).2 = s4 := ⟨_, rfl⟩
  have hl4 : s4.length ≤ 1000000 := by rw [← hs4]; have := gIndex_len k s3; omega
  skip
  have hr4 : Hid (gIndex k s3 = (i, s4)) := by show _ = _; rw [← hi, ← hs4]
  rw [hi] at HD4
  rw [hs4]
  clear hi hs4
  clear x0 x1 x2 x3 x4 f0 f1 f2 f3 f4
  obtain ⟨⟨x0, x1, x2, x3, x4⟩, ⟨f0, f1, f2, f3, f4⟩⟩ := HD4.out.cells
  have HD4b := HD4
  go_upto_if 45 with ((go_at_call 28; refine (HT.out _).mono ?_; rintro e w' ⟨rfl, rfl⟩))
  go_cut [5] (fun v wc => v = .string ⟨(gText k s4).2.toArray⟩ ∧ Hid (DR w wc k o n i (gText k s4).1))
  case first =>
    rcases Bool.eq_false_or_eq_true ft with hb | hb
    · have hg : Hid (gText k s4 = rPiece s4) := by show _ = _; unfold gText; rw [if_pos (by rw [Hft.out, hb])]
      subst hb
      go_wp2_with fail
      refine (refPiece_any ⟨s4.toArray⟩ _ (by rw [mk_size]; omega)).mono ?_
      rintro e wx ⟨rfl, hm⟩
      have hgd : (⟨s4.toArray⟩ : ByteArray).data.toList = s4 := rfl
      rw [hgd]
      have D := HD4b.out.step hm
      obtain ⟨⟨a0, a1, a2, a3, a4⟩, ⟨g0, g1, g2, g3, g4⟩⟩ := D.cells
      have HD := Lib.hid D
      clear D hm hgd
      go_wp2
      go_meet
      rw [hg.out]
      exact ⟨rfl, HD.out.store 4 _ _ _ _ _ _ rfl⟩
    · have hg : Hid (gText k s4 = ([], s4)) := by show _ = _; unfold gText; rw [if_neg (by rw [Hft.out, hb]; decide)]
      subst hb
      go_wp2
      go_meet
      rw [hg.out]
      exact ⟨rfl, HD4b.out⟩
  case rest =>
  obtain ⟨hv, HD5⟩ := hcut
  subst hv
  obtain ⟨t, ht⟩ : ∃ t, (gText k s4).1 = t := ⟨_, rfl⟩
  obtain ⟨s5, hs5⟩ : ∃ s5, (gText k s4).2 = s5 := ⟨_, rfl⟩
  have hl5 : s5.length ≤ 1000000 := by rw [← hs5]; have := (gText_len k s4).2; omega
  have hlt : t.length ≤ 1000000 := by rw [← ht]; have := (gText_len k s4).1; omega
  have hr5 : Hid (gText k s4 = (t, s5)) := by show _ = _; rw [← ht, ← hs5]
  rw [ht] at HD5
  rw [hs5]
  clear ht hs5
  clear x0 x1 x2 x3 x4 f0 f1 f2 f3 f4
  obtain ⟨⟨x0, x1, x2, x3, x4⟩, ⟨f0, f1, f2, f3, f4⟩⟩ := HD5.out.cells
  have hres : Hid (refRes s.data.toList = if checkV ⟨k, o, n, i, t⟩ = 0 ∧ encV k.toNat o n.toNat i.toNat t = s.data.toList ∧ s5 = [] then some (k, o, n, i, t) else none) := by
    show _ = _
    unfold refRes
    rw [hrr.out]
    simp only [hr2.out, hr3.out, hr4.out, hr5.out]
  have ho6 : (⟨o.toArray⟩ : ByteArray).size ≤ 1000000 := by rw [mk_size]; omega
  have ht6 : (⟨t.toArray⟩ : ByteArray).size ≤ 1000000 := by rw [mk_size]; omega
  have hc0 : checkV ⟨k, (⟨o.toArray⟩ : ByteArray).data.toList, n, i, (⟨t.toArray⟩ : ByteArray).data.toList⟩ = checkV ⟨k, o, n, i, t⟩ := rfl
  by_cases hc : checkV ⟨k, o, n, i, t⟩ = 0
  · obtain ⟨kk, rfl, hkk1, hkk2⟩ := encode_any_err hc
    have He := Lib.hid (fun W => refEncode_ok kk ⟨o.toArray⟩ ⟨t.toArray⟩ n i W ho6 ht6 hkk1 hkk2 (hc0.trans hc))
    unfold nameVal at He
    have hE0 : encV kk (⟨o.toArray⟩ : ByteArray).data.toList n.toNat i.toNat (⟨t.toArray⟩ : ByteArray).data.toList = encV kk o n.toNat i.toNat t := rfl
    rw [hE0] at He
    have hres2 : Hid (refRes s.data.toList = if encV kk o n.toNat i.toNat t = s.data.toList ∧ s5 = [] then some (↑kk, o, n, i, t) else none) := by
      show _ = _
      rw [hres.out]
      by_cases h : encV kk o n.toNat i.toNat t = s.data.toList ∧ s5 = []
      · rw [if_pos h, if_pos ⟨hc, h⟩]
      · rw [if_neg h, if_neg (fun h' => h h'.2)]
    obtain ⟨E, hE⟩ : ∃ E, encV kk o n.toNat i.toNat t = E := ⟨_, rfl⟩
    rw [hE] at He hres2
    obtain ⟨R5, hR5⟩ : ∃ R5 : ByteArray, (⟨s5.toArray⟩ : ByteArray) = R5 := ⟨_, rfl⟩
    obtain ⟨EB, hEB⟩ : ∃ EB : ByteArray, (⟨E.toArray⟩ : ByteArray) = EB := ⟨_, rfl⟩
    rw [hEB] at He
    rw [hR5]
    have hEl : EB.toList = E := by rw [← hEB, ByteArray.toList_eq]
    have hRl : R5.toList = s5 := by rw [← hR5, ByteArray.toList_eq]
    have hsl : s.toList = s.data.toList := ByteArray.toList_eq s
    by_cases h1 : E = s.data.toList
    · have b1 : (EB.toList == s.toList) = true := by rw [hEl, hsl, h1]; exact beq_self_eq_true _
      by_cases h2 : s5 = []
      · have b2 : R5.toList.isEmpty = true := by rw [hRl, h2]; rfl
        have b3 : R5.toList = [] := by rw [hRl, h2]
        have Hv : Hid (refVal (refRes s.data.toList) = .tuple #[nameVal kk ⟨o.toArray⟩ n i ⟨t.toArray⟩, .int .i64 0]) := by
          show _ = _
          rw [hres2.out, if_pos ⟨h1, h2⟩]; rfl
        clear hc hc0 hE0 hE hEB hR5 hEl hRl hsl h1 h2
        go_wp2_with fail
        refine (He.out _).mono ?_
        rintro e w6 ⟨rfl, hm6⟩
        have D6 := HD5.out.step hm6
        obtain ⟨⟨y0, y1, y2, y3, y4⟩, -⟩ := D6.cells
        have Hz := Lib.hid D6.2.1
        have Hmz := Lib.hid D6.2.2
        obtain ⟨⟨r0, r1, r2, r3, r4⟩, ⟨q0, q1, q2, q3, q4⟩⟩ := cells5 D6.2.1
        clear D6 hm6
        go_wp2
        obtain ⟨⟨d0, d1, d2, d3, d4⟩, -⟩ := cells5 (set5_heap Hz.out (.int .i64 kk) (.string ⟨o.toArray⟩) (.int .i64 n) (.int .i64 i) (.string ⟨t.toArray⟩))
        refine bodyPost_ret (v := .tuple #[.agg #[.int .i64 kk, .string ⟨o.toArray⟩, .int .i64 n, .int .i64 i, .string ⟨t.toArray⟩], .int .i64 0]) (by simp [results, Tryz.results7, go_sem, d0, d1, d2, d3, d4]) rfl ⟨by rw [Hv.out]; rfl, mods_set5 Hmz.out (Nat.le_refl _) _ _ _ _ _⟩
      · have b2 : R5.toList.isEmpty = false := by rw [hRl]; simpa using h2
        have b3 : ¬ R5.toList = [] := by rw [hRl]; exact h2
        have Hv : Hid (refVal (refRes s.data.toList) = .tuple #[nameVal 0 ⟨#[]⟩ 0 0 ⟨#[]⟩, .int .i64 3]) := by
          show _ = _
          rw [hres2.out, if_neg (fun h => h2 h.2)]; rfl
        clear hc hc0 hE0 hE hEB hR5 hEl hRl hsl h1 h2
        go_wp2_with fail
        refine (He.out _).mono ?_
        rintro e w6 ⟨rfl, hm6⟩
        have D6 := HD5.out.step hm6
        obtain ⟨⟨y0, y1, y2, y3, y4⟩, -⟩ := D6.cells
        have Hz := Lib.hid D6.2.1
        have Hmz := Lib.hid D6.2.2
        obtain ⟨⟨r0, r1, r2, r3, r4⟩, ⟨q0, q1, q2, q3, q4⟩⟩ := cells5 D6.2.1
        clear D6 hm6
        go_wp2
        obtain ⟨⟨d0, d1, d2, d3, d4⟩, -⟩ := cells5 (set5_heap Hz.out (.int .i64 0) (.string ⟨#[]⟩) (.int .i64 0) (.int .i64 0) (.string ⟨#[]⟩))
        refine bodyPost_ret (v := .tuple #[.agg #[.int .i64 0, .string ⟨#[]⟩, .int .i64 0, .int .i64 0, .string ⟨#[]⟩], .int .i64 3]) (by simp [results, Tryz.results7, go_sem, d0, d1, d2, d3, d4]) rfl ⟨by rw [Hv.out]; rfl, mods_set5 Hmz.out (Nat.le_refl _) _ _ _ _ _⟩
    · have b1 : (EB.toList == s.toList) = false := by rw [hEl, hsl]; simpa using h1
      have Hv : Hid (refVal (refRes s.data.toList) = .tuple #[nameVal 0 ⟨#[]⟩ 0 0 ⟨#[]⟩, .int .i64 3]) := by
        show _ = _
        rw [hres2.out, if_neg (fun h => h1 h.1)]; rfl
      clear hc hc0 hE0 hE hEB hR5 hEl hRl hsl h1
      go_wp2_with fail
      refine (He.out _).mono ?_
      rintro e w6 ⟨rfl, hm6⟩
      have D6 := HD5.out.step hm6
      obtain ⟨⟨y0, y1, y2, y3, y4⟩, -⟩ := D6.cells
      have Hz := Lib.hid D6.2.1
      have Hmz := Lib.hid D6.2.2
      obtain ⟨⟨r0, r1, r2, r3, r4⟩, ⟨q0, q1, q2, q3, q4⟩⟩ := cells5 D6.2.1
      clear D6 hm6
      go_wp2
      obtain ⟨⟨d0, d1, d2, d3, d4⟩, -⟩ := cells5 (set5_heap Hz.out (.int .i64 0) (.string ⟨#[]⟩) (.int .i64 0) (.int .i64 0) (.string ⟨#[]⟩))
      refine bodyPost_ret (v := .tuple #[.agg #[.int .i64 0, .string ⟨#[]⟩, .int .i64 0, .int .i64 0, .string ⟨#[]⟩], .int .i64 3]) (by simp [results, Tryz.results7, go_sem, d0, d1, d2, d3, d4]) rfl ⟨by rw [Hv.out]; rfl, mods_set5 Hmz.out (Nat.le_refl _) _ _ _ _ _⟩
  · have He := Lib.hid (fun W => refEncode_err k ⟨o.toArray⟩ ⟨t.toArray⟩ n i W ho6 ht6 (by rw [hc0]; exact hc))
    rw [hc0] at He
    unfold nameVal at He
    have Hv : Hid (refVal (refRes s.data.toList) = .tuple #[nameVal 0 ⟨#[]⟩ 0 0 ⟨#[]⟩, .int .i64 3]) := by
      show _ = _
      rw [hres.out, if_neg (fun h => hc h.1)]; rfl
    obtain ⟨c, hcc⟩ : ∃ c, checkV ⟨k, o, n, i, t⟩ = c := ⟨_, rfl⟩
    rw [hcc] at He hc
    have b1 : (c == 0) = false := by simpa using hc
    have b2 : (c != 0) = true := by simpa using hc
    clear hc hc0 hcc
    go_wp2_with fail
    refine (He.out _).mono ?_
    rintro e w6 ⟨rfl, hm6⟩
    have D6 := HD5.out.step hm6
    obtain ⟨⟨y0, y1, y2, y3, y4⟩, -⟩ := D6.cells
    have Hz := Lib.hid D6.2.1
    have Hmz := Lib.hid D6.2.2
    obtain ⟨⟨r0, r1, r2, r3, r4⟩, ⟨q0, q1, q2, q3, q4⟩⟩ := cells5 D6.2.1
    clear D6 hm6
    go_wp2
    obtain ⟨⟨d0, d1, d2, d3, d4⟩, -⟩ := cells5 (set5_heap Hz.out (.int .i64 0) (.string ⟨#[]⟩) (.int .i64 0) (.int .i64 0) (.string ⟨#[]⟩))
    refine bodyPost_ret (v := .tuple #[.agg #[.int .i64 0, .string ⟨#[]⟩, .int .i64 0, .int .i64 0, .string ⟨#[]⟩], .int .i64 3]) (by simp [results, Tryz.results7, go_sem, d0, d1, d2, d3, d4]) rfl ⟨by rw [Hv.out]; rfl, mods_set5 Hmz.out (Nat.le_refl _) _ _ _ _ _⟩
end Go.Proofs.YtedlfmjgbehgkaaGreatDoor
