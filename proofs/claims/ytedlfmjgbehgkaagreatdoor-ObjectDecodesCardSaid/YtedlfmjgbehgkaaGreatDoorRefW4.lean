/- Walks of the reference of layer 4: take, piece, Word. -/
import Derived.Test.YtedlfmjgbehgkaaGreatDoorRefW3
import Derived.Test.YtedlfmjgbehgkaaGreatDoorRefW2
namespace Go.Proofs.YtedlfmjgbehgkaaGreatDoor
open Go.RowKit

/-- The number at the head of a text, and the rest. -/
def rTake (s : List UInt8) : Int × List UInt8 := if (parse9 s).2.2 = 0 then ((parse9 s).1, s.drop (parse9 s).2.1) else (-1, [])
/-- The text at the head of a text, and the rest. -/
def rPiece (s : List UInt8) : List UInt8 × List UInt8 :=
  if (rTake s).1 < 0 ∨ (rTake s).2.length < (rTake s).1 then ([], []) else ((rTake s).2.take (rTake s).1.toNat, (rTake s).2.drop (rTake s).1.toNat)

theorem extract_end (s : ByteArray) (n : Nat) (h : n ≤ s.size) : s.extract n s.size = ⟨(s.data.toList.drop n).toArray⟩ := by
  apply ByteArray.ext
  simp [ByteArray.data_extract]
  rw [← Array.toList_inj]
  simp
  exact List.take_of_length_le (by rw [List.length_drop, slen]; omega)
theorem parse9_len (l : List UInt8) : (parse9 l).2.1 ≤ l.length := by
  by_cases he : (parse9 l).2.2 = 0
  · exact (parse9_ok l (parse9 l).1 (parse9 l).2.1 (by rw [← he])).2.1
  · rw [(parse9_err l he).2]; omega

set_option maxRecDepth 100000 in
set_option maxHeartbeats 1000000 in
theorem refTake_any (s : ByteArray) (w : World) (hs : s.size ≤ 1000000000) :
    Calls Tryz.prog 23 #[.string s] w fun e w' => e = .returned (.tuple #[.int .i64 (rTake s.data.toList).1, .string ⟨(rTake s.data.toList).2.toArray⟩]) ∧ Mods [] w w' := by
  have kc := fun W => run_bytes W s
  have hb1 := bwOf_bytes w s
  have hmb := Lib.hid (bwOf_mods w s)
  have Hp := Lib.hid (refParse_any ⟨_, hb1⟩ (by rw [slen]; unfold maxLen; omega))
  have hz := parse9_len s.data.toList
  rw [slen] at hz
  clear hb1
  by_cases he : (parse9 s.data.toList).2.2 = 0
  · have hr : Hid (rTake s.data.toList = (((parse9 s.data.toList).1 : Int), s.data.toList.drop (parse9 s.data.toList).2.1)) := by
      show _ = _; unfold rTake; rw [if_pos he]
    have hx : Hid (s.extract (parse9 s.data.toList).2.1 s.size = ⟨(s.data.toList.drop (parse9 s.data.toList).2.1).toArray⟩) := extract_end s _ hz
    have b1 : ((parse9 s.data.toList).2.2 != 0) = false := by simpa using he
    have b2 : ((parse9 s.data.toList).2.2 == 0) = true := by simpa using he
    clear he
    go_enter Tryz.func23, Tryz.ntmps23
    go_wp2_with (go_at_call 54; refine Hp.out.mono ?_; rintro e w' ⟨rfl, rfl⟩)
    go_region
    all_goals go_wp2
    all_goals go_ret2
    rw [hr.out, ← hx.out]
    exact ⟨rfl, hmb.out.drew⟩
  · have hr : Hid (rTake s.data.toList = (-1, [])) := by
      show _ = _; unfold rTake; rw [if_neg he]
    have b1 : ((parse9 s.data.toList).2.2 != 0) = true := by simpa using he
    have b2 : ((parse9 s.data.toList).2.2 == 0) = false := by simpa using he
    clear he
    go_enter Tryz.func23, Tryz.ntmps23
    go_wp2_with (go_at_call 54; refine Hp.out.mono ?_; rintro e w' ⟨rfl, rfl⟩)
    go_ret2
    rw [hr.out]
    exact ⟨rfl, hmb.out⟩

theorem rTake_len (s : List UInt8) : (rTake s).2.length ≤ s.length := by
  unfold rTake
  split
  · simp
  · simp
theorem mk_size (l : List UInt8) : (⟨l.toArray⟩ : ByteArray).size = l.length := by simp [ByteArray.size]
theorem mk_data (l : List UInt8) : (⟨l.toArray⟩ : ByteArray).data.toList = l := by simp
theorem extract_start (l : List UInt8) (n : Nat) : (⟨l.toArray⟩ : ByteArray).extract 0 n = ⟨(l.take n).toArray⟩ := by
  apply ByteArray.ext
  simp [ByteArray.data_extract]
theorem extract_rest (l : List UInt8) (n : Nat) (h : n ≤ l.length) : (⟨l.toArray⟩ : ByteArray).extract n l.length = ⟨(l.drop n).toArray⟩ := by
  have := extract_end ⟨l.toArray⟩ n (by rw [mk_size]; exact h)
  rw [mk_size] at this
  exact this

set_option maxRecDepth 100000 in
set_option maxHeartbeats 1000000 in
theorem refPiece_any (s : ByteArray) (w : World) (hs : s.size ≤ 1000000000) :
    Calls Tryz.prog 25 #[.string s] w fun e w' => e = .returned (.tuple #[.string ⟨(rPiece s.data.toList).1.toArray⟩, .string ⟨(rPiece s.data.toList).2.toArray⟩]) ∧ Mods [] w w' := by
  have Ht := Lib.hid (refTake_any s w hs)
  have hl := rTake_len s.data.toList
  rw [slen] at hl
  obtain ⟨n, hn⟩ : ∃ n, (rTake s.data.toList).1 = n := ⟨_, rfl⟩
  obtain ⟨r, hr⟩ : ∃ r, (rTake s.data.toList).2 = r := ⟨_, rfl⟩
  have hp : rPiece s.data.toList = if n < 0 ∨ r.length < n then ([], []) else (r.take n.toNat, r.drop n.toNat) := by rw [← hn, ← hr]; rfl
  rw [hr] at hl
  have hsz := mk_size r
  by_cases h1 : n < 0
  · have hp' : Hid (rPiece s.data.toList = ([], [])) := by show _ = _; rw [hp, if_pos (.inl h1)]
    have Hn := Lib.hid hn
    have Hr := Lib.hid hr
    clear hp hn hr hsz
    go_enter Tryz.func25, Tryz.ntmps25
    go_wp2_with fail
    refine Ht.out.mono ?_
    rintro e w1 ⟨rfl, hm⟩
    have Hm := Lib.hid hm
    rw [Hn.out, Hr.out]
    clear hm
    go_wp2
    go_ret2
    rw [hp'.out]; exact ⟨rfl, Hm.out⟩
  by_cases h2 : r.length < n
  · have hp' : Hid (rPiece s.data.toList = ([], [])) := by show _ = _; rw [hp, if_pos (.inr h2)]
    have h2' : ((⟨r.toArray⟩ : ByteArray).size : Int) < n := by rw [hsz]; exact h2
    have Hn := Lib.hid hn
    have Hr := Lib.hid hr
    clear hp hn hr hsz
    go_enter Tryz.func25, Tryz.ntmps25
    go_wp2_with fail
    refine Ht.out.mono ?_
    rintro e w1 ⟨rfl, hm⟩
    have Hm := Lib.hid hm
    rw [Hn.out, Hr.out]
    clear hm
    obtain ⟨R, hR⟩ : ∃ R, (⟨r.toArray⟩ : ByteArray) = R := ⟨_, rfl⟩
    rw [hR] at h2' ⊢
    clear hR
    go_wp2
    go_ret2
    rw [hp'.out]; exact ⟨rfl, Hm.out⟩
  · obtain ⟨n, rfl⟩ := Int.eq_ofNat_of_zero_le (show 0 ≤ n by omega)
    have hp' : Hid (rPiece s.data.toList = (r.take n, r.drop n)) := by show _ = _; rw [hp, if_neg (by omega)]; rfl
    have Hn := Lib.hid hn
    have Hr := Lib.hid hr
    obtain ⟨R, hR⟩ : ∃ R, (⟨r.toArray⟩ : ByteArray) = R := ⟨_, rfl⟩
    have hx1 : Hid (R.extract 0 n = ⟨(r.take n).toArray⟩) := by show _ = _; rw [← hR]; exact extract_start r n
    have hx2 : Hid (R.extract n R.size = ⟨(r.drop n).toArray⟩) := by show _ = _; rw [← hR, mk_size]; exact extract_rest r n (by omega)
    rw [hR] at hsz
    have h2' : ¬ (R.size : Int) < (n : Int) := by omega
    have h3' : n ≤ R.size := by omega
    have HR := Lib.hid hR
    clear hp hn hr hR hsz h2
    go_enter Tryz.func25, Tryz.ntmps25
    go_wp2_with fail
    refine Ht.out.mono ?_
    rintro e w1 ⟨rfl, hm⟩
    have Hm := Lib.hid hm
    rw [Hn.out, Hr.out, HR.out]
    clear hm
    go_wp2
    go_region
    all_goals go_wp2
    all_goals go_ret2
    all_goals rw [hp'.out, ← hx1.out, ← hx2.out]
    all_goals exact ⟨rfl, Hm.out.drew⟩

set_option maxRecDepth 100000 in
set_option maxHeartbeats 1000000 in
theorem refWord_any (s : ByteArray) (w : World) (hs : s.size ≤ 1000000000) :
    Calls Tryz.prog 77 #[.string s] w fun e w' => e = .returned (.bool (wordOK s.data.toList)) ∧ w = w' := by
  have Hsl := Lib.hid (slen s)
  have hw : Hid (wordOK s.data.toList = (decide (1 ≤ (s.size : Int)) && decide ((s.size : Int) ≤ 32) && s.data.toList.all isWordByte)) := by
    show _ = _
    unfold wordOK
    rw [Hsl.out]
    have e1 : decide (s.data.toList ≠ []) = decide (1 ≤ (s.size : Int)) := by
      rw [decide_eq_decide, ← Hsl.out, ← List.length_pos_iff]; omega
    rw [e1]
    congr 2
    rw [decide_eq_decide]; omega
  go_enter Tryz.func77, Tryz.ntmps77
  go_wp2
  go_loop [3] (fun i => ∃ k : Nat, i = .int .i64 k ∧ k ≤ s.size ∧ Hid (s.data.toList.all isWordByte = (s.data.toList.drop k).all isWordByte)) (fun i => s.size - (intOf i).toNat)
  case atStart => exact ⟨0, rfl, by omega, rfl⟩
  case round =>
    obtain ⟨k, rfl, hk, ha⟩ := hrel
    by_cases hlt : k < s.size
    · have hd : s.data.toList.drop k = s[k]'hlt :: s.data.toList.drop (k + 1) := by rw [sget]; exact List.drop_eq_getElem_cons (by rw [Hsl.out]; exact hlt)
      by_cases hb : isWordByte (s[k]'hlt) = true
      · have hb' := (isWordByte_iff _).1 hb
        have ha' : Hid (s.data.toList.all isWordByte = (s.data.toList.drop (k + 1)).all isWordByte) := by
          show _ = _
          rw [ha.out, hd, List.all_cons, hb]; simp
        obtain ⟨c1, c2, c3⟩ := hb'
        have c3' : (((s[k]'hlt).toNat : Int) == 47) = false := by simpa using c3
        clear hd hb c3
        go_wp2
        go_round
        case rel => exact ⟨k + 1, by go_num, by omega, ha'⟩
        case measure => simp [intOf] <;> omega
      · have ha' : Hid (wordOK s.data.toList = false) := by
          show _ = _
          rw [hw.out, ha.out, hd, List.all_cons]
          simp [hb]
        have hb' := mt (isWordByte_iff _).2 hb
        have hb3 : ((s[k]'hlt).toNat : Int) < 33 ∨ (¬ ((s[k]'hlt).toNat : Int) < 33 ∧ 126 < ((s[k]'hlt).toNat : Int)) ∨ (¬ ((s[k]'hlt).toNat : Int) < 33 ∧ ¬ 126 < ((s[k]'hlt).toNat : Int) ∧ (((s[k]'hlt).toNat : Int) == 47) = true) := by
          simp only [beq_iff_eq]; omega
        clear hd hb hb'
        rcases hb3 with hb3 | ⟨hb3, hb4⟩ | ⟨hb3, hb4, hb5⟩
        all_goals
          go_wp2
          go_ret
          rw [ha'.out]; exact ⟨rfl, rfl⟩
    · have ha' : Hid (wordOK s.data.toList = (decide (1 ≤ (s.size : Int)) && decide ((s.size : Int) ≤ 32))) := by
        show _ = _
        rw [hw.out, ha.out, List.drop_eq_nil_of_le (by rw [Hsl.out]; omega)]; simp
      cases h1 : decide (1 ≤ (s.size : Int))
      all_goals
        have ha2 := Lib.hid ha'.out
        go_wp2
        go_ret
        rw [ha'.out, h1]; exact ⟨rfl, rfl⟩
end Go.Proofs.YtedlfmjgbehgkaaGreatDoor
