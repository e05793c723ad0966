/- Walks: Split and Join of addresses, and the model's split. -/
import Derived.Test.YtlaihnbappfbfaaGreatDoorA6
import Derived.Test.YtlaihnbappfbfaaGreatDoorShelf
import Derived.Deep.QuietTactic
import Derived.BigQuiet
namespace Go.Proofs.YtlaihnbappfbfaaGreatDoor
open Go.RowKit

/-- The value of the parts of an address. -/
def splitVal (x : List UInt8 × List UInt8 × Int) : Value := .tuple #[.string ⟨x.1.toArray⟩, .string ⟨x.2.1.toArray⟩, .int .i64 x.2.2]

set_option maxRecDepth 100000 in
set_option maxHeartbeats 1000000 in
theorem split_any (s : ByteArray) (m : Int) (w : World) (hs : s.size ≤ 1000000) (hm : w.cell? ⟨1, 0, none⟩ = some (.int .i64 m)) :
    Calls Tryz.prog 13 #[.string s] w fun e w' => e = .returned (splitVal (splitF s.data.toList)) ∧ ∃ n, w' = w.drewN n := by
  have hcnt := Tryz.strings_Count_one s 64 w
  have hcut := Tryz.strings_Cut s ⟨#[64]⟩ m w (by omega) hm
  have e64 : (⟨#[64]⟩ : ByteArray).data.toList = [64] := rfl
  rw [e64, cut_at] at hcut
  have hl1 : (cutAt s.data.toList).1.length ≤ 1000000 := by
    have := (List.takeWhile_sublist (fun x : UInt8 => x != 64) (l := s.data.toList)).length_le
    have h2 := slen s
    show (List.takeWhile _ _).length ≤ _
    omega
  have hl2 : (cutAt s.data.toList).2.1.length ≤ 1000000 := by
    have := (List.dropWhile_sublist (fun x : UInt8 => x != 64) (l := s.data.toList)).length_le
    have h2 := slen s
    show (List.drop 1 (List.dropWhile _ _)).length ≤ _
    rw [List.length_drop]
    omega
  have hcd : Lib.countByte s.data.toList 64 = s.data.toList.count 64 := rfl
  rw [hcd] at hcnt
  have hsp : splitF s.data.toList = if 1 < s.data.toList.count 64 then ([], [], 3)
    else if unameOK (cutAt s.data.toList).1 = false then ([], [], 12)
    else if (cutAt s.data.toList).2.2 = true ∧ (cutAt s.data.toList).2.1 = [] then ([], [], 4)
    else if hostE (cutAt s.data.toList).2.1 ≠ 0 then ([], [], hostE (cutAt s.data.toList).2.1)
    else ((cutAt s.data.toList).1, (cutAt s.data.toList).2.1, 0) := rfl
  rw [hsp]
  clear hsp hcd
  generalize s.data.toList.count 64 = cn at *
  generalize cutAt s.data.toList = cu at *
  obtain ⟨u, h, r⟩ := cu
  simp only at hl1 hl2 hcut ⊢
  have su : (⟨u.toArray⟩ : ByteArray).size ≤ 1000000000000 := by simpa [ByteArray.size] using Nat.le_trans hl1 (by decide)
  have sh : (⟨h.toArray⟩ : ByteArray).size ≤ 1000000000000 := by simpa [ByteArray.size] using Nat.le_trans hl2 (by decide)
  obtain ⟨U, hU⟩ : ∃ U : ByteArray, (⟨u.toArray⟩ : ByteArray) = U := ⟨_, rfl⟩
  obtain ⟨H, hH⟩ : ∃ H : ByteArray, (⟨h.toArray⟩ : ByteArray) = H := ⟨_, rfl⟩
  have eU : U.data.toList = u := by rw [← hU]
  have eH : H.data.toList = h := by rw [← hH]
  rw [hU] at hcut su
  rw [hH] at hcut sh
  have hnm := fun W => checkName_any U W su
  have hho := fun W => checkHost_any H W sh
  rw [eU] at hnm
  rw [eH] at hho
  have HU := Lib.hid hU
  have HH := Lib.hid hH
  have HE := Lib.hid eH
  clear hU hH eU eH su sh hl1 hl2 hm e64
  by_cases hc : 1 < cn
  · rw [if_pos hc]
    have hc' : (1 : Int) < (cn : Int) := by omega
    go_enter Tryz.func13, Tryz.ntmps13
    go_wp2_with (go_at_call 46; refine hcnt.mono ?_; rintro e w1 ⟨rfl, rfl⟩)
    go_ret3
    exact ⟨rfl, 0, rfl⟩
  rw [if_neg hc]
  have hc' : ¬ (1 : Int) < (cn : Int) := by omega
  by_cases hu : unameOK u = false
  · rw [if_pos hu]
    simp only [uname_err hu] at hnm
    clear hu hho
    go_enter Tryz.func13, Tryz.ntmps13
    go_wp2_with (first | (go_at_call 46; refine hcnt.mono ?_; rintro e w1 ⟨rfl, rfl⟩) | (go_at_call 47; refine hcut.mono ?_; rintro e w2 ⟨rfl, nd, rfl⟩) | (go_at_call 17; refine (hnm _).mono ?_; rintro e w3 ⟨rfl, rfl⟩))
    go_ret3
    exact ⟨rfl, _, rfl⟩
  rw [if_neg hu]
  simp only [uname_zero (show unameOK u = true by simpa using hu)] at hnm
  clear hu
  by_cases hr : r = true ∧ h = []
  · rw [if_pos hr]
    obtain ⟨rfl, rfl⟩ := hr
    have eH' : H.toList = [] := by rw [ByteArray.toList_eq]; exact HE.out
    clear hho
    go_enter Tryz.func13, Tryz.ntmps13
    go_wp2_with (first | (go_at_call 46; refine hcnt.mono ?_; rintro e w1 ⟨rfl, rfl⟩) | (go_at_call 47; refine hcut.mono ?_; rintro e w2 ⟨rfl, nd, rfl⟩) | (go_at_call 17; refine (hnm _).mono ?_; rintro e w3 ⟨rfl, rfl⟩))
    go_ret3
    exact ⟨rfl, _, rfl⟩
  rw [if_neg hr]
  have hr' : r = false ∨ (r = true ∧ H.toList ≠ []) := by
    rcases Bool.eq_false_or_eq_true r with h1 | h1
    · exact .inr ⟨h1, fun e => hr ⟨h1, by rw [← HE.out, ← ByteArray.toList_eq]; exact e⟩⟩
    · exact .inl h1
  clear hr
  obtain ⟨x, hx⟩ : ∃ x, hostE h = x := ⟨_, rfl⟩
  rw [hx] at hho ⊢
  clear hx
  by_cases hx0 : x = 0
  · subst hx0
    rw [if_neg (by simp)]
    rcases hr' with rfl | ⟨rfl, h1⟩
    · go_enter Tryz.func13, Tryz.ntmps13
      go_wp2_with (first | (go_at_call 46; refine hcnt.mono ?_; rintro e w1 ⟨rfl, rfl⟩) | (go_at_call 47; refine hcut.mono ?_; rintro e w2 ⟨rfl, nd, rfl⟩) | (go_at_call 17; refine (hnm _).mono ?_; rintro e w3 ⟨rfl, rfl⟩) | (go_at_call 48; refine (hho _).mono ?_; rintro e w4 ⟨rfl, rfl⟩))
      go_ret3
      refine ⟨?_, _, rfl⟩
      simp only [splitVal, HU.out, HH.out]; rfl
    · have h1' : H.toList.isEmpty = false := by simpa using h1
      go_enter Tryz.func13, Tryz.ntmps13
      go_wp2_with (first | (go_at_call 46; refine hcnt.mono ?_; rintro e w1 ⟨rfl, rfl⟩) | (go_at_call 47; refine hcut.mono ?_; rintro e w2 ⟨rfl, nd, rfl⟩) | (go_at_call 17; refine (hnm _).mono ?_; rintro e w3 ⟨rfl, rfl⟩) | (go_at_call 48; refine (hho _).mono ?_; rintro e w4 ⟨rfl, rfl⟩))
      go_ret3
      refine ⟨?_, _, rfl⟩
      simp only [splitVal, HU.out, HH.out]; rfl
  · rw [if_pos hx0]
    have hx1 : (x != 0) = true := by simpa using hx0
    rcases hr' with rfl | ⟨rfl, h1⟩
    · go_enter Tryz.func13, Tryz.ntmps13
      go_wp2_with (first | (go_at_call 46; refine hcnt.mono ?_; rintro e w1 ⟨rfl, rfl⟩) | (go_at_call 47; refine hcut.mono ?_; rintro e w2 ⟨rfl, nd, rfl⟩) | (go_at_call 17; refine (hnm _).mono ?_; rintro e w3 ⟨rfl, rfl⟩) | (go_at_call 48; refine (hho _).mono ?_; rintro e w4 ⟨rfl, rfl⟩))
      go_ret3
      exact ⟨rfl, _, rfl⟩
    · have h1' : H.toList.isEmpty = false := by simpa using h1
      go_enter Tryz.func13, Tryz.ntmps13
      go_wp2_with (first | (go_at_call 46; refine hcnt.mono ?_; rintro e w1 ⟨rfl, rfl⟩) | (go_at_call 47; refine hcut.mono ?_; rintro e w2 ⟨rfl, nd, rfl⟩) | (go_at_call 17; refine (hnm _).mono ?_; rintro e w3 ⟨rfl, rfl⟩) | (go_at_call 48; refine (hho _).mono ?_; rintro e w4 ⟨rfl, rfl⟩))
      go_ret3
      exact ⟨rfl, _, rfl⟩

theorem join_bytes (u h : ByteArray) : (⟨(u.data.toList ++ 64 :: h.data.toList).toArray⟩ : ByteArray) = u ++ ⟨#[64]⟩ ++ h := by
  apply ByteArray.ext
  simp
theorem extract_left {s : ByteArray} {x y : List UInt8} (h : s.data.toList = x ++ 64 :: y) : s.extract 0 x.length = ⟨x.toArray⟩ := by
  apply ByteArray.ext
  apply Array.ext'
  simp [h]
theorem extract_right {s : ByteArray} {x y : List UInt8} (h : s.data.toList = x ++ 64 :: y) : s.extract (x.length + 1) s.size = ⟨y.toArray⟩ := by
  apply ByteArray.ext
  apply Array.ext'
  have hl : s.size = x.length + 1 + y.length := by rw [← slen s, h]; simp; omega
  simp [h, hl]

set_option maxRecDepth 100000 in
set_option maxHeartbeats 1000000 in
theorem join_any (u h : ByteArray) (w : World) (hu : u.size ≤ 1000000) (hh : h.size ≤ 1000000) :
    Calls Tryz.prog 16 #[.string u, .string h] w fun e w' => e = .returned (.tuple #[.string ⟨(joinF u.data.toList h.data.toList).1.toArray⟩, .int .i64 (joinF u.data.toList h.data.toList).2]) ∧ w = w' := by
  have hnm := checkName_any u w (by omega)
  have hho := checkHost_any h w (by omega)
  have eh := ByteArray.toList_eq h
  have hj : joinF u.data.toList h.data.toList = if unameOK u.data.toList = false then ([], 12) else if h.data.toList = [] then (u.data.toList, 0) else if hostE h.data.toList ≠ 0 then ([], hostE h.data.toList) else (u.data.toList ++ 64 :: h.data.toList, 0) := rfl
  rw [hj]
  clear hj
  by_cases h1 : unameOK u.data.toList = false
  · rw [if_pos h1]
    rw [uname_err h1] at hnm
    clear h1 hho eh
    go_enter Tryz.func16, Tryz.ntmps16
    go_wp2_with (go_at_call 17; refine hnm.mono ?_; rintro e w3 ⟨rfl, rfl⟩)
    go_ret2
    exact ⟨rfl, rfl⟩
  rw [if_neg h1]
  rw [uname_zero (show unameOK u.data.toList = true by simpa using h1)] at hnm
  clear h1
  by_cases h2 : h.data.toList = []
  · rw [if_pos h2]
    have h2' : h.toList = [] := by rw [eh]; exact h2
    clear h2 eh hho
    go_enter Tryz.func16, Tryz.ntmps16
    go_wp2_with (go_at_call 17; refine hnm.mono ?_; rintro e w3 ⟨rfl, rfl⟩)
    go_ret2
    exact ⟨rfl, rfl⟩
  rw [if_neg h2]
  have h2' : h.toList ≠ [] := by rw [eh]; exact h2
  have h2'' : h.toList.isEmpty = false := by simpa using h2'
  clear h2 eh
  obtain ⟨x, hx⟩ : ∃ x, hostE h.data.toList = x := ⟨_, rfl⟩
  rw [hx] at hho ⊢
  clear hx
  by_cases hx0 : x = 0
  · subst hx0
    rw [if_neg (by simp)]
    go_enter Tryz.func16, Tryz.ntmps16
    go_wp2_with (first | (go_at_call 17; refine hnm.mono ?_; rintro e w3 ⟨rfl, rfl⟩) | (go_at_call 48; refine hho.mono ?_; rintro e w4 ⟨rfl, rfl⟩))
    go_ret2
    rw [join_bytes]; exact ⟨rfl, rfl⟩
  · rw [if_pos hx0]
    have hx1 : (x != 0) = true := by simpa using hx0
    go_enter Tryz.func16, Tryz.ntmps16
    go_wp2_with (first | (go_at_call 17; refine hnm.mono ?_; rintro e w3 ⟨rfl, rfl⟩) | (go_at_call 48; refine hho.mono ?_; rintro e w4 ⟨rfl, rfl⟩))
    go_ret2
    exact ⟨rfl, rfl⟩

set_option maxRecDepth 100000 in
set_option maxHeartbeats 8000000 in
/-- The model's split. -/
theorem refSplit_any (s : ByteArray) (w : World) (hs : s.size ≤ 1000000) :
    Calls Tryz.prog 14 #[.string s] w fun e w' => e = .returned (splitVal (splitF s.data.toList)) ∧ ∃ n, w' = w.drewN n := by
  have hsl := slen s
  have Hsl := Lib.hid hsl
  have Hs : Hid ((⟨s.data.toList.toArray⟩ : ByteArray) = s) := rfl
  clear hsl
  go_enter Tryz.func14, Tryz.ntmps14
  go_wp2
  go_loop [5, 6, 7] (fun a n i => ∃ (k n' : Nat) (a' : Int), i = .int .i64 k ∧ n = .int .i64 n' ∧ a = .int .i64 a' ∧ k ≤ s.size ∧ n' ≤ k ∧ Hid (Ats (s.data.toList.take k) a' n')) (fun _ _ i => s.size - (intOf i).toNat)
  case atStart => exact ⟨0, 0, -1, rfl, rfl, rfl, by omega, by omega, Ats.nil⟩
  case round =>
    obtain ⟨k, n, a, rfl, rfl, rfl, hk, hn, ha⟩ := hrel
    by_cases hlt : k < s.size
    · have hd : s.data.toList.take (k + 1) = s.data.toList.take k ++ [s[k]'hlt] := by rw [sget]; exact List.take_succ_eq_append_getElem (by rw [Hsl.out]; exact hlt)
      have hkl : (s.data.toList.take k).length = k := by rw [List.length_take, Hsl.out]; omega
      by_cases hb : s[k]'hlt = 64
      · have hb' : (((s[k]'hlt).toNat : Int) == 64) = true := by rw [hb]; rfl
        have ha' : Hid (Ats (s.data.toList.take (k + 1)) (k : Int) (n + 1)) := by
          show Ats _ _ _
          rw [hd, hb]
          have := ha.out.one
          rw [hkl] at this
          exact this
        clear hd hkl hb
        go_wp2
        go_round
        case rel => exact ⟨k + 1, n + 1, k, by go_num, by go_num, rfl, by omega, by omega, ha'⟩
        case measure => simp [intOf] <;> omega
      · have hb' : (((s[k]'hlt).toNat : Int) == 64) = false := by
          simp only [beq_eq_false_iff_ne, ne_eq]
          intro e
          exact hb (UInt8.toNat_inj.1 (by show _ = 64; omega))
        have ha' : Hid (Ats (s.data.toList.take (k + 1)) a n) := by
          show Ats _ _ _
          rw [hd]
          exact ha.out.other hb
        clear hd hkl hb
        go_wp2
        go_round
        case rel => exact ⟨k + 1, n, a, by go_num, rfl, rfl, by omega, by omega, ha'⟩
        case measure => simp [intOf] <;> omega
    · have ht : s.data.toList.take k = s.data.toList := List.take_of_length_le (by rw [Hsl.out]; omega)
      have ha1 := ha.out
      rw [ht] at ha1
      obtain ⟨a1, a2, a3⟩ := ha1
      have hk' : ¬ ((k : Int) < (s.size : Int)) := by omega
      by_cases hn1 : 1 < n
      · have hsp : Hid (splitF s.data.toList = ([], [], 3)) := splitF_more (by omega)
        have hn1' : (1 : Int) < (n : Int) := by omega
        clear ht a1 a2 a3
        go_wp2
        go_ret3
        rw [hsp.out]; exact ⟨rfl, 0, rfl⟩
      · have hn1' : ¬ (1 : Int) < (n : Int) := by omega
        by_cases hn0 : n = 0
        · subst hn0
          have hsp := splitF_none a1.symm
          have hnm := checkName_any s w (by omega)
          clear ht a1 a2 a3 ha
          by_cases hu : unameOK s.data.toList = false
          · rw [if_pos hu] at hsp
            rw [uname_err hu] at hnm
            have Hsp := Lib.hid hsp
            clear hsp hu
            go_wp2_with (go_at_call 17; refine hnm.mono ?_; rintro e w3 ⟨rfl, rfl⟩)
            go_ret3
            rw [Hsp.out]; exact ⟨rfl, 0, rfl⟩
          · rw [if_neg hu] at hsp
            rw [uname_zero (show unameOK s.data.toList = true by simpa using hu)] at hnm
            have Hsp := Lib.hid hsp
            clear hsp hu
            go_wp2_with (go_at_call 17; refine hnm.mono ?_; rintro e w3 ⟨rfl, rfl⟩)
            go_ret3
            rw [Hsp.out]; exact ⟨rfl, 0, rfl⟩
        · obtain rfl : n = 1 := by omega
          obtain ⟨x, y, exy, hx, ea⟩ := a3 rfl
          subst ea
          have hsp := splitF_one (a := x) (b := y) (by rw [← exy]; exact a1.symm) hx
          rw [← exy] at hsp
          have hxs : s.size = x.length + 1 + y.length := by rw [← slen s, exy]; simp; omega
          have e1 := extract_left exy
          have e2 := extract_right exy
          obtain ⟨X, hX⟩ : ∃ X : ByteArray, (⟨x.toArray⟩ : ByteArray) = X := ⟨_, rfl⟩
          obtain ⟨Y, hY⟩ : ∃ Y : ByteArray, (⟨y.toArray⟩ : ByteArray) = Y := ⟨_, rfl⟩
          rw [hX] at e1
          rw [hY] at e2
          have hnm := fun W => checkName_any X W (by rw [← hX]; simp [ByteArray.size]; omega)
          have hho := fun W => refHost_any Y W (by rw [← hY]; simp [ByteArray.size]; omega)
          have eX : X.data.toList = x := by rw [← hX]
          have eY : Y.data.toList = y := by rw [← hY]
          rw [eX] at hnm
          rw [eY] at hho
          have HX := Lib.hid hX
          have HY := Lib.hid hY
          obtain ⟨q, hq⟩ : ∃ q, x.length = q := ⟨_, rfl⟩
          rw [hq] at hxs e1 e2
          have hyl : Hid (y.length = 0 ↔ y = []) := List.length_eq_zero_iff
          generalize hr : y.length = r at hxs hyl
          rw [hq]
          have hqs : (q : Int) ≤ (s.size : Int) := by omega
          have hqs1 : (q : Int) + 1 ≤ (s.size : Int) := by omega
          have Hxs := Lib.hid hxs
          clear ht a1 a2 a3 ha exy hx hX hY eX eY hq hr hxs
          by_cases hu : unameOK x = false
          · rw [if_pos hu] at hsp
            simp only [uname_err hu] at hnm
            have Hsp := Lib.hid hsp
            clear hsp hu hho
            go_wp2_with (go_at_call 17; refine (hnm _).mono ?_; rintro e w3 ⟨rfl, rfl⟩)
            go_ret3
            rw [Hsp.out]; exact ⟨rfl, 0, rfl⟩
          rw [if_neg hu] at hsp
          simp only [uname_zero (show unameOK x = true by simpa using hu)] at hnm
          clear hu
          by_cases hy : y = []
          · rw [if_pos hy] at hsp
            have hr0 : ((q : Int) + 1 == (s.size : Int)) = true := by
              have := hyl.out.2 hy
              have := Hxs.out
              simp; omega
            have Hsp := Lib.hid hsp
            clear hsp hho hy
            go_wp2_with (go_at_call 17; refine (hnm _).mono ?_; rintro e w3 ⟨rfl, rfl⟩)
            go_ret3
            rw [Hsp.out]; exact ⟨rfl, 0, rfl⟩
          rw [if_neg hy] at hsp
          have hr0 : ((q : Int) + 1 == (s.size : Int)) = false := by
            have := mt hyl.out.1 hy
            have := Hxs.out
            simp; omega
          clear hy
          obtain ⟨z, hz⟩ : ∃ z, hostE y = z := ⟨_, rfl⟩
          simp only [hz] at hho hsp
          clear hz
          by_cases hz0 : z = 0
          · subst hz0
            rw [if_neg (by simp)] at hsp
            have Hsp := Lib.hid hsp
            clear hsp
            go_wp2_with (first | (go_at_call 17; refine (hnm _).mono ?_; rintro e w3 ⟨rfl, rfl⟩) | (go_at_call 18; refine (hho _).mono ?_; rintro e w4 ⟨rfl, rfl⟩))
            go_quiet (fail)
            go_wp2
            go_ret3
            rw [Hsp.out]
            refine ⟨?_, _, rfl⟩
            simp only [splitVal, HX.out, HY.out]; rfl
          · have hz1 : (z != 0) = true := by simpa using hz0
            rw [if_pos hz0] at hsp
            have Hsp := Lib.hid hsp
            clear hsp
            go_wp2_with (first | (go_at_call 17; refine (hnm _).mono ?_; rintro e w3 ⟨rfl, rfl⟩) | (go_at_call 18; refine (hho _).mono ?_; rintro e w4 ⟨rfl, rfl⟩))
            go_ret3
            rw [Hsp.out]; exact ⟨rfl, 0, rfl⟩
end Go.Proofs.YtlaihnbappfbfaaGreatDoor
