/- Walks: user.CheckName; the hosts of addresses. Walks: the hosts of addresses, in the package and in the model. -/
import Derived.Test.YtlaihnbappfbfaaGreatDoorA4
import Derived.Test.YtlaihnbappfbfaaGreatDoorA5
namespace Go.Proofs.YtlaihnbappfbfaaGreatDoor
open Go.RowKit

theorem headD_get (l : List UInt8) (h : 0 < l.length) : l.headD 0 = l[0] := by
  cases l with
  | nil => simp at h
  | cons c l => rfl

set_option maxRecDepth 100000 in
set_option maxHeartbeats 1000000 in
theorem checkName_any (s : ByteArray) (w : World) (hs : s.size ≤ 1000000000000) :
    Calls Tryz.prog 17 #[.string s] w fun e w' => e = .returned (.int .i64 (uname s.data.toList)) ∧ w = w' := by
  have hsl := slen s
  by_cases h0 : s.data.toList = []
  · have hw : Hid (uname s.data.toList = 12) := uname_err (by simp [unameOK, h0])
    have h1 : s.toList = [] := by rw [ByteArray.toList_eq]; exact h0
    clear h0 hsl
    go_enter Tryz.func17, Tryz.ntmps17
    go_wp2
    go_ret
    rw [hw.out]; exact ⟨rfl, rfl⟩
  have h1 : s.toList ≠ [] := by rw [ByteArray.toList_eq]; exact h0
  have h1' : s.toList.isEmpty = false := by simpa using h1
  by_cases h2 : 16 < s.size
  · have hw : Hid (uname s.data.toList = 12) := uname_err (by simp [unameOK, hsl]; omega)
    have h2' : (16 : Int) < (s.size : Int) := by omega
    clear h0 hsl h1
    go_enter Tryz.func17, Tryz.ntmps17
    go_wp2
    go_ret
    rw [hw.out]; exact ⟨rfl, rfl⟩
  have h2' : ¬ (16 : Int) < (s.size : Int) := by omega
  have h2'' : decide ((16 : Int) < (s.size : Int)) = false := by simpa using h2'
  have hpos : 0 < s.size := by
    rcases Nat.eq_zero_or_pos s.size with h | h
    · rw [← hsl] at h; exact absurd (List.eq_nil_of_length_eq_zero h) h0
    · exact h
  have hhd : s.data.toList.headD 0 = s[0]'hpos := by
    rw [sget]; exact headD_get _ (by rw [hsl]; exact hpos)
  by_cases h3 : isLow (s[0]'hpos) = true
  · have hw : Hid (uname s.data.toList = if s.data.toList.all isLD then 0 else 12) := by
      show _ = _
      have : unameOK s.data.toList = s.data.toList.all isLD := by
        simp only [unameOK, hhd, h3]; simp [h0, hsl]; omega
      unfold uname; rw [this]
    obtain ⟨l1, l2⟩ := (isLow_iff _).1 h3
    have l1' : ¬ ((s[0]'hpos).toNat : Int) < 97 := by omega
    have l2' : ¬ (122 : Int) < ((s[0]'hpos).toNat : Int) := by omega
    have Hsl := Lib.hid hsl
    clear h0 hsl h1 h3 hhd l1 l2
    go_enter Tryz.func17, Tryz.ntmps17
    go_wp2
    go_loop [3, 4, 24] (fun _ _ i => ∃ k : Nat, i = .int .i64 k ∧ k ≤ s.size ∧ Hid (s.data.toList.all isLD = (s.data.toList.drop k).all isLD)) (fun _ _ i => s.size - (intOf i).toNat)
    case atStart => exact ⟨0, rfl, by omega, rfl⟩
    case round =>
      obtain ⟨k, rfl, hk, ha⟩ := hrel
      by_cases hlt : k < s.size
      · have hd : s.data.toList.drop k = s[k]'hlt :: s.data.toList.drop (k + 1) := by rw [sget]; exact List.drop_eq_getElem_cons (by rw [Hsl.out]; exact hlt)
        by_cases hb : isLD (s[k]'hlt) = true
        · have hb' := (isLD_iff _).1 hb
          have ha' : Hid (s.data.toList.all isLD = (s.data.toList.drop (k + 1)).all isLD) := by
            show _ = _
            rw [ha.out, hd, List.all_cons, hb]; simp
          have hb3 : (¬ ((s[k]'hlt).toNat : Int) < 97 ∧ ¬ (122 : Int) < ((s[k]'hlt).toNat : Int)) ∨ (((s[k]'hlt).toNat : Int) < 97 ∧ ¬ ((s[k]'hlt).toNat : Int) < 48 ∧ ¬ (57 : Int) < ((s[k]'hlt).toNat : Int)) := by omega
          clear hd hb hb'
          rcases hb3 with ⟨c1, c2⟩ | ⟨c1, c2, c3⟩
          all_goals
            go_wp2
            go_round
            case rel => exact ⟨k + 1, by go_num, by omega, ha'⟩
            case measure => simp [intOf] <;> omega
        · have ha' : Hid (s.data.toList.all isLD = false) := by
            show _ = _
            rw [ha.out, hd, List.all_cons]
            simp [hb]
          have hb' := mt (isLD_iff _).2 hb
          have hb3 : (((s[k]'hlt).toNat : Int) < 97 ∧ ((s[k]'hlt).toNat : Int) < 48) ∨ (((s[k]'hlt).toNat : Int) < 97 ∧ ¬ ((s[k]'hlt).toNat : Int) < 48 ∧ (57 : Int) < ((s[k]'hlt).toNat : Int)) ∨ (¬ ((s[k]'hlt).toNat : Int) < 97 ∧ (122 : Int) < ((s[k]'hlt).toNat : Int) ∧ ¬ ((s[k]'hlt).toNat : Int) < 48 ∧ (57 : Int) < ((s[k]'hlt).toNat : Int)) := by
            omega
          clear hd hb hb'
          rcases hb3 with ⟨c1, c2⟩ | ⟨c1, c2, c3⟩ | ⟨c1, c2, c3, c4⟩
          all_goals
            go_wp2
            go_ret
            rw [hw.out, ha'.out]; exact ⟨rfl, rfl⟩
      · have ha' : Hid (s.data.toList.all isLD = true) := by
          show _ = _
          rw [ha.out, List.drop_eq_nil_of_le (by rw [Hsl.out]; omega)]; rfl
        go_wp2
        go_ret
        rw [hw.out, ha'.out]; exact ⟨rfl, rfl⟩
  · have hw : Hid (uname s.data.toList = 12) := uname_err (by simp only [unameOK, hhd]; simp [h3])
    have h3' := mt (isLow_iff _).2 h3
    have hb3 : ((s[0]'hpos).toNat : Int) < 97 ∨ (¬ ((s[0]'hpos).toNat : Int) < 97 ∧ (122 : Int) < ((s[0]'hpos).toNat : Int)) := by omega
    clear h0 hsl h1 h3 hhd h3'
    rcases hb3 with c1 | ⟨c1, c2⟩
    all_goals
      go_enter Tryz.func17, Tryz.ntmps17
      go_wp2
      go_ret
      rw [hw.out]; exact ⟨rfl, rfl⟩
end Go.Proofs.YtlaihnbappfbfaaGreatDoor

namespace Go.Proofs.YtlaihnbappfbfaaGreatDoor
open Go.RowKit

set_option maxRecDepth 100000 in
set_option maxHeartbeats 1000000 in
theorem checkHost_any (s : ByteArray) (w : World) (hs : s.size ≤ 1000000000000) :
    Calls Tryz.prog 48 #[.string s] w fun e w' => e = .returned (.int .i64 (hostE s.data.toList)) ∧ w = w' := by
  have hsl := slen s
  by_cases h2 : 32 < s.size
  · have hw : Hid (hostE s.data.toList = 5) := by show _ = _; unfold hostE; rw [if_pos (by rw [hsl]; exact h2)]
    have h2' : (32 : Int) < (s.size : Int) := by omega
    clear hsl
    go_enter Tryz.func48, Tryz.ntmps48
    go_wp2
    go_ret
    rw [hw.out]; exact ⟨rfl, rfl⟩
  have h2' : ¬ (32 : Int) < (s.size : Int) := by omega
  have hw : Hid (hostE s.data.toList = if s.data.toList.all hostByte then 0 else 6) := by
    show _ = _
    unfold hostE; rw [if_neg (by rw [hsl]; omega)]
  have Hsl := Lib.hid hsl
  clear hsl
  go_enter Tryz.func48, Tryz.ntmps48
  go_wp2
  go_loop [3, 4, 10] (fun _ _ i => ∃ k : Nat, i = .int .i64 k ∧ k ≤ s.size ∧ Hid (s.data.toList.all hostByte = (s.data.toList.drop k).all hostByte)) (fun _ _ i => s.size - (intOf i).toNat)
  case atStart => exact ⟨0, rfl, by omega, rfl⟩
  case round =>
    obtain ⟨k, rfl, hk, ha⟩ := hrel
    by_cases hlt : k < s.size
    · have hd : s.data.toList.drop k = s[k]'hlt :: s.data.toList.drop (k + 1) := by rw [sget]; exact List.drop_eq_getElem_cons (by rw [Hsl.out]; exact hlt)
      by_cases hb : hostByte (s[k]'hlt) = true
      · have hb' := (hostByte_iff _).1 hb
        have ha' : Hid (s.data.toList.all hostByte = (s.data.toList.drop (k + 1)).all hostByte) := by
          show _ = _
          rw [ha.out, hd, List.all_cons, hb]; simp
        have hb3 : ((97 : Int) ≤ ((s[k]'hlt).toNat : Int) ∧ ((s[k]'hlt).toNat : Int) ≤ 122) ∨ (¬ (97 : Int) ≤ ((s[k]'hlt).toNat : Int) ∧ (48 : Int) ≤ ((s[k]'hlt).toNat : Int) ∧ ((s[k]'hlt).toNat : Int) ≤ 57) ∨
            (¬ (97 : Int) ≤ ((s[k]'hlt).toNat : Int) ∧ ¬ (48 : Int) ≤ ((s[k]'hlt).toNat : Int) ∧ (((s[k]'hlt).toNat : Int) == 45) = true) ∨ (¬ (97 : Int) ≤ ((s[k]'hlt).toNat : Int) ∧ ¬ (48 : Int) ≤ ((s[k]'hlt).toNat : Int) ∧ (((s[k]'hlt).toNat : Int) == 45) = false ∧ (((s[k]'hlt).toNat : Int) == 46) = true) := by
          simp only [beq_iff_eq, beq_eq_false_iff_ne]; omega
        clear hd hb hb'
        rcases hb3 with ⟨c1, c2⟩ | ⟨c1, c2, c3⟩ | ⟨c1, c2, c3⟩ | ⟨c1, c2, c3, c4⟩
        all_goals
          go_wp2
          go_round
          case rel => exact ⟨k + 1, by go_num, by omega, ha'⟩
          case measure => simp [intOf] <;> omega
      · have ha' : Hid (s.data.toList.all hostByte = false) := by
          show _ = _
          rw [ha.out, hd, List.all_cons]
          simp [hb]
        have hb' := mt (hostByte_iff _).2 hb
        have hb3 : ((97 : Int) ≤ ((s[k]'hlt).toNat : Int) ∧ ¬ ((s[k]'hlt).toNat : Int) ≤ 122 ∧ (48 : Int) ≤ ((s[k]'hlt).toNat : Int) ∧ ¬ ((s[k]'hlt).toNat : Int) ≤ 57 ∧ (((s[k]'hlt).toNat : Int) == 45) = false ∧ (((s[k]'hlt).toNat : Int) == 46) = false) ∨
            (¬ (97 : Int) ≤ ((s[k]'hlt).toNat : Int) ∧ (48 : Int) ≤ ((s[k]'hlt).toNat : Int) ∧ ¬ ((s[k]'hlt).toNat : Int) ≤ 57 ∧ (((s[k]'hlt).toNat : Int) == 45) = false ∧ (((s[k]'hlt).toNat : Int) == 46) = false) ∨
            (¬ (97 : Int) ≤ ((s[k]'hlt).toNat : Int) ∧ ¬ (48 : Int) ≤ ((s[k]'hlt).toNat : Int) ∧ (((s[k]'hlt).toNat : Int) == 45) = false ∧ (((s[k]'hlt).toNat : Int) == 46) = false) := by
          simp only [beq_eq_false_iff_ne]; omega
        clear hd hb hb'
        rcases hb3 with ⟨c1, c2, c3, c4, c5, c6⟩ | ⟨c1, c3, c4, c5, c6⟩ | ⟨c1, c3, c5, c6⟩
        all_goals
          go_wp2
          go_ret
          rw [hw.out, ha'.out]; exact ⟨rfl, rfl⟩
    · have ha' : Hid (s.data.toList.all hostByte = true) := by
        show _ = _
        rw [ha.out, List.drop_eq_nil_of_le (by rw [Hsl.out]; omega)]; rfl
      go_wp2
      go_ret
      rw [hw.out, ha'.out]; exact ⟨rfl, rfl⟩

set_option maxRecDepth 100000 in
set_option maxHeartbeats 1000000 in
theorem refHost_any (s : ByteArray) (w : World) (hs : s.size ≤ 1000000000000) :
    Calls Tryz.prog 18 #[.string s] w fun e w' => e = .returned (.int .i64 (hostE s.data.toList)) ∧ w = w' := by
  have hsl := slen s
  by_cases h2 : 32 < s.size
  · have hw : Hid (hostE s.data.toList = 5) := by show _ = _; unfold hostE; rw [if_pos (by rw [hsl]; exact h2)]
    have h2' : (32 : Int) < (s.size : Int) := by omega
    clear hsl
    go_enter Tryz.func18, Tryz.ntmps18
    go_wp2
    go_ret
    rw [hw.out]; exact ⟨rfl, rfl⟩
  have h2' : ¬ (32 : Int) < (s.size : Int) := by omega
  have hw : Hid (hostE s.data.toList = if s.data.toList.all hostByte then 0 else 6) := by
    show _ = _
    unfold hostE; rw [if_neg (by rw [hsl]; omega)]
  have Hsl := Lib.hid hsl
  clear hsl
  go_enter Tryz.func18, Tryz.ntmps18
  go_wp2
  go_loop [3, 4] (fun i _ => ∃ k : Nat, i = .int .i64 k ∧ k ≤ s.size ∧ Hid (s.data.toList.all hostByte = (s.data.toList.drop k).all hostByte)) (fun i _ => s.size - (intOf i).toNat)
  case atStart => exact ⟨0, rfl, by omega, rfl⟩
  case round =>
    obtain ⟨k, rfl, hk, ha⟩ := hrel
    by_cases hlt : k < s.size
    · have hd : s.data.toList.drop k = s[k]'hlt :: s.data.toList.drop (k + 1) := by rw [sget]; exact List.drop_eq_getElem_cons (by rw [Hsl.out]; exact hlt)
      by_cases hb : hostByte (s[k]'hlt) = true
      · have hb' := (hostByte_iff _).1 hb
        have ha' : Hid (s.data.toList.all hostByte = (s.data.toList.drop (k + 1)).all hostByte) := by
          show _ = _
          rw [ha.out, hd, List.all_cons, hb]; simp
        have hb3 : ((97 : Int) ≤ ((s[k]'hlt).toNat : Int) ∧ ((s[k]'hlt).toNat : Int) ≤ 122) ∨ (¬ (97 : Int) ≤ ((s[k]'hlt).toNat : Int) ∧ (48 : Int) ≤ ((s[k]'hlt).toNat : Int) ∧ ((s[k]'hlt).toNat : Int) ≤ 57) ∨
            (¬ (97 : Int) ≤ ((s[k]'hlt).toNat : Int) ∧ ¬ (48 : Int) ≤ ((s[k]'hlt).toNat : Int) ∧ (((s[k]'hlt).toNat : Int) != 45) = false) ∨ (¬ (97 : Int) ≤ ((s[k]'hlt).toNat : Int) ∧ ¬ (48 : Int) ≤ ((s[k]'hlt).toNat : Int) ∧ (((s[k]'hlt).toNat : Int) != 45) = true ∧ (((s[k]'hlt).toNat : Int) != 46) = false) := by
          simp only [bne_eq_false_iff_eq, bne_iff_ne, ne_eq]; omega
        clear hd hb hb'
        rcases hb3 with ⟨c1, c2⟩ | ⟨c1, c2, c3⟩ | ⟨c1, c2, c3⟩ | ⟨c1, c2, c3, c4⟩
        all_goals
          go_wp2
          go_round
          case rel => exact ⟨k + 1, by go_num, by omega, ha'⟩
          case measure => simp [intOf] <;> omega
      · have ha' : Hid (s.data.toList.all hostByte = false) := by
          show _ = _
          rw [ha.out, hd, List.all_cons]
          simp [hb]
        have hb' := mt (hostByte_iff _).2 hb
        have hb3 : ((97 : Int) ≤ ((s[k]'hlt).toNat : Int) ∧ ¬ ((s[k]'hlt).toNat : Int) ≤ 122 ∧ (48 : Int) ≤ ((s[k]'hlt).toNat : Int) ∧ ¬ ((s[k]'hlt).toNat : Int) ≤ 57 ∧ (((s[k]'hlt).toNat : Int) != 45) = true ∧ (((s[k]'hlt).toNat : Int) != 46) = true) ∨
            (¬ (97 : Int) ≤ ((s[k]'hlt).toNat : Int) ∧ (48 : Int) ≤ ((s[k]'hlt).toNat : Int) ∧ ¬ ((s[k]'hlt).toNat : Int) ≤ 57 ∧ (((s[k]'hlt).toNat : Int) != 45) = true ∧ (((s[k]'hlt).toNat : Int) != 46) = true) ∨
            (¬ (97 : Int) ≤ ((s[k]'hlt).toNat : Int) ∧ ¬ (48 : Int) ≤ ((s[k]'hlt).toNat : Int) ∧ (((s[k]'hlt).toNat : Int) != 45) = true ∧ (((s[k]'hlt).toNat : Int) != 46) = true) := by
          simp only [bne_iff_ne, ne_eq]; omega
        clear hd hb hb'
        rcases hb3 with ⟨c1, c2, c3, c4, c5, c6⟩ | ⟨c1, c3, c4, c5, c6⟩ | ⟨c1, c3, c5, c6⟩
        all_goals
          go_wp2
          go_ret
          rw [hw.out, ha'.out]; exact ⟨rfl, rfl⟩
    · have ha' : Hid (s.data.toList.all hostByte = true) := by
        show _ = _
        rw [ha.out, List.drop_eq_nil_of_le (by rw [Hsl.out]; omega)]; rfl
      go_wp2
      go_ret
      rw [hw.out, ha'.out]; exact ⟨rfl, rfl⟩
end Go.Proofs.YtlaihnbappfbfaaGreatDoor
