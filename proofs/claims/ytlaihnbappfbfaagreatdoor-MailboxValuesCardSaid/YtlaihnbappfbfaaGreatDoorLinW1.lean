/- Walks of lineage: first. -/
import Derived.Test.YtlaihnbappfbfaaGreatDoorA3
import Derived.Test.YtlaihnbappfbfaaGreatDoorA1
import Derived.Deep.DeepCutAuto
import Derived.Deep.CutBlock
namespace Go.Proofs.YtlaihnbappfbfaaGreatDoor
open Go.RowKit

theorem sget (s : ByteArray) (k : Nat) (h : k < s.size) : s[k] = s.data.toList[k]'(by simpa using h) := rfl
theorem slen (s : ByteArray) : s.data.toList.length = s.size := Array.length_toList

/-- What first returns. -/
def firstVal (count at_ : Nat) (r : List UInt8) : Value :=
  .tuple #[.agg #[.int .i64 (if ordErr count r = 0 then dval (r.take (dcount 7 r)) else 0 : Nat), .int .i64 at_, .int .i64 (ordErr count r)], .int .i64 (if ordErr count r = 0 then at_ + dcount 7 r else at_ : Nat)]
theorem firstVal_err {count at_ : Nat} {r : List UInt8} {e : Int} (h : ordErr count r = e) (he : e ≠ 0) : firstVal count at_ r = .tuple #[.agg #[.int .i64 0, .int .i64 at_, .int .i64 e], .int .i64 at_] := by
  subst h; unfold firstVal; rw [if_neg he, if_neg he]; rfl
theorem firstVal_ok {count at_ k : Nat} {r : List UInt8} (h : ordErr count r = 0) (hk : dcount 7 r = k) : firstVal count at_ r = .tuple #[.agg #[.int .i64 (dval (r.take k)), .int .i64 at_, .int .i64 0], .int .i64 ((at_ : Int) + k)] := by
  subst hk; unfold firstVal; rw [if_pos h, if_pos h, h]; simp

set_option maxRecDepth 100000 in
set_option maxHeartbeats 2000000 in
/-- lineage.first. -/
theorem first_any (s : ByteArray) (at_ count : Nat) (w : World) (hs : s.size ≤ 1000000000000) (hat : at_ ≤ s.size) (hc : count ≤ 8) :
    Calls Tryz.prog 178 #[.string s, .int .i64 at_, .int .i64 count] w fun e w' => e = .returned (firstVal count at_ (s.data.toList.drop at_)) ∧ Mods [] w w' := by
  obtain ⟨r, hr⟩ : ∃ r, s.data.toList.drop at_ = r := ⟨_, rfl⟩
  have hrl : r.length = s.size - at_ := by rw [← hr, List.length_drop, slen]
  have hrg : ∀ k, (h : k < r.length) → (h2 : at_ + k < s.size) → s[at_ + k]'h2 = r[k] := fun k h h2 => by rw [sget]; simp [← hr]
  rw [hr]
  clear hr
  have Hrl := Lib.hid hrl
  have Hrg := Lib.hid hrg
  clear hrl hrg
  go_enter Tryz.func178, Tryz.ntmps178
  obtain ⟨w0, hw0⟩ : ∃ w0, w0 = w.alloc (.cells #[.int .i64 0, .int .i64 0, .int .i64 0] 227) := ⟨_, rfl⟩
  have Hw0 := Lib.hid hw0
  go_upto_block 0 with fail
  go_cut [8, 9] (fun e o wc => ∃ k : Nat, e = .int .i64 ((at_ : Int) + (k : Int)) ∧ o = .int .i64 (dval (r.take k)) ∧ Hid (dcount 7 r = k) ∧ Hid (wc = w0))
  case first =>
    go_wp2_with fail
    go_loop [8, 9] (fun e o => ∃ k : Nat, e = .int .i64 ((at_ : Int) + (k : Int)) ∧ o = .int .i64 (dval (r.take k)) ∧ k ≤ 7 ∧ at_ + k ≤ s.size ∧ Hid (dcount 7 r = k + dcount (7 - k) (r.drop k)) ∧ Hid (dval (r.take k) < 10 ^ k)) (fun e _ => (at_ + 7 - (intOf e).toNat))
    case atStart => exact ⟨0, by go_num, rfl, by omega, by omega, by simp [Hid], by simp [Hid, dval]⟩
    case round =>
      obtain ⟨k, rfl, rfl, hk7, hks, hd, hv⟩ := hrel
      by_cases h1 : at_ + k < s.size
      · by_cases h2 : k < 7
        · have hg := Hrg.out k (by have := Hrl.out; omega) h1
          have hkr : k < r.length := by have := Hrl.out; omega
          have hst := dcount_step 7 k r h2 hkr
          have hv2 : dval (r.take k) < 1000000 := Nat.lt_of_lt_of_le hv.out (Nat.pow_le_pow_right (n := 10) (by omega) (show k ≤ 6 by omega))
          rw [← hg] at hst
          by_cases h3 : isDig s[at_ + k] = true
          · have h3' := (isDig_iff _).1 h3
            rw [if_pos h3] at hst
            have hdv := dval_take r k hkr
            rw [← hg] at hdv
            have Hst := Lib.hid hst
            have Hg := Lib.hid hg
            have Hdv := Lib.hid hdv
            clear hst hg h3 hdv
            go_wp2
            go_round
            case rel => exact ⟨k + 1, by go_num, by rw [Hdv.out]; go_num, by omega, by omega, by have := hd.out; have := Hst.out; show _ = _; omega, by show _ < _; rw [Hdv.out, Nat.pow_succ]; have := hv.out; omega⟩
            case measure => simp [intOf] <;> omega
          · rw [if_neg h3] at hst
            have h3' : (s[at_ + k].toNat : Int) < 48 ∨ 57 < (s[at_ + k].toNat : Int) := by
              have := mt (isDig_iff _).2 h3
              omega
            have Hst := Lib.hid hst
            clear hst hg h3
            rcases h3' with h3' | h3'
            all_goals
              go_wp2
              go_meet
              exact ⟨k, rfl, rfl, by have := hd.out; have := Hst.out; show _ = _; omega, Hw0.out.symm⟩
        · have he := dcount_end 7 k r (.inl (by omega))
          have He := Lib.hid he
          clear he
          go_wp2
          go_meet
          exact ⟨k, rfl, rfl, by have := hd.out; have := He.out; show _ = _; omega, Hw0.out.symm⟩
      · have he := dcount_end 7 k r (.inr (by have := Hrl.out; omega))
        have He := Lib.hid he
        clear he
        go_wp2
        go_meet
        exact ⟨k, rfl, rfl, by have := hd.out; have := He.out; show _ = _; omega, Hw0.out.symm⟩
  case rest =>
    obtain ⟨k, rfl, rfl, hd, hw⟩ := hcut
    have hk7 : k ≤ 7 := by rw [← hd.out]; exact dcount_le 7 r
    have hkr : k ≤ s.size - at_ := by rw [← hd.out, ← Hrl.out]; exact dcount_le_length 7 r
    go_upto_block 2 with fail
    go_cut [10] (fun e wc => e = .int .i64 (ordErr count r) ∧ Hid (wc = w0))
    case first =>
      by_cases c1 : count = 8
      · have b1 : ((count : Int) == 8) = true := by simp [c1]
        have he : Hid (ordErr count r = 9) := by show _ = _; unfold ordErr; rw [if_pos c1]
        clear c1
        go_wp2
        go_meet
        exact ⟨by rw [he.out], hw⟩
      have b1 : ((count : Int) == 8) = false := by simp; omega
      by_cases c2 : at_ = s.size
      · have b2 : ((at_ : Int) == (s.size : Int)) = true := by simp [c2]
        have he : Hid (ordErr count r = 4) := by show _ = _; unfold ordErr; rw [if_neg c1, if_pos (List.eq_nil_of_length_eq_zero (by have := Hrl.out; omega))]
        clear c1 c2
        go_wp2
        go_meet
        exact ⟨by rw [he.out], hw⟩
      have b2 : ((at_ : Int) == (s.size : Int)) = false := by simp; omega
      have hrne : r ≠ [] := fun h => by have := Hrl.out; rw [h] at this; simp at this; omega
      have hat1 : at_ < s.size := by omega
      by_cases c3 : k = 0
      · have b3 : ((at_ : Int) + (k : Int) == (at_ : Int)) = true := by simp [c3]
        have he : Hid (ordErr count r = 6) := by show _ = _; unfold ordErr; rw [if_neg c1, if_neg hrne, if_pos (by rw [hd.out]; exact c3)]
        clear c1 c2 c3 hrne
        go_wp2
        go_meet
        exact ⟨by rw [he.out], hw⟩
      have b3 : ((at_ : Int) + (k : Int) == (at_ : Int)) = false := by simp; omega
      have hg : s[at_]'hat1 = r.getD 0 0 := by
        have := Hrg.out 0 (by have := Hrl.out; omega) (by omega)
        rw [List.getD_eq_getElem?_getD, List.getElem?_eq_getElem (by have := Hrl.out; omega)]
        simpa using this
      by_cases c4 : s[at_]'hat1 = 48
      · have b4 : ((s[at_]'hat1).toNat : Int) = 48 := by rw [c4]; rfl
        have b4' : (((s[at_]'hat1).toNat : Int) == 48) = true := by simp [b4]
        have he : Hid (ordErr count r = 3) := by show _ = _; unfold ordErr; rw [if_neg c1, if_neg hrne, if_neg (by rw [hd.out]; exact c3), if_pos (by rw [← hg]; exact c4)]
        clear c1 c2 c3 hrne hg c4 b4
        go_wp2
        go_meet
        exact ⟨by rw [he.out], hw⟩
      have b4' : (((s[at_]'hat1).toNat : Int) == 48) = false := by
        simp only [beq_eq_false_iff_ne, ne_eq]
        intro e
        exact c4 (UInt8.toNat_inj.1 (by simpa using (show (s[at_]'hat1).toNat = 48 by omega)))
      by_cases c5 : 6 < k
      · have he : Hid (ordErr count r = 2) := by show _ = _; unfold ordErr; rw [if_neg c1, if_neg hrne, if_neg (by rw [hd.out]; exact c3), if_neg (by rw [← hg]; exact c4), if_pos (by rw [hd.out]; exact c5)]
        clear c1 c2 c3 hrne hg c4
        go_wp2
        go_meet
        exact ⟨by rw [he.out], hw⟩
      · have he : Hid (ordErr count r = 0) := by show _ = _; unfold ordErr; rw [if_neg c1, if_neg hrne, if_neg (by rw [hd.out]; exact c3), if_neg (by rw [← hg]; exact c4), if_neg (by rw [hd.out]; exact c5)]
        clear c1 c2 c3 hrne hg c4
        go_wp2
        go_meet
        exact ⟨by rw [he.out], hw⟩
    case rest =>
      obtain ⟨rfl, hw2⟩ := hcut
      have hw3 := hw2.out
      rw [hw0] at hw3
      subst hw3
      clear hw hw2 Hw0 hw0
      by_cases he : ordErr count r = 0
      · have b1 : (ordErr count r == 0) = true := by simpa using he
        have b2 : (ordErr count r != 0) = false := by simpa using he
        have hv := firstVal_ok (at_ := at_) he hd.out
        have Hv := Lib.hid hv
        clear he hv
        go_wp2
        refine bodyPost_ret (v := .tuple #[.agg #[.int .i64 (dval (r.take k)), .int .i64 at_, .int .i64 0], .int .i64 ((at_ : Int) + k)]) (by simp [results, Tryz.results178, go_sem]) rfl ⟨by rw [Hv.out], ?_⟩
        exact (Mods.refl [] w).alloc _
      · have b1 : (ordErr count r == 0) = false := by simpa using he
        have b2 : (ordErr count r != 0) = true := by simpa using he
        have hv := firstVal_err (at_ := at_) (count := count) (r := r) rfl he
        have Hv := Lib.hid hv
        clear he hv
        go_wp2
        refine bodyPost_ret (v := .tuple #[.agg #[.int .i64 0, .int .i64 at_, .int .i64 (ordErr count r)], .int .i64 at_]) (by simp [results, Tryz.results178, go_sem]) rfl ⟨by rw [Hv.out], ?_⟩
        exact (Mods.refl [] w).alloc _
end Go.Proofs.YtlaihnbappfbfaaGreatDoor
