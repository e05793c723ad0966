/- Walks of the reference of layer 4: what the kinds use. -/
import Derived.Test.YtedlfmjgbehgkaaGreatDoorObjW3
namespace Go.Proofs.YtedlfmjgbehgkaaGreatDoor
open Go.RowKit

def rMost (k : Nat) : Int := if uIndex k then uMost k else -1
theorem rMost_of {k : Nat} : (rMost k < 0) = (uIndex k = false) := by
  unfold rMost
  split
  · rename_i h; simp [h]
  · rename_i h; simp [h]
theorem uOwner_int (k : Int) : uOwner k.toNat = ((decide (1 ≤ k) && decide (k ≤ 12)) || k == 18 || k == 19) := by
  unfold uOwner
  rw [Bool.eq_iff_iff]; simp; omega
theorem uNumber_int (k : Int) : uNumber k.toNat = ((decide (7 ≤ k) && decide (k ≤ 13)) || k == 16 || k == 18) := by
  unfold uNumber
  rw [Bool.eq_iff_iff]; simp; omega
theorem uText_int (k : Int) : uText k.toNat = (k == 9 || k == 14 || k == 17) := by
  unfold uText
  rw [Bool.eq_iff_iff]; simp; omega
theorem rMost_int (k : Int) : rMost k.toNat = if k = 3 ∨ k = 8 then 63 else if k = 18 then 1073741824 else -1 := by
  unfold rMost uIndex uMost
  by_cases h1 : k = 3
  · subst h1; rfl
  by_cases h2 : k = 8
  · subst h2; rfl
  by_cases h3 : k = 18
  · subst h3; rfl
  rw [if_neg (by simp; omega), if_neg (by omega), if_neg h3]

theorem refOwned_any (k : Int) (w : World) :
    Calls Tryz.prog 24 #[.int .i64 k] w fun e w' => e = .returned (.bool (uOwner k.toNat)) ∧ w = w' := by
  rw [uOwner_int]
  have : (k < 1) ∨ (1 ≤ k ∧ k ≤ 12) ∨ k = 18 ∨ k = 19 ∨ (12 < k ∧ k ≠ 18 ∧ k ≠ 19) := by omega
  rcases this with h | ⟨h1, h2⟩ | rfl | rfl | ⟨h1, h2, h3⟩
  · have h1 : decide (1 ≤ k) = false := by simpa using h
    have h2 : (k == 18) = false := by simp; omega
    have h3 : (k == 19) = false := by simp; omega
    go_enter Tryz.func24, Tryz.ntmps24
    go_wp2
    go_ret
    first | simp; done | (simp; omega)
  · have h3 : decide (1 ≤ k) = true := by simpa using h1
    have h4 : decide (k ≤ 12) = true := by simpa using h2
    go_enter Tryz.func24, Tryz.ntmps24
    go_wp2
    go_ret
    first | simp; done | (simp; omega)
  · go_enter Tryz.func24, Tryz.ntmps24
    go_wp2
    go_ret
    first | simp; done | (simp; omega)
  · go_enter Tryz.func24, Tryz.ntmps24
    go_wp2
    go_ret
    first | simp; done | (simp; omega)
  · have b1 : decide (1 ≤ k) = true := by simp; omega
    have b2 : decide (k ≤ 12) = false := by simp; omega
    have b3 : (k == 18) = false := by simp; omega
    have b4 : (k == 19) = false := by simp; omega
    go_enter Tryz.func24, Tryz.ntmps24
    go_wp2
    go_ret
    first | simp; done | (simp; omega)

theorem refNumbered_any (k : Int) (w : World) :
    Calls Tryz.prog 26 #[.int .i64 k] w fun e w' => e = .returned (.bool (uNumber k.toNat)) ∧ w = w' := by
  rw [uNumber_int]
  have : (k < 7) ∨ (7 ≤ k ∧ k ≤ 13) ∨ k = 16 ∨ k = 18 ∨ (13 < k ∧ k ≠ 16 ∧ k ≠ 18) := by omega
  rcases this with h | ⟨h1, h2⟩ | rfl | rfl | ⟨h1, h2, h3⟩
  · have h1 : decide (7 ≤ k) = false := by simpa using h
    have h2 : (k == 16) = false := by simp; omega
    have h3 : (k == 18) = false := by simp; omega
    go_enter Tryz.func26, Tryz.ntmps26
    go_wp2
    go_ret
    first | simp; done | (simp; omega)
  · have h3 : decide (7 ≤ k) = true := by simpa using h1
    have h4 : decide (k ≤ 13) = true := by simpa using h2
    go_enter Tryz.func26, Tryz.ntmps26
    go_wp2
    go_ret
    first | simp; done | (simp; omega)
  · go_enter Tryz.func26, Tryz.ntmps26
    go_wp2
    go_ret
    first | simp; done | (simp; omega)
  · go_enter Tryz.func26, Tryz.ntmps26
    go_wp2
    go_ret
    first | simp; done | (simp; omega)
  · have b1 : decide (7 ≤ k) = true := by simp; omega
    have b2 : decide (k ≤ 13) = false := by simp; omega
    have b3 : (k == 16) = false := by simp; omega
    have b4 : (k == 18) = false := by simp; omega
    go_enter Tryz.func26, Tryz.ntmps26
    go_wp2
    go_ret
    first | simp; done | (simp; omega)

theorem refTexted_any (k : Int) (w : World) :
    Calls Tryz.prog 28 #[.int .i64 k] w fun e w' => e = .returned (.bool (uText k.toNat)) ∧ w = w' := by
  rw [uText_int]
  cases h1 : k == 9
  · cases h2 : k == 14
    · cases h3 : k == 17
      all_goals
        go_enter Tryz.func28, Tryz.ntmps28
        go_wp2
        go_ret
        first | simp; done | (simp; omega)
    · go_enter Tryz.func28, Tryz.ntmps28
      go_wp2
      go_ret
      first | simp; done | (simp; omega)
  · go_enter Tryz.func28, Tryz.ntmps28
    go_wp2
    go_ret
    first | simp; done | (simp; omega)

theorem refMost_any (k : Int) (w : World) :
    Calls Tryz.prog 27 #[.int .i64 k] w fun e w' => e = .returned (.int .i64 (rMost k.toNat)) ∧ w = w' := by
  have hr : Hid (rMost k.toNat = if k = 3 ∨ k = 8 then 63 else if k = 18 then 1073741824 else -1) := rMost_int k
  by_cases h1 : k = 3
  · subst h1
    go_enter Tryz.func27, Tryz.ntmps27
    go_wp2
    go_ret
    exact ⟨rfl, rfl⟩
  by_cases h2 : k = 8
  · subst h2
    go_enter Tryz.func27, Tryz.ntmps27
    go_wp2
    go_ret
    exact ⟨rfl, rfl⟩
  by_cases h3 : k = 18
  · subst h3
    go_enter Tryz.func27, Tryz.ntmps27
    go_wp2
    go_ret
    exact ⟨rfl, rfl⟩
  have hr2 : Hid (rMost k.toNat = -1) := by show _ = _; rw [hr.out, if_neg (by omega), if_neg h3]
  have b1 : (k == 3) = false := by simpa using h1
  have b2 : (k == 8) = false := by simpa using h2
  have b3 : (k == 18) = false := by simpa using h3
  clear h1 h2 h3 hr
  go_enter Tryz.func27, Tryz.ntmps27
  go_wp2
  go_ret
  rw [hr2.out]; exact ⟨rfl, rfl⟩
end Go.Proofs.YtedlfmjgbehgkaaGreatDoor
