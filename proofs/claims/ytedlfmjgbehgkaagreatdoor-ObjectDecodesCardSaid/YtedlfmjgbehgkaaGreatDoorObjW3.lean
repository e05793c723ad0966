/- Walks of object: Check of a name, by the table. -/
import Derived.Test.YtedlfmjgbehgkaaGreatDoorObjW2
namespace Go.Proofs.YtedlfmjgbehgkaaGreatDoor
open Go.RowKit

theorem checkV_bad {n : NameV} (h : ¬ (1 ≤ n.kind ∧ n.kind ≤ 20)) : checkV n = 11 := by unfold checkV; rw [if_pos h]
theorem checkV_core {k : Nat} (hk1 : 1 ≤ k) (hk2 : k ≤ 20) (o : List UInt8) (n i : Int) (t : List UInt8) :
    checkV ⟨k, o, n, i, t⟩ = checkB (uOwner k) (uNumber k) (uIndex k) (uText k) (uMost k) o n i t := by
  unfold checkV checkB
  rw [if_neg (by simp; omega)]
  simp only [Int.toNat_natCast]
theorem Usages.row {w : World} (h : Usages w) (k : Nat) (hk : k < 21) :
    w.cell? ⟨0, k * 6, none⟩ = some (.string ⟨(uWord k).toArray⟩) ∧ w.cell? ⟨0, k * 6 + 1, none⟩ = some (.bool (uOwner k)) ∧ w.cell? ⟨0, k * 6 + 2, none⟩ = some (.bool (uNumber k)) ∧
    w.cell? ⟨0, k * 6 + 3, none⟩ = some (.bool (uIndex k)) ∧ w.cell? ⟨0, k * 6 + 4, none⟩ = some (.bool (uText k)) ∧ w.cell? ⟨0, k * 6 + 5, none⟩ = some (.int .i64 (uMost k)) :=
  ⟨h k 0 hk (by omega), h k 1 hk (by omega), h k 2 hk (by omega), h k 3 hk (by omega), h k 4 hk (by omega), h k 5 hk (by omega)⟩

theorem check_any (k : Int) (o t : ByteArray) (n i : Int) (w : World) (hu : Usages w) (ho : o.size ≤ 1000000000) (ht : t.size ≤ 1000000000) :
    Calls Tryz.prog 22 #[nameVal k o n i t] w (CheckPost (checkV ⟨k, o.data.toList, n, i, t.data.toList⟩) w) := by
  by_cases hk : 1 ≤ k ∧ k ≤ 20
  · obtain ⟨k, rfl⟩ := Int.eq_ofNat_of_zero_le (show 0 ≤ k by omega)
    obtain ⟨h0, h1, h2, h3, h4, h5⟩ := hu.row k (by omega)
    rw [checkV_core (by omega) (by omega)]
    exact check_core k o t n i w (by omega) (by omega) ho ht _ _ _ _ _ _ h0 h1 h2 h3 h4 h5
  · rw [checkV_bad hk]
    have hk' : k < 1 ∨ 20 < k := by omega
    unfold nameVal
    clear hk
    rcases hk' with h | h
    · have b1 : decide (1 ≤ k) = false := by simp; omega
      go_enter Tryz.func22, Tryz.ntmps22
      go_wp2_with (go_at_call 41; go_in)
      go_ret
      exact ⟨rfl, (Mods.refl [] w).alloc _⟩
    · have b1 : decide (1 ≤ k) = true := by simp; omega
      have b2 : decide (k ≤ 20) = false := by simp; omega
      go_enter Tryz.func22, Tryz.ntmps22
      go_wp2_with (go_at_call 41; go_in)
      go_ret
      exact ⟨rfl, (Mods.refl [] w).alloc _⟩
end Go.Proofs.YtedlfmjgbehgkaaGreatDoor
