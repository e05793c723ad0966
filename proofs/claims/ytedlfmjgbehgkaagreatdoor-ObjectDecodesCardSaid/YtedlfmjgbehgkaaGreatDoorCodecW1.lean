/- Walks of codec: parseNatural and Parse read the number at the head of a byte slice. -/
import Derived.Test.YtedlfmjgbehgkaaGreatDoorBase
import Derived.Test.YtedlfmjgbehgkaaGreatDoorCodecP
import Derived.Test.YtedlfmjgbehgkaaGreatDoorProg
namespace Go.Proofs.YtedlfmjgbehgkaaGreatDoor
open Go.RowKit

theorem bits_and_127 (c : UInt8) : bits .and .u8 (c.toNat : Int) 127 = ((c.toNat % 128 : Nat) : Int) := by
  have := bits_mask .u8 8 (by decide) (fun n h0 h1 => IntWalk.u8_in n ⟨h0, by omega⟩) 7 (by decide) (c.toNat : Int) (by omega) (by have := c.toNat_lt; omega)
  simpa using this
theorem bits_or_low (a b : Nat) (ha : a * 128 < 18446744073709551616) (hb : b < 128) : bits .or .u64 ((a : Int) * 128) (b : Int) = ((b + 128 * a : Nat) : Int) := by
  have := bits_join .u64 64 (by decide) (fun n h0 h1 => IntWalk.u64_in n ⟨h0, by omega⟩) 7 ((a : Int) * 128) (b : Int) (by omega) (by omega) (by omega) (by omega) (by omega) (by omega)
  rw [this]; omega
theorem val_step (l : List UInt8) (k j : Nat) (hj : j ≤ k) (hk : k < l.length) : val ((l.drop j).take (k + 1 - j)) = (l[j]'(by omega)).toNat % 128 + 128 * val ((l.drop (j + 1)).take (k - j)) := by
  rw [List.drop_eq_getElem_cons (by omega), show k + 1 - j = (k - j) + 1 by omega, List.take_succ_cons]
  rfl

set_option maxRecDepth 100000 in
set_option maxHeartbeats 1000000 in
theorem parseNatural_one (l : List UInt8) (p : Option Addr) (cap : Nat) (w : World) (hl : l.length ≤ maxLen)
    (hb : l = [] ∨ ∃ b off, p = some ⟨b, off, none⟩ ∧ ∀ i, (h : i < l.length) → w.cell? ⟨b, off + i, none⟩ = some (.int .u8 l[i].toNat)) :
    Calls Tryz.prog 73 #[.slice p l.length cap, .int .i64 9] w fun e w' => e = .returned (.tuple #[.int .u64 (parse9 l).1, .int .i64 (parse9 l).2.1, .int .i64 (parse9 l).2.2]) ∧ w = w' := by
  obtain ⟨b, off, hp, hc⟩ : ∃ b off, (0 < l.length → p = some ⟨b, off, none⟩) ∧ ∀ i, (h : i < l.length) → w.cell? ⟨b, off + i, none⟩ = some (.int .u8 l[i].toNat) := by
    rcases hb with rfl | ⟨b, off, hp, hc⟩
    · exact ⟨0, 0, by simp, by simp⟩
    · exact ⟨b, off, fun _ => hp, hc⟩
  unfold maxLen at hl
  clear hb
  have hc0 := Lib.hid hc; clear hc
  have hp0 := Lib.hid hp; clear hp
  go_enter Tryz.func73, Tryz.ntmps73
  go_wp2
  go_loop [7] (fun i => ∃ k : Nat, i = .int .i64 k ∧ k ≤ 9 ∧ k ≤ l.length ∧ Hid (ext 9 l = k + ext (9 - k) (l.drop k))) (fun i => 9 - (intOf i).toNat)
  case atStart => exact ⟨0, rfl, by omega, by omega, by simp [Hid]⟩
  case round =>
    obtain ⟨k, rfl, hk9, hkl, hext⟩ := hrel
    by_cases h1 : k < l.length
    · by_cases h2 : k < 9
      · have hck := hc0.out k h1
        have hpk := hp0.out (by omega)
        subst hpk
        go_wp2
        · have hbig : 128 ≤ (l[k].toNat : Int) := by assumption
          go_roundw
          case rel => exact ⟨k + 1, by go_num, by omega, by omega, by
            have := hext.out
            rw [ext_step 9 k l h2 h1, if_pos (by omega)] at this
            show ext 9 l = k + 1 + ext (9 - (k + 1)) (l.drop (k + 1))
            omega⟩
          case measure => simp [intOf] <;> omega
        · have hz : (l[k].toNat : Int) < 128 := by assumption
          have hz0 : ((l[k].toNat : Int) == 0) = true := by assumption
          have hkpos : 0 < k := by assumption
          have he : ext 9 l = k := by
            have := hext.out
            rw [ext_step 9 k l h2 h1, if_neg (by omega)] at this
            omega
          have hp9 : Hid (parse9 l = (0, 0, 3)) := by
            exact parse9_zero he h2 h1 (by assumption) (by simpa using hz0)
          go_ret3
          rw [hp9.out]
          exact ⟨rfl, rfl⟩
        all_goals
          have hz : (l[k].toNat : Int) < 128 := by assumption
          have he : ext 9 l = k := by
            have := hext.out
            rw [ext_step 9 k l h2 h1, if_neg (by omega)] at this
            omega
          have h0 : k = 0 ∨ l[k].toNat ≠ 0 := by
            first
              | (left; omega)
              | (right; have a3 : ((l[k].toNat : Int) == 0) = false := by assumption
                 intro a2; rw [a2] at a3; simp at a3)
          have hp9 : Hid (parse9 l = (val (l.take (k + 1)), k + 1, 0)) := by
            exact parse9_good he h2 h1 h0
          clear he h0
          go_loop [8, 9] (fun u i => ∃ j : Int, -1 ≤ j ∧ j ≤ (k : Int) ∧ i = .int .i64 j ∧ u = .int .u64 (val ((l.drop (j + 1).toNat).take (k + 1 - (j+1).toNat)))) (fun _ i => (intOf i + 1).toNat)
          case atStart => exact ⟨k, by omega, by omega, rfl, by simp [val]⟩
          case round =>
            obtain ⟨j, hj1, hj2, rfl, rfl⟩ := hrel
            by_cases hj : j = -1
            · subst hj
              go_wp2
              go_ret3
              rw [hp9.out]
              exact ⟨by simp, rfl⟩
            · obtain ⟨j, rfl⟩ := Int.eq_ofNat_of_zero_le (show 0 ≤ j by omega)
              have hcj := hc0.out j (by omega)
              go_wp2
              have hv := val_lt ((l.drop (j + 1)).take (k - j))
              have hle : ((l.drop (j + 1)).take (k - j)).length ≤ 8 := by simp; omega
              have hv2 := Nat.pow_le_pow_right (n := 128) (by omega) hle
              have e8 : (128 : Nat) ^ 8 = 72057594037927936 := by decide
              have e1 : IntKind.u64.wrap ((val (List.take (k - j) (List.drop (j + 1) l)) : Int) * 128) = (val (List.take (k - j) (List.drop (j + 1) l)) : Int) * 128 := IntWalk.u64_in _ (by omega)
              have e2 : IntKind.u64.wrap ((l[j].toNat % 128 : Nat) : Int) = ((l[j].toNat % 128 : Nat) : Int) := IntWalk.u64_in _ (by omega)
              go_roundw
              case rel => exact ⟨(j : Int) - 1, by omega, by omega, rfl, by
                rw [bits_and_127, e1, e2, bits_or_low _ _ (by omega) (by omega), show ((j : Int) - 1 + 1).toNat = j by omega, val_step l k j (by omega) h1]⟩
              case measure => simp [intOf] <;> omega
      · have h9 : k = 9 := by omega
        subst h9
        have hp9 : Hid (parse9 l = (0, 0, 3)) := by
          exact parse9_nine (by have := hext.out; have := ext_le 9 l; omega)
        go_wp2
        go_ret3
        rw [hp9.out]
        exact ⟨rfl, rfl⟩
    · have he : ext 9 l = k := by
        have := hext.out
        rw [ext_end 9 k l (.inr (by omega))] at this
        omega
      have hkl : k = l.length := by omega
      by_cases h9 : k = 9
      · have hp9 : Hid (parse9 l = (0, 0, 3)) := by
          exact parse9_nine (by omega)
        have h9' : ((k : Int) == 9) = true := by simp [h9]
        clear he hkl
        go_wp2
        go_ret3
        rw [hp9.out]
        exact ⟨rfl, rfl⟩
      · have hp9 : Hid (parse9 l = (0, 0, 28)) := by
          exact parse9_short (by omega) (by omega)
        have h9' : ((k : Int) == 9) = false := by simp; omega
        have h9l : ((k : Int) == (l.length : Int)) = true := by simp; omega
        clear he hkl
        go_wp2
        go_ret3
        rw [hp9.out]
        exact ⟨rfl, rfl⟩

/-- parseNatural(b, 9). -/
theorem parseNatural_any {l : List UInt8} {v : Value} {w : World} (hv : BytesAt w v l) (hl : l.length ≤ maxLen) :
    Calls Tryz.prog 73 #[v, .int .i64 9] w fun e w' => e = .returned (.tuple #[.int .u64 (parse9 l).1, .int .i64 (parse9 l).2.1, .int .i64 (parse9 l).2.2]) ∧ w = w' := by
  obtain ⟨B, p, cap, rfl, _, h⟩ := hv
  exact parseNatural_one l p cap w hl (h.imp id fun ⟨off, h1, h2⟩ => ⟨B, off, h1, h2⟩)
end Go.Proofs.YtedlfmjgbehgkaaGreatDoor
