/- Walks of the reference of layer 1: Text, groups, Parse. -/
import Derived.Test.YtedlfmjgbehgkaaGreatDoorRefW1
import Derived.Test.YtedlfmjgbehgkaaGreatDoorObjW1
import Derived.Test.YtedlfmjgbehgkaaGreatDoorCodecW7
namespace Go.Proofs.YtedlfmjgbehgkaaGreatDoor
open Go.RowKit

set_option maxRecDepth 100000 in
set_option maxHeartbeats 1000000 in
theorem refText_any (s : ByteArray) (w : World) (hs : s.size ≤ 1000000000) :
    Calls Tryz.prog 57 #[.string s] w fun e w' => ∃ v', e = .returned v' ∧ w'.ownsRow w.heap.size 5 1 v' (encText s.data.toList).length (bcells (encText s.data.toList)) ∧ Mods [] w w' := by
  obtain ⟨i0, hi, hz0, hz1, hz2⟩ := info_parts infoByte
  have Hsl := Lib.hid (slen s)
  have e64 : IntKind.u64.wrap (s.size : Int) = (s.size : Int) := IntWalk.u64_in _ (by omega)
  go_enter Tryz.func57, Tryz.ntmps57
  go_wp2_with fail
  refine (refNatural_any s.size (by omega) w).mono ?_
  rintro e w1 ⟨v, rfl, hown, hm⟩
  have Ho := Lib.hid hown
  have Hm := Lib.hid hm
  clear hown hm
  have hlen10 := encNat_length_u64 s.size (by omega)
  go_wp2
  go_loopw [3, 4] (fun b i wr => ∃ k : Nat, i = .int .i64 k ∧ k ≤ s.size ∧ Hid (wr.ownsRow w.heap.size 5 1 b (encNat s.size ++ s.data.toList.take k).length (bcells (encNat s.size ++ s.data.toList.take k))) ∧ Hid (Mods [] w wr)) (fun _ i _ => s.size - (intOf i).toNat)
  case atStart => exact ⟨0, rfl, by omega, by rw [List.take_zero, List.append_nil]; exact Ho.out, Hm.out⟩
  case round =>
    obtain ⟨k, rfl, hk, ho, hm⟩ := hrel
    have hws : w.heap.size ≤ wr.heap.size := hm.out.size
    have htl : (encNat s.size ++ s.data.toList.take k).length ≤ 1000000020 := by rw [List.length_append, List.length_take]; omega
    by_cases hlt : k < s.size
    · have hg : s.data.toList.take (k + 1) = s.data.toList.take k ++ [s[k]'hlt] := by
        rw [List.take_succ_eq_append_getElem (by rw [Hsl.out]; exact hlt), sget]
      go_wp2_with (at_builtin; refine wpList_append_own _ rfl _ _ 51 rfl w.heap.size 5 i0 (.int .u8 0) 1 1 Tryz.underlying51 hi hz0 hz1 hz2 rfl (by decide) _ _ _ rfl (ho.out.alloc _) ⟨wr.heap.size, 0, none⟩ 1 1 [.int .u8 ((s[k]'hlt).toNat : Int)] rfl rfl ?c1 ?c2 ?c3 ?c4 ?c5 ?_)
      case c1 => exact cell_one_new _ _ _
      case c2 => exact fun u hu => by simp at hu; subst hu; rfl
      case c3 => unfold maxLen; omega
      case c4 => omega
      case c5 => rw [World.size_alloc]; omega
      intro v' w2 hown hgrow _
      have hown' : Hid (w2.ownsRow w.heap.size 5 1 v' (encNat s.size ++ s.data.toList.take (k + 1)).length (bcells (encNat s.size ++ s.data.toList.take (k + 1)))) := by
        show World.ownsRow _ _ _ _ _ _ _
        have el : (encNat s.size ++ s.data.toList.take (k + 1)).length = (encNat s.size).length + k + 1 := by
          rw [List.length_append, List.length_take, Hsl.out]; omega
        rw [el, hg, ← List.append_assoc, bcells_append]
        exact hown
      have hkeep : Hid (Mods [] w w2) := (hm.out.alloc _).grown hgrow (fun k hk' => .inr (ho.out.lt k hk').1)
      clear hown hgrow hg
      go_wp2
      go_roundw
      case rel => exact ⟨k + 1, by go_num, by omega, hown', hkeep⟩
      case measure => simp [intOf]; omega
    · have hke : Hid (encNat s.size ++ s.data.toList.take k = encText s.data.toList) := by
        show _ = _
        rw [List.take_of_length_le (by rw [Hsl.out]; omega)]
        unfold encText; rw [Hsl.out]
      go_wp2
      go_ret
      refine ⟨u3, rfl, ?_, hm.out⟩
      rw [← hke.out]; exact ho.out

set_option maxRecDepth 100000 in
set_option maxHeartbeats 1000000 in
theorem groups_one (l : List UInt8) (p : Option Addr) (cap : Nat) (w : World) (hl : l.length ≤ maxLen)
    (hb : l = [] ∨ ∃ b off, p = some ⟨b, off, none⟩ ∧ ∀ i, (h : i < l.length) → w.cell? ⟨b, off + i, none⟩ = some (.int .u8 l[i].toNat)) :
    Calls Tryz.prog 75 #[.slice p l.length cap, .int .i64 9] w fun e w' => e = .returned (.tuple #[.int .u64 (parse9 l).1, .int .i64 (parse9 l).2.1, .int .i64 (parse9 l).2.2]) ∧ w = w' := by
  obtain ⟨b, off, hp, hc⟩ : ∃ b off, (0 < l.length → p = some ⟨b, off, none⟩) ∧ ∀ i, (h : i < l.length) → w.cell? ⟨b, off + i, none⟩ = some (.int .u8 l[i].toNat) := by
    rcases hb with rfl | ⟨b, off, hp, hc⟩
    · exact ⟨0, 0, by simp, by simp⟩
    · exact ⟨b, off, fun _ => hp, hc⟩
  unfold maxLen at hl
  clear hb
  have hc0 := Lib.hid hc; clear hc
  have hp0 := Lib.hid hp; clear hp
  go_enter Tryz.func75, Tryz.ntmps75
  go_wp2
  go_loop [7] (fun i => ∃ k : Nat, i = .int .i64 k ∧ k ≤ 9 ∧ k ≤ l.length ∧ Hid (ext 9 l = k + ext (9 - k) (l.drop k))) (fun i => 9 - (intOf i).toNat)
  case atStart => exact ⟨0, rfl, by omega, by omega, by simp [Hid]⟩
  case round =>
    obtain ⟨k, rfl, hk9, hkl, hext⟩ := hrel
    by_cases h1 : k < l.length
    · by_cases h2 : k < 9
      · have hck := hc0.out k h1
        have hpk := hp0.out (by omega)
        subst hpk
        by_cases hbig : 128 ≤ l[k].toNat
        · have hbig' : 128 ≤ (l[k].toNat : Int) := by omega
          go_wp2
          go_roundw
          case rel => exact ⟨k + 1, by go_num, by omega, by omega, by
            have := hext.out
            rw [ext_step 9 k l h2 h1, if_pos (by omega)] at this
            show ext 9 l = k + 1 + ext (9 - (k + 1)) (l.drop (k + 1))
            omega⟩
          case measure => simp [intOf] <;> omega
        · have hbig' : ¬ 128 ≤ (l[k].toNat : Int) := by omega
          have he : ext 9 l = k := by
            have := hext.out
            rw [ext_step 9 k l h2 h1, if_neg hbig] at this
            omega
          have b1 : ((k : Int) == 9) = false := by simp; omega
          have b2 : ((k : Int) == (l.length : Int)) = false := by simp; omega
          by_cases hz : 0 < k ∧ l[k].toNat = 0
          · have hp9 : Hid (parse9 l = (0, 0, 3)) := parse9_zero he h2 h1 hz.1 hz.2
            obtain ⟨hz1, hz2⟩ := hz
            have b3 : ((l[k].toNat : Int) == 0) = true := by simp; omega
            clear he hz2 hext
            go_wp2
            go_ret3
            rw [hp9.out]
            exact ⟨rfl, rfl⟩
          · have h0 : k = 0 ∨ l[k].toNat ≠ 0 := by omega
            have hp9 : Hid (parse9 l = (val (l.take (k + 1)), k + 1, 0)) := parse9_good he h2 h1 h0
            have hz3 : (¬ 0 < k) ∨ (0 < k ∧ ((l[k].toNat : Int) == 0) = false) := by
              rcases Nat.eq_zero_or_pos k with h | h
              · exact .inl (by omega)
              · exact .inr ⟨h, by simp; omega⟩
            clear he h0 hz hext
            rcases hz3 with hz3 | ⟨hz3, hz4⟩
            all_goals
              go_wp2
              go_loop [8, 9] (fun u i => ∃ j : Int, -1 ≤ j ∧ j ≤ (k : Int) ∧ i = .int .i64 j ∧ u = .int .u64 (val ((l.drop (j + 1).toNat).take (k + 1 - (j+1).toNat)))) (fun _ i => (intOf i + 1).toNat)
              case atStart => exact ⟨k, by omega, by omega, rfl, by simp [val]⟩
              case round =>
                obtain ⟨j, hj1, hj2, rfl, rfl⟩ := hrel
                by_cases hj : j = -1
                · subst hj
                  go_wp2
                  go_ret3
                  rw [hp9.out]
                  exact ⟨by simp, rfl⟩
                · obtain ⟨j, rfl⟩ := Int.eq_ofNat_of_zero_le (show 0 ≤ j by omega)
                  have hcj := hc0.out j (by omega)
                  have hv := val_lt ((l.drop (j + 1)).take (k - j))
                  have hle : ((l.drop (j + 1)).take (k - j)).length ≤ 8 := by simp; omega
                  have hv2 := Nat.pow_le_pow_right (n := 128) (by omega) hle
                  have e8 : (128 : Nat) ^ 8 = 72057594037927936 := by decide
                  have hvs := Lib.hid (val_step l k j (by omega) h1)
                  have hjn : ((j : Int) + 1).toNat = j + 1 := by omega
                  have hkj : k + 1 - (j + 1) = k - j := by omega
                  rw [hjn, hkj]
                  obtain ⟨V, hV⟩ : ∃ V, val ((l.drop (j + 1)).take (k - j)) = V := ⟨_, rfl⟩
                  have hV8 : V < 72057594037927936 := by omega
                  have HV := Lib.hid hV
                  rw [hV]
                  clear hv hle hv2 hV hjn hkj
                  go_wp2
                  go_roundw
                  case rel => exact ⟨(j : Int) - 1, by omega, by omega, rfl, by
                    rw [show ((j : Int) - 1 + 1).toNat = j by omega, hvs.out, HV.out]
                    go_num⟩
                  case measure => simp [intOf] <;> omega
      · have h9 : k = 9 := by omega
        subst h9
        have hp9 : Hid (parse9 l = (0, 0, 3)) := parse9_nine (by have := hext.out; have := ext_le 9 l; omega)
        go_wp2
        go_ret3
        rw [hp9.out]
        exact ⟨rfl, rfl⟩
    · have he : ext 9 l = k := by
        have := hext.out
        rw [ext_end 9 k l (.inr (by omega))] at this
        omega
      have hkl : k = l.length := by omega
      by_cases h9 : k = 9
      · have hp9 : Hid (parse9 l = (0, 0, 3)) := parse9_nine (by omega)
        have h9' : ((k : Int) == 9) = true := by simp [h9]
        clear he hkl
        go_wp2
        go_ret3
        rw [hp9.out]
        exact ⟨rfl, rfl⟩
      · have hp9 : Hid (parse9 l = (0, 0, 28)) := parse9_short (by omega) (by omega)
        have h9' : ((k : Int) == 9) = false := by simp; omega
        have h9l : ((k : Int) == (l.length : Int)) = true := by simp; omega
        clear he hkl
        go_wp2
        go_ret3
        rw [hp9.out]
        exact ⟨rfl, rfl⟩

theorem refParse_any {l : List UInt8} {v : Value} {w : World} (hv : BytesAt w v l) (hl : l.length ≤ maxLen) :
    Calls Tryz.prog 54 #[v] w fun e w' => e = .returned (.tuple #[.int .i64 (parse9 l).1, .int .i64 (parse9 l).2.1, .int .i64 (parse9 l).2.2]) ∧ w = w' := by
  have hlt : ((parse9 l).1 : Int) ≤ 9223372036854775807 := by
    by_cases he : (parse9 l).2.2 = 0
    · have := (parse9_ok l (parse9 l).1 (parse9 l).2.1 (by rw [← he])).2.2.2.2
      omega
    · rw [(parse9_err l he).1]; decide
  obtain ⟨B, p, cap, rfl, _, h⟩ := hv
  have hg := Lib.hid (groups_one l p cap w hl (h.imp id fun ⟨off, h1, h2⟩ => ⟨B, off, h1, h2⟩))
  clear h
  go_enter Tryz.func54, Tryz.ntmps54
  go_wp2_with (go_at_call 75; refine hg.out.mono ?_; rintro e w' ⟨rfl, rfl⟩)
  go_ret3
  exact ⟨rfl, rfl⟩
end Go.Proofs.YtedlfmjgbehgkaaGreatDoor
