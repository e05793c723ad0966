/- Walks of the reference of layer 1: Natural. -/
import Derived.Test.YtedlfmjgbehgkaaGreatDoorCodecW6
namespace Go.Proofs.YtedlfmjgbehgkaaGreatDoor
open Go.RowKit

theorem u8_small (n : Nat) : ((n : Int) % 256) = ((n % 256 : Nat) : Int) := by omega

set_option maxRecDepth 100000 in
set_option maxHeartbeats 1000000 in
theorem refNatural_any (n : Nat) (hn : n < 18446744073709551616) (w : World) :
    Calls Tryz.prog 56 #[.int .u64 n] w fun e w' => ∃ v', e = .returned v' ∧ w'.ownsRow w.heap.size 5 1 v' (encNat n).length (bcells (encNat n)) ∧ Mods [] w w' := by
  obtain ⟨i0, hi, hz0, hz1, hz2⟩ := info_parts infoByte
  have h0 : Hid (w.ownsRow w.heap.size 5 1 (.slice none 0 0) 0 (bcells [])) := World.ownsRow_nil _ _ _ _
  go_enter Tryz.func56, Tryz.ntmps56
  go_wp2
  go_loopw [3, 0] (fun b u wr => ∃ (m : Nat) (p : List UInt8), u = .int .u64 m ∧ m < 18446744073709551616 ∧ Hid (p ++ encNat m = encNat n) ∧ Hid (wr.ownsRow w.heap.size 5 1 b p.length (bcells p)) ∧ Hid (Mods [] w wr)) (fun _ u _ => (intOf u).toNat)
  case atStart => exact ⟨n, [], rfl, hn, rfl, h0.out, Mods.refl _ _⟩
  case round =>
    obtain ⟨m, p, rfl, hm, hp, ho, hk⟩ := hrel
    have hlen10 := encNat_length_u64 n hn
    have hpl : p.length + (encNat m).length ≤ 10 := by
      have := congrArg List.length hp.out
      rw [List.length_append] at this
      omega
    have hws : w.heap.size ≤ wr.heap.size := hk.out.size
    by_cases h1 : m < 128
    · go_wp2_with (at_builtin; refine wpList_append_own _ rfl _ _ 51 rfl w.heap.size 5 i0 (.int .u8 0) 1 1 Tryz.underlying51 hi hz0 hz1 hz2 rfl (by decide) _ _ _ rfl (ho.out.alloc _) ⟨wr.heap.size, 0, none⟩ 1 1 [.int .u8 m] rfl rfl ?c1 ?c2 ?c3 ?c4 ?c5 ?_)
      case c1 => exact cell_one_new _ _ _
      case c2 => exact fun u hu => by simp at hu; subst hu; rfl
      case c3 => unfold maxLen; omega
      case c4 => omega
      case c5 => rw [World.size_alloc]; omega
      intro v' w1 hown hgrow _
      have hcat : p ++ [UInt8.ofNat m] = encNat n := by rw [← hp.out, encNat_small h1]
      have hm8 : (UInt8.ofNat m).toNat = m := u8_toNat_ofNat (by omega)
      have hown' : Hid (w1.ownsRow w.heap.size 5 1 v' (encNat n).length (bcells (encNat n))) := by
        show World.ownsRow _ _ _ _ _ _ _
        rw [← hcat, bcells_append, List.length_append]
        simpa [bcells, hm8] using hown
      have hkeep : Hid (Mods [] w w1) := (hk.out.alloc _).grown hgrow (fun k hk' => .inr (ho.out.lt k hk').1)
      clear hown hgrow hcat hm8
      go_wp2
      go_ret
      exact ⟨v', rfl, hown'.out, hkeep.out⟩
    · have h1' : 128 ≤ (m : Int) := by omega
      go_wp2_with (at_builtin; refine wpList_append_own _ rfl _ _ 51 rfl w.heap.size 5 i0 (.int .u8 0) 1 1 Tryz.underlying51 hi hz0 hz1 hz2 rfl (by decide) _ _ _ rfl (ho.out.alloc _) ⟨wr.heap.size, 0, none⟩ 1 1 [.int .u8 ((m % 128 + 128 : Nat) : Int)] rfl rfl ?d1 ?d2 ?d3 ?d4 ?d5 ?_)
      case d1 => exact cell_one_new _ _ _
      case d2 => exact fun u hu => by simp at hu; subst hu; rfl
      case d3 => unfold maxLen; omega
      case d4 => omega
      case d5 => rw [World.size_alloc]; omega
      intro v' w1 hown hgrow _
      have hcat : (p ++ [UInt8.ofNat (m % 128 + 128)]) ++ encNat (m / 128) = encNat n := by rw [← hp.out, encNat_large h1]; simp
      have hm8 : (UInt8.ofNat (m % 128 + 128)).toNat = m % 128 + 128 := u8_toNat_ofNat (by omega)
      have hown' : Hid (w1.ownsRow w.heap.size 5 1 v' (p ++ [UInt8.ofNat (m % 128 + 128)]).length (bcells (p ++ [UInt8.ofNat (m % 128 + 128)]))) := by
        show World.ownsRow _ _ _ _ _ _ _
        rw [bcells_append, List.length_append]
        have e8 : bcells [UInt8.ofNat (m % 128 + 128)] = [.int .u8 ((m % 128 + 128 : Nat) : Int)] := by simp only [bcells, List.map_cons, List.map_nil, hm8]
        rw [e8]
        exact hown
      have hkeep : Hid (Mods [] w w1) := (hk.out.alloc _).grown hgrow (fun k hk' => .inr (ho.out.lt k hk').1)
      have Hcat := Lib.hid hcat
      clear hown hgrow hcat hm8
      go_wp2
      go_roundw
      case rel => exact ⟨m / 128, p ++ [UInt8.ofNat (m % 128 + 128)], by go_num, by omega, Hcat, hown', hkeep⟩
      case measure => simp [intOf]; omega
end Go.Proofs.YtedlfmjgbehgkaaGreatDoor
