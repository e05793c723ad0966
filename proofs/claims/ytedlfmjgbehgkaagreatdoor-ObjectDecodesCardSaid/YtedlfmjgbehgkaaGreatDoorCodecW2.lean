/- Walks of codec: the reader's functions. -/
import Derived.Test.YtedlfmjgbehgkaaGreatDoorCodecW1
namespace Go.Proofs.YtedlfmjgbehgkaaGreatDoor
open Go.RowKit

/-- codec.Parse. -/
theorem parse_any {l : List UInt8} {v : Value} {w : World} (hv : BytesAt w v l) (hl : l.length ≤ maxLen) :
    Calls Tryz.prog 48 #[v] w fun e w' => e = .returned (.tuple #[.int .i64 (parse9 l).1, .int .i64 (parse9 l).2.1, .int .i64 (parse9 l).2.2]) ∧ w = w' := by
  have hlt : ((parse9 l).1 : Int) ≤ 9223372036854775807 := by
    by_cases he : (parse9 l).2.2 = 0
    · have := (parse9_ok l (parse9 l).1 (parse9 l).2.1 (by rw [← he])).2.2.2.2
      omega
    · rw [(parse9_err l he).1]; decide
  go_enter Tryz.func48, Tryz.ntmps48
  go_wp2_with (go_at_call 73; refine (parseNatural_any hv hl).mono ?_; rintro e w' ⟨rfl, rfl⟩)
  go_ret3
  exact ⟨rfl, rfl⟩

def pNum (most : Int) (b : List UInt8) : Nat × Nat × Int :=
  if (parse9 b).2.2 = 0 ∧ most < (parse9 b).1 then ((parse9 b).1, (parse9 b).2.1, 2) else parse9 b

/-- The closure of Reader.Number: 'm' is the box of the limit. -/
theorem number1_any {l : List UInt8} {v : Value} {w : World} {m : Addr} {most : Int} (hv : BytesAt w v l) (hl : l.length ≤ maxLen) (hm : w.cell? m = some (.int .i64 most)) :
    Calls Tryz.prog 47 #[v, .pointer (some m)] w fun e w' => e = .returned (.tuple #[.int .i64 (pNum most l).1, .int .i64 (pNum most l).2.1, .int .i64 (pNum most l).2.2]) ∧ w = w' := by
  by_cases h1 : (parse9 l).2.2 = 0
  · have b1 : ((parse9 l).2.2 == 0) = true := by simpa using h1
    by_cases h2 : most < (parse9 l).1
    · have hp : Hid (pNum most l = ((parse9 l).1, (parse9 l).2.1, 2)) := by
        show pNum most l = _
        unfold pNum; rw [if_pos ⟨h1, h2⟩]
      clear h1
      go_enter Tryz.func47, Tryz.ntmps47
      go_wp2_with (go_at_call 48; refine (parse_any hv hl).mono ?_; rintro e w' ⟨rfl, rfl⟩)
      go_ret3
      rw [hp.out]
      exact ⟨rfl, rfl⟩
    · have hp : Hid (pNum most l = parse9 l) := by
        show pNum most l = _
        unfold pNum; rw [if_neg (by omega)]
      clear h1
      go_enter Tryz.func47, Tryz.ntmps47
      go_wp2_with (go_at_call 48; refine (parse_any hv hl).mono ?_; rintro e w' ⟨rfl, rfl⟩)
      go_ret3
      rw [hp.out]
      exact ⟨rfl, rfl⟩
  · have b1 : ((parse9 l).2.2 == 0) = false := by simpa using h1
    have hp : Hid (pNum most l = parse9 l) := by
      show pNum most l = _
      unfold pNum; rw [if_neg (by omega)]
    clear h1
    go_enter Tryz.func47, Tryz.ntmps47
    go_wp2_with (go_at_call 48; refine (parse_any hv hl).mono ?_; rintro e w' ⟨rfl, rfl⟩)
    go_ret3
    rw [hp.out]
    exact ⟨rfl, rfl⟩

def pFlag (b : List UInt8) : Bool × Nat × Int :=
  match b with
  | [] => (false, 0, 28)
  | c :: _ => if 1 < c.toNat then (false, 0, 3) else (c.toNat == 1, 1, 0)

end Go.Proofs.YtedlfmjgbehgkaaGreatDoor