/- Walks of codec: the writer. -/
import Derived.Test.YtedlfmjgbehgkaaGreatDoorCodecW5
import Derived.Lib.AppendStr
namespace Go.Proofs.YtedlfmjgbehgkaaGreatDoor
open Go.RowKit

/-- Every old block of which P speaks is as it was. -/
structure Keep (P : Nat → Obj → Prop) (w w' : World) : Prop where
  os : w'.os = w.os
  tape : w'.tape = w.tape
  output : w'.output = w.output
  size : w.heap.size ≤ w'.heap.size
  block : ∀ k o, w.heap[k]? = some o → P k o → w'.heap[k]? = some o
theorem Keep.refl (P : Nat → Obj → Prop) (w : World) : Keep P w w := ⟨rfl, rfl, rfl, Nat.le_refl _, fun _ _ h _ => h⟩
theorem Keep.trans {P : Nat → Obj → Prop} {a b c : World} (h : Keep P a b) (k : Keep P b c) : Keep P a c :=
  ⟨k.os.trans h.os, k.tape.trans h.tape, k.output.trans h.output, Nat.le_trans h.size k.size, fun i o hi hP => k.block i o (h.block i o hi hP) hP⟩
theorem Keep.weaken {P Q : Nat → Obj → Prop} {a b : World} (h : Keep P a b) (hQ : ∀ k o, a.heap[k]? = some o → Q k o → P k o) : Keep Q a b :=
  ⟨h.os, h.tape, h.output, h.size, fun i o hi hP => h.block i o hi (hQ i o hi hP)⟩
theorem Keep.of_mods {P : Nat → Obj → Prop} {S : List Nat} {a b : World} (h : Mods S a b) (hP : ∀ k o, a.heap[k]? = some o → P k o → k ∉ S) : Keep P a b :=
  ⟨h.os, h.tape, h.output, h.size, fun _ _ hi hk => h.heap hi (hP _ _ hi hk)⟩
theorem Keep.mods {P : Nat → Obj → Prop} {S : List Nat} {a b : World} (h : Keep P a b) (hP : ∀ k o, a.heap[k]? = some o → k ∉ S → P k o) : Mods S a b :=
  ⟨h.os, h.tape, h.output, h.size, fun k hk hS => by
    have hs : a.heap[k]? = some a.heap[k] := Array.getElem?_eq_getElem hk
    rw [h.block k _ hs (hP k _ hs hS), hs]⟩
theorem Keep.cell {P : Nat → Obj → Prop} {w w' : World} (h : Keep P w w') {b off : Nat} {o : Obj} (hb : w.heap[b]? = some o) (hP : P b o) : w'.cell? ⟨b, off, none⟩ = w.cell? ⟨b, off, none⟩ :=
  World.cell?_of_block (w := w) ((h.block b o hb hP).trans hb.symm)
theorem Keep.alloc {P : Nat → Obj → Prop} {a w : World} (h : Keep P a w) (o : Obj) : Keep P a (w.alloc o) :=
  h.trans (.of_mods (S := []) ((Mods.refl [] w).alloc o) (by simp))
theorem Keep.grown {P : Nat → Obj → Prop} {a w w' : World} {row : Option Nat} (h : Keep P a w) (hg : w.grownBy w' row) (hr : ∀ k o, row = some k → w.heap[k]? = some o → ¬ P k o) : Keep P a w' :=
  h.trans ⟨hg.os, hg.tape, hg.output, hg.size, fun k o hk hP => by
    rw [hg.block k (lt_of_heap hk) (fun e => hr k o e.symm hk hP)]; exact hk⟩

/-- What a call keeps that may write to rows of bytes from block B on. -/
def NotRow (B k : Nat) (o : Obj) : Prop := k < B ∨ ∀ cur, o ≠ .cells cur 5 (0, 0)
theorem notRow_of_owns {w : World} {B : Nat} {v : Value} {n : Nat} {xs : List Value} (h : w.ownsRow B 5 1 v n xs) (k : Nat) (o : Obj) (hk : v.ownBlock = some k) (ho : w.heap[k]? = some o) : ¬ NotRow B k o := by
  obtain ⟨_, ⟨rfl, h2⟩ | ⟨g', cap, cur, rfl, hb, hh, hn, hm, hc, ht⟩⟩ := h
  · simp [Value.ownBlock] at hk
  · simp only [Value.ownBlock, Option.some.injEq] at hk
    subst hk
    rw [hh] at ho
    simp only [Option.some.injEq] at ho
    subst ho
    rintro (h | h)
    · omega
    · exact h cur rfl

theorem bits_or_128 (n : Nat) : bits .or .u8 ((n : Int) % 256) 128 = ((n % 128 + 128 : Nat) : Int) := by
  have h1 : (n : Int) % 256 = ((n % 256 : Nat) : Int) := by omega
  have := (bits_nat .u8 8 (by decide) (fun n h0 h1 => IntWalk.u8_in n ⟨h0, by omega⟩) (n % 256) 128 (by omega) (by decide)).2
  rw [h1]
  refine Eq.trans this ?_
  have h2 : ∀ a, a < 256 → a ||| 128 = a % 128 + 128 := by decide +kernel
  rw [h2 _ (by omega)]
  omega

set_option maxRecDepth 100000 in
set_option maxHeartbeats 1000000 in
/-- appendNatural to a row of the call's own. -/
theorem appendNatural_any {w : World} {B : Nat} {v : Value} {l : List UInt8} (n : Nat) (hn : n < 18446744073709551616) (h : w.ownsRow B 5 1 v l.length (bcells l)) (hl : l.length ≤ 140737488355000) (hB : B ≤ w.heap.size) :
    Calls Tryz.prog 59 #[v, .int .u64 n] w fun e w' => ∃ v', e = .returned v' ∧ w'.ownsRow B 5 1 v' (l ++ encNat n).length (bcells (l ++ encNat n)) ∧ Keep (NotRow B) w w' := by
  obtain ⟨i0, hi, hz0, hz1, hz2⟩ := info_parts infoByte
  have h0 := Lib.hid h
  clear h
  go_enter Tryz.func59, Tryz.ntmps59
  go_wp2
  go_loopw [0, 1] (fun b u wr => ∃ (m : Nat) (p : List UInt8), u = .int .u64 m ∧ m < 18446744073709551616 ∧ Hid (p ++ encNat m = encNat n) ∧ Hid (wr.ownsRow B 5 1 b (l ++ p).length (bcells (l ++ p))) ∧ Hid (Keep (NotRow B) w wr)) (fun _ u _ => (intOf u).toNat)
  case atStart => exact ⟨n, [], rfl, hn, rfl, by rw [List.append_nil]; exact h0.out, Keep.refl _ _⟩
  case round =>
    obtain ⟨m, p, rfl, hm, hp, ho, hk⟩ := hrel
    have hlen10 := encNat_length_u64 n hn
    have hpl : p.length + (encNat m).length ≤ 10 := by
      have := congrArg List.length hp.out
      rw [List.length_append] at this
      omega
    have hws : B ≤ wr.heap.size := Nat.le_trans hB hk.out.size
    by_cases h1 : m < 128
    · go_wp2_with (at_builtin; refine wpList_append_own _ rfl _ _ 51 rfl B 5 i0 (.int .u8 0) 1 1 Tryz.underlying51 hi hz0 hz1 hz2 rfl (by decide) _ _ _ rfl (ho.out.alloc _) ⟨wr.heap.size, 0, none⟩ 1 1 [.int .u8 m] rfl rfl ?c1 ?c2 ?c3 ?c4 ?c5 ?_)
      case c1 => exact cell_one_new _ _ _
      case c2 => exact fun u hu => by simp at hu; subst hu; rfl
      case c3 => unfold maxLen; rw [List.length_append]; omega
      case c4 => rw [List.length_append]; omega
      case c5 => rw [World.size_alloc]; omega
      intro v' w1 hown hgrow _
      have hcat : p ++ [UInt8.ofNat m] = encNat n := by rw [← hp.out, encNat_small h1]
      have hm8 : (UInt8.ofNat m).toNat = m := u8_toNat_ofNat (by omega)
      have hown' : Hid (w1.ownsRow B 5 1 v' (l ++ encNat n).length (bcells (l ++ encNat n))) := by
        show World.ownsRow _ _ _ _ _ _ _
        rw [← hcat, ← List.append_assoc, bcells_append, List.length_append]
        simpa [bcells, hm8] using hown
      have hkeep : Hid (Keep (NotRow B) w w1) := (hk.out.alloc _).grown hgrow (notRow_of_owns (ho.out.alloc _))
      clear hown hgrow hcat hm8
      go_wp2
      go_ret
      exact ⟨v', rfl, hown'.out, hkeep.out⟩
    · have h1' : 128 ≤ (m : Int) := by omega
      go_wp2_with (at_builtin; refine wpList_append_own _ rfl _ _ 51 rfl B 5 i0 (.int .u8 0) 1 1 Tryz.underlying51 hi hz0 hz1 hz2 rfl (by decide) _ _ _ rfl (ho.out.alloc _) ⟨wr.heap.size, 0, none⟩ 1 1 [.int .u8 (bits .or .u8 ((m : Int) % 256) 128)] rfl rfl ?d1 ?d2 ?d3 ?d4 ?d5 ?_)
      case d1 => exact cell_one_new _ _ _
      case d2 => exact fun u hu => by simp at hu; subst hu; rfl
      case d3 => unfold maxLen; rw [List.length_append]; omega
      case d4 => rw [List.length_append]; omega
      case d5 => rw [World.size_alloc]; omega
      intro v' w1 hown hgrow _
      have hcat : (p ++ [UInt8.ofNat (m % 128 + 128)]) ++ encNat (m / 128) = encNat n := by rw [← hp.out, encNat_large h1]; simp
      have hm8 : (UInt8.ofNat (m % 128 + 128)).toNat = m % 128 + 128 := u8_toNat_ofNat (by omega)
      have hown' : Hid (w1.ownsRow B 5 1 v' (l ++ (p ++ [UInt8.ofNat (m % 128 + 128)])).length (bcells (l ++ (p ++ [UInt8.ofNat (m % 128 + 128)])))) := by
        show World.ownsRow _ _ _ _ _ _ _
        rw [← List.append_assoc, bcells_append, List.length_append]
        rw [bits_or_128] at hown
        have e8 : bcells [UInt8.ofNat (m % 128 + 128)] = [.int .u8 ((m % 128 + 128 : Nat) : Int)] := by simp only [bcells, List.map_cons, List.map_nil, hm8]
        rw [e8, List.length_append]
        exact hown
      have hkeep : Hid (Keep (NotRow B) w w1) := (hk.out.alloc _).grown hgrow (notRow_of_owns (ho.out.alloc _))
      have Hcat := Lib.hid hcat
      clear hown hgrow hcat hm8
      go_wp2
      go_roundw
      case rel => exact ⟨m / 128, p ++ [UInt8.ofNat (m % 128 + 128)], by go_num, by omega, Hcat, hown', hkeep⟩
      case measure => simp [intOf]; omega
end Go.Proofs.YtedlfmjgbehgkaaGreatDoor
