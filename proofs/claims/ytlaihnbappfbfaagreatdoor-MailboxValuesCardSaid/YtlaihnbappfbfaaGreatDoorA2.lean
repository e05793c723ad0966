/- Walks of codec: parseNatural and Parse read the number at the head of a byte slice. Walks of codec: the reader's functions. Laws on a slice of bytes turned into a string, and cut. -/
import Derived.Test.YtlaihnbappfbfaaGreatDoorA1
import Derived.Test.YtlaihnbappfbfaaGreatDoorProg
import Derived.Laws.BytesArg
namespace Go.Proofs.YtlaihnbappfbfaaGreatDoor
open Go.RowKit

theorem bits_and_127 (c : UInt8) : bits .and .u8 (c.toNat : Int) 127 = ((c.toNat % 128 : Nat) : Int) := by
  have := bits_mask .u8 8 (by decide) (fun n h0 h1 => IntWalk.u8_in n ⟨h0, by omega⟩) 7 (by decide) (c.toNat : Int) (by omega) (by have := c.toNat_lt; omega)
  simpa using this
theorem bits_or_low (a b : Nat) (ha : a * 128 < 18446744073709551616) (hb : b < 128) : bits .or .u64 ((a : Int) * 128) (b : Int) = ((b + 128 * a : Nat) : Int) := by
  have := bits_join .u64 64 (by decide) (fun n h0 h1 => IntWalk.u64_in n ⟨h0, by omega⟩) 7 ((a : Int) * 128) (b : Int) (by omega) (by omega) (by omega) (by omega) (by omega) (by omega)
  rw [this]; omega
theorem val_step (l : List UInt8) (k j : Nat) (hj : j ≤ k) (hk : k < l.length) : val ((l.drop j).take (k + 1 - j)) = (l[j]'(by omega)).toNat % 128 + 128 * val ((l.drop (j + 1)).take (k - j)) := by
  rw [List.drop_eq_getElem_cons (by omega), show k + 1 - j = (k - j) + 1 by omega, List.take_succ_cons]
  rfl

set_option maxRecDepth 100000 in
set_option maxHeartbeats 1000000 in
theorem parseNatural_one (l : List UInt8) (p : Option Addr) (cap : Nat) (w : World) (hl : l.length ≤ maxLen)
    (hb : l = [] ∨ ∃ b off, p = some ⟨b, off, none⟩ ∧ ∀ i, (h : i < l.length) → w.cell? ⟨b, off + i, none⟩ = some (.int .u8 l[i].toNat)) :
    Calls Tryz.prog 118 #[.slice p l.length cap, .int .i64 9] w fun e w' => e = .returned (.tuple #[.int .u64 (parse9 l).1, .int .i64 (parse9 l).2.1, .int .i64 (parse9 l).2.2]) ∧ w = w' := by
  obtain ⟨b, off, hp, hc⟩ : ∃ b off, (0 < l.length → p = some ⟨b, off, none⟩) ∧ ∀ i, (h : i < l.length) → w.cell? ⟨b, off + i, none⟩ = some (.int .u8 l[i].toNat) := by
    rcases hb with rfl | ⟨b, off, hp, hc⟩
    · exact ⟨0, 0, by simp, by simp⟩
    · exact ⟨b, off, fun _ => hp, hc⟩
  unfold maxLen at hl
  clear hb
  have hc0 := Lib.hid hc; clear hc
  have hp0 := Lib.hid hp; clear hp
  go_enter Tryz.func118, Tryz.ntmps118
  go_wp2
  go_loop [7] (fun i => ∃ k : Nat, i = .int .i64 k ∧ k ≤ 9 ∧ k ≤ l.length ∧ Hid (ext 9 l = k + ext (9 - k) (l.drop k))) (fun i => 9 - (intOf i).toNat)
  case atStart => exact ⟨0, rfl, by omega, by omega, by simp [Hid]⟩
  case round =>
    obtain ⟨k, rfl, hk9, hkl, hext⟩ := hrel
    by_cases h1 : k < l.length
    · by_cases h2 : k < 9
      · have hck := hc0.out k h1
        have hpk := hp0.out (by omega)
        subst hpk
        go_wp2
        · have hbig : 128 ≤ (l[k].toNat : Int) := by assumption
          go_roundw
          case rel => exact ⟨k + 1, by go_num, by omega, by omega, by
            have := hext.out
            rw [ext_step 9 k l h2 h1, if_pos (by omega)] at this
            show ext 9 l = k + 1 + ext (9 - (k + 1)) (l.drop (k + 1))
            omega⟩
          case measure => simp [intOf] <;> omega
        · have hz : (l[k].toNat : Int) < 128 := by assumption
          have hz0 : ((l[k].toNat : Int) == 0) = true := by assumption
          have hkpos : 0 < k := by assumption
          have he : ext 9 l = k := by
            have := hext.out
            rw [ext_step 9 k l h2 h1, if_neg (by omega)] at this
            omega
          have hp9 : Hid (parse9 l = (0, 0, 3)) := by
            exact parse9_zero he h2 h1 (by assumption) (by simpa using hz0)
          go_ret3
          rw [hp9.out]
          exact ⟨rfl, rfl⟩
        all_goals
          have hz : (l[k].toNat : Int) < 128 := by assumption
          have he : ext 9 l = k := by
            have := hext.out
            rw [ext_step 9 k l h2 h1, if_neg (by omega)] at this
            omega
          have h0 : k = 0 ∨ l[k].toNat ≠ 0 := by
            first
              | (left; omega)
              | (right; have a3 : ((l[k].toNat : Int) == 0) = false := by assumption
                 intro a2; rw [a2] at a3; simp at a3)
          have hp9 : Hid (parse9 l = (val (l.take (k + 1)), k + 1, 0)) := by
            exact parse9_good he h2 h1 h0
          clear he h0
          go_loop [8, 9] (fun u i => ∃ j : Int, -1 ≤ j ∧ j ≤ (k : Int) ∧ i = .int .i64 j ∧ u = .int .u64 (val ((l.drop (j + 1).toNat).take (k + 1 - (j+1).toNat)))) (fun _ i => (intOf i + 1).toNat)
          case atStart => exact ⟨k, by omega, by omega, rfl, by simp [val]⟩
          case round =>
            obtain ⟨j, hj1, hj2, rfl, rfl⟩ := hrel
            by_cases hj : j = -1
            · subst hj
              go_wp2
              go_ret3
              rw [hp9.out]
              exact ⟨by simp, rfl⟩
            · obtain ⟨j, rfl⟩ := Int.eq_ofNat_of_zero_le (show 0 ≤ j by omega)
              have hcj := hc0.out j (by omega)
              go_wp2
              have hv := val_lt ((l.drop (j + 1)).take (k - j))
              have hle : ((l.drop (j + 1)).take (k - j)).length ≤ 8 := by simp; omega
              have hv2 := Nat.pow_le_pow_right (n := 128) (by omega) hle
              have e8 : (128 : Nat) ^ 8 = 72057594037927936 := by decide
              have e1 : IntKind.u64.wrap ((val (List.take (k - j) (List.drop (j + 1) l)) : Int) * 128) = (val (List.take (k - j) (List.drop (j + 1) l)) : Int) * 128 := IntWalk.u64_in _ (by omega)
              have e2 : IntKind.u64.wrap ((l[j].toNat % 128 : Nat) : Int) = ((l[j].toNat % 128 : Nat) : Int) := IntWalk.u64_in _ (by omega)
              go_roundw
              case rel => exact ⟨(j : Int) - 1, by omega, by omega, rfl, by
                rw [bits_and_127, e1, e2, bits_or_low _ _ (by omega) (by omega), show ((j : Int) - 1 + 1).toNat = j by omega, val_step l k j (by omega) h1]⟩
              case measure => simp [intOf] <;> omega
      · have h9 : k = 9 := by omega
        subst h9
        have hp9 : Hid (parse9 l = (0, 0, 3)) := by
          exact parse9_nine (by have := hext.out; have := ext_le 9 l; omega)
        go_wp2
        go_ret3
        rw [hp9.out]
        exact ⟨rfl, rfl⟩
    · have he : ext 9 l = k := by
        have := hext.out
        rw [ext_end 9 k l (.inr (by omega))] at this
        omega
      have hkl : k = l.length := by omega
      by_cases h9 : k = 9
      · have hp9 : Hid (parse9 l = (0, 0, 3)) := by
          exact parse9_nine (by omega)
        have h9' : ((k : Int) == 9) = true := by simp [h9]
        clear he hkl
        go_wp2
        go_ret3
        rw [hp9.out]
        exact ⟨rfl, rfl⟩
      · have hp9 : Hid (parse9 l = (0, 0, 28)) := by
          exact parse9_short (by omega) (by omega)
        have h9' : ((k : Int) == 9) = false := by simp; omega
        have h9l : ((k : Int) == (l.length : Int)) = true := by simp; omega
        clear he hkl
        go_wp2
        go_ret3
        rw [hp9.out]
        exact ⟨rfl, rfl⟩

/-- parseNatural(b, 9). -/
theorem parseNatural_any {l : List UInt8} {v : Value} {w : World} (hv : BytesAt w v l) (hl : l.length ≤ maxLen) :
    Calls Tryz.prog 118 #[v, .int .i64 9] w fun e w' => e = .returned (.tuple #[.int .u64 (parse9 l).1, .int .i64 (parse9 l).2.1, .int .i64 (parse9 l).2.2]) ∧ w = w' := by
  obtain ⟨B, p, cap, rfl, _, h⟩ := hv
  exact parseNatural_one l p cap w hl (h.imp id fun ⟨off, h1, h2⟩ => ⟨B, off, h1, h2⟩)
end Go.Proofs.YtlaihnbappfbfaaGreatDoor

namespace Go.Proofs.YtlaihnbappfbfaaGreatDoor
open Go.RowKit

/-- codec.Parse. -/
theorem parse_any {l : List UInt8} {v : Value} {w : World} (hv : BytesAt w v l) (hl : l.length ≤ maxLen) :
    Calls Tryz.prog 88 #[v] w fun e w' => e = .returned (.tuple #[.int .i64 (parse9 l).1, .int .i64 (parse9 l).2.1, .int .i64 (parse9 l).2.2]) ∧ w = w' := by
  have hlt : ((parse9 l).1 : Int) ≤ 9223372036854775807 := by
    by_cases he : (parse9 l).2.2 = 0
    · have := (parse9_ok l (parse9 l).1 (parse9 l).2.1 (by rw [← he])).2.2.2.2
      omega
    · rw [(parse9_err l he).1]; decide
  go_enter Tryz.func88, Tryz.ntmps88
  go_wp2_with (go_at_call 118; refine (parseNatural_any hv hl).mono ?_; rintro e w' ⟨rfl, rfl⟩)
  go_ret3
  exact ⟨rfl, rfl⟩

def pNum (most : Int) (b : List UInt8) : Nat × Nat × Int :=
  if (parse9 b).2.2 = 0 ∧ most < (parse9 b).1 then ((parse9 b).1, (parse9 b).2.1, 2) else parse9 b

/-- The closure of Reader.Number: 'm' is the box of the limit. -/
theorem number1_any {l : List UInt8} {v : Value} {w : World} {m : Addr} {most : Int} (hv : BytesAt w v l) (hl : l.length ≤ maxLen) (hm : w.cell? m = some (.int .i64 most)) :
    Calls Tryz.prog 87 #[v, .pointer (some m)] w fun e w' => e = .returned (.tuple #[.int .i64 (pNum most l).1, .int .i64 (pNum most l).2.1, .int .i64 (pNum most l).2.2]) ∧ w = w' := by
  by_cases h1 : (parse9 l).2.2 = 0
  · have b1 : ((parse9 l).2.2 == 0) = true := by simpa using h1
    by_cases h2 : most < (parse9 l).1
    · have hp : Hid (pNum most l = ((parse9 l).1, (parse9 l).2.1, 2)) := by
        show pNum most l = _
        unfold pNum; rw [if_pos ⟨h1, h2⟩]
      clear h1
      go_enter Tryz.func87, Tryz.ntmps87
      go_wp2_with (go_at_call 88; refine (parse_any hv hl).mono ?_; rintro e w' ⟨rfl, rfl⟩)
      go_ret3
      rw [hp.out]
      exact ⟨rfl, rfl⟩
    · have hp : Hid (pNum most l = parse9 l) := by
        show pNum most l = _
        unfold pNum; rw [if_neg (by omega)]
      clear h1
      go_enter Tryz.func87, Tryz.ntmps87
      go_wp2_with (go_at_call 88; refine (parse_any hv hl).mono ?_; rintro e w' ⟨rfl, rfl⟩)
      go_ret3
      rw [hp.out]
      exact ⟨rfl, rfl⟩
  · have b1 : ((parse9 l).2.2 == 0) = false := by simpa using h1
    have hp : Hid (pNum most l = parse9 l) := by
      show pNum most l = _
      unfold pNum; rw [if_neg (by omega)]
    clear h1
    go_enter Tryz.func87, Tryz.ntmps87
    go_wp2_with (go_at_call 88; refine (parse_any hv hl).mono ?_; rintro e w' ⟨rfl, rfl⟩)
    go_ret3
    rw [hp.out]
    exact ⟨rfl, rfl⟩

def pFlag (b : List UInt8) : Bool × Nat × Int :=
  match b with
  | [] => (false, 0, 28)
  | c :: _ => if 1 < c.toNat then (false, 0, 3) else (c.toNat == 1, 1, 0)

/-- The closure of Reader.Flag. -/
theorem flag1_any {l : List UInt8} {v : Value} {w : World} (hv : BytesAt w v l) (hl : l.length ≤ maxLen) :
    Calls Tryz.prog 92 #[v] w fun e w' => e = .returned (.tuple #[.bool (pFlag l).1, .int .i64 (pFlag l).2.1, .int .i64 (pFlag l).2.2]) ∧ w = w' := by
  obtain ⟨b, p, cap, rfl, hcap, h⟩ := hv
  unfold maxLen at hl
  cases l with
  | nil =>
    go_enter Tryz.func92, Tryz.ntmps92
    go_wp2
    go_ret3
    exact ⟨rfl, rfl⟩
  | cons c l =>
    rcases h with h | ⟨off, rfl, hc⟩
    · cases h
    have hc0 := hc 0 (by simp)
    simp only [Nat.add_zero, List.getElem_cons_zero] at hc0
    clear hc
    simp only [List.length_cons] at hl hcap ⊢
    have hl1 : (((l.length + 1 : Nat) : Int) == 0) = false := by simp; omega
    by_cases h1 : 1 < (c.toNat : Int)
    · have hp : Hid (pFlag (c :: l) = (false, 0, 3)) := by
        show pFlag (c :: l) = _
        simp only [pFlag]; rw [if_pos (by omega)]
      go_enter Tryz.func92, Tryz.ntmps92
      go_wp2
      go_ret3
      rw [hp.out]
      exact ⟨rfl, rfl⟩
    · have hp : Hid (pFlag (c :: l) = (c.toNat == 1, 1, 0)) := by
        show pFlag (c :: l) = _
        simp only [pFlag]; rw [if_neg (by omega)]
      go_enter Tryz.func92, Tryz.ntmps92
      go_wp2
      go_ret3
      rw [hp.out]
      have e1 : ((c.toNat : Int) == 1) = (c.toNat == 1) := by rw [Bool.eq_iff_iff]; simp; omega
      rw [← e1]
      exact ⟨rfl, rfl⟩
end Go.Proofs.YtlaihnbappfbfaaGreatDoor

namespace Go.Proofs.YtlaihnbappfbfaaGreatDoor
open Go.RowKit

theorem strOfNums_bytes (l : List UInt8) : strOfNums (l.map fun c => (c.toNat : Int)) = ⟨l.toArray⟩ := by
  simp [strOfNums, List.map_map, Function.comp_def]
/-- 'string(b)'. -/
theorem run_string_of_bytes (w : World) (a : Option Addr) (n cap : Nat) (l : List UInt8) (hl : l.length = n)
    (ha : l = [] ∨ ∃ b off, a = some ⟨b, off, none⟩ ∧ ∀ i, (h : i < l.length) → w.cell? ⟨b, off + i, none⟩ = some (.int .u8 l[i].toNat)) :
    (convert 66 9 (.slice a n cap)).run Tryz.prog w = .ok (.string ⟨l.toArray⟩) w := by
  subst hl
  rcases ha with rfl | ⟨b, off, rfl, hc⟩
  · rw [run_convert_bytes_string w 66 9 5 _ _ cap Tryz.underlying66 Tryz.underlying5 Tryz.underlying9]
    cases a with
    | none => simp [Conv.bytesToString]; rfl
    | some a =>
      have h0 : (loadCells a 0).run Tryz.prog w = .ok (([] : List Int).map (Value.int .u8)).toArray w := by
        have := run_loadCells_list (P := Tryz.prog) w a [] (fun j v hj => by simp at hj)
        simpa using this
      have := run_bytesToString (P := Tryz.prog) w a 0 cap [] h0
      exact this
  · have := run_convert_bytes_arg (P := Tryz.prog) w 66 5 Tryz.underlying66 Tryz.underlying5 b off l.length cap (l.map fun c => (c.toNat : Int)) (by simp) (fun i hi => by
      rw [hc i hi]; simp [List.getD_eq_getElem?_getD, List.getElem?_eq_getElem hi]) 9 Tryz.underlying9
    rw [this, strOfNums_bytes]

/-- Behind 'b[size:]': the rest of the bytes. -/
theorem BytesIn.cut {w : World} {B : Nat} {p : Option Addr} {n cap : Nat} {l : List UInt8} (h : BytesIn w B (.slice p n cap) l) (k : Nat) (hk : k ≤ l.length) :
    n = l.length ∧ BytesIn w B (.slice (Option.map (fun x => x.add k) p) (l.length - k) (cap - k)) (l.drop k) ∧ (cap = k → BytesIn w B (.slice p (l.length - k) 0) (l.drop k)) := by
  obtain ⟨p', cap', e, hcap, hb⟩ := h
  simp only [Value.slice.injEq] at e
  obtain ⟨rfl, rfl, rfl⟩ := e
  refine ⟨rfl, ⟨_, _, by rw [List.length_drop], by rw [List.length_drop]; omega, ?_⟩, fun hck => ⟨_, _, by rw [List.length_drop], by rw [List.length_drop]; omega, .inl (List.drop_eq_nil_of_le (by omega))⟩⟩
  rcases hb with rfl | ⟨off, rfl, hc⟩
  · exact .inl (by simp)
  · by_cases hd : l.drop k = []
    · exact .inl hd
    · refine .inr ⟨off + k, by simp [Addr.add], fun i hi => ?_⟩
      rw [List.length_drop] at hi
      rw [Nat.add_assoc, hc (k + i) (by omega)]
      simp
/-- Behind 'b[:n]'. -/
theorem BytesIn.keep_head {w : World} {B : Nat} {p : Option Addr} {m cap : Nat} {l : List UInt8} (h : BytesIn w B (.slice p m cap) l) (n : Nat) (hn : n ≤ l.length) : BytesIn w B (.slice p n cap) (l.take n) := by
  obtain ⟨p', cap', e, hcap, hb⟩ := h
  simp only [Value.slice.injEq] at e
  obtain ⟨rfl, rfl, rfl⟩ := e
  have hl : (l.take n).length = n := by simp; omega
  refine ⟨_, _, by rw [hl], by omega, ?_⟩
  rcases hb with rfl | ⟨off, rfl, hc⟩
  · exact .inl (by simp)
  · refine .inr ⟨off, rfl, fun i hi => ?_⟩
    rw [hc i (by omega)]
    simp
theorem BytesIn.run_string {w : World} {B : Nat} {p : Option Addr} {n cap : Nat} {l : List UInt8} (h : BytesIn w B (.slice p n cap) l) : (convert 66 9 (.slice p n cap)).run Tryz.prog w = .ok (.string ⟨l.toArray⟩) w := by
  obtain ⟨p', cap', e, hcap, hb⟩ := h
  simp only [Value.slice.injEq] at e
  obtain ⟨rfl, rfl, rfl⟩ := e
  exact run_string_of_bytes w p l.length cap l rfl (hb.imp id fun ⟨off, h1, h2⟩ => ⟨B, off, h1, h2⟩)

structure RS where
  rest : List UInt8
  e : Int
/-- Block R is a reader: its bytes lie in block B. -/
def IsReader (w : World) (R B : Nat) (s : RS) : Prop :=
  ∃ v at_, w.heap[R]? = some (.cells #[v, .int .i64 at_, .int .i64 s.e] 149 (0, 0)) ∧ BytesIn w B v s.rest ∧ 0 ≤ at_ ∧ at_ + s.rest.length ≤ 1000000000000000000 ∧ R ≠ B
theorem IsReader.mods {S : List Nat} {w w' : World} {R B : Nat} {s : RS} (h : IsReader w R B s) (hm : Mods S w w') (h1 : R ∉ S) (h2 : B ∉ S) : IsReader w' R B s := by
  obtain ⟨v, at_, hR, hv, h3⟩ := h
  exact ⟨v, at_, hm.heap hR h1, hv.mods hm h2, h3⟩
theorem IsReader.lt {w : World} {R B : Nat} {s : RS} (h : IsReader w R B s) : R < w.heap.size := by
  obtain ⟨v, at_, hR, _⟩ := h
  exact lt_of_heap hR
theorem reader_moved {w : World} {R B : Nat} {v v' : Value} {at_ : Int} {rest' : List UInt8} {size : Nat} (hR : w.heap[R]? = some (.cells #[v, .int .i64 at_, .int .i64 0] 149 (0, 0)))
    (hv : BytesIn w B v' rest') (h0 : 0 ≤ at_) (h1 : at_ + size + rest'.length ≤ 1000000000000000000) (hRB : R ≠ B) :
    IsReader ((w.setCell ⟨R, 0, none⟩ v').setCell ⟨R, 1, none⟩ (.int .i64 (at_ + size))) R B ⟨rest', 0⟩ ∧ Mods [R] w ((w.setCell ⟨R, 0, none⟩ v').setCell ⟨R, 1, none⟩ (.int .i64 (at_ + size))) := by
  have hm : Mods [R] w ((w.setCell ⟨R, 0, none⟩ v').setCell ⟨R, 1, none⟩ (.int .i64 (at_ + size))) := ((Mods.refl [R] w).setCell (.inl (by simp)) _).setCell (.inl (by simp)) _
  refine ⟨⟨v', at_ + size, ?_, hv.mods hm (by simpa using fun e => hRB e.symm), by omega, by omega, hRB⟩, hm⟩
  have := heap_setCell_same (off := 1) (heap_setCell_same (off := 0) hR v') (.int .i64 (at_ + size))
  simpa using this
theorem reader_failed {w : World} {R B : Nat} {v : Value} {at_ : Int} {rest : List UInt8} {e : Int} (hR : w.heap[R]? = some (.cells #[v, .int .i64 at_, .int .i64 0] 149 (0, 0)))
    (hv : BytesIn w B v rest) (h0 : 0 ≤ at_) (h1 : at_ + rest.length ≤ 1000000000000000000) (hRB : R ≠ B) :
    IsReader (w.setCell ⟨R, 2, none⟩ (.int .i64 e)) R B ⟨rest, e⟩ ∧ Mods [R] w (w.setCell ⟨R, 2, none⟩ (.int .i64 e)) := by
  have hm : Mods [R] w (w.setCell ⟨R, 2, none⟩ (.int .i64 e)) := (Mods.refl [R] w).setCell (.inl (by simp)) _
  refine ⟨⟨v, at_, ?_, hv.mods hm (by simpa using fun e => hRB e.symm), by omega, by omega, hRB⟩, hm⟩
  have := heap_setCell_same (off := 2) hR (.int .i64 e)
  simpa using this
end Go.Proofs.YtlaihnbappfbfaaGreatDoor
