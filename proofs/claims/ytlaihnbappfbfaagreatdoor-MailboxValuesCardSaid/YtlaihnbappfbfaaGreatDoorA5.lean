/- Walks of object: Word, Check of a name; the table of the kinds. Walks of object: Check of a name. Walks of object: Check of a name, by the table. -/
import Derived.Test.YtlaihnbappfbfaaGreatDoorLinW3
namespace Go.Proofs.YtlaihnbappfbfaaGreatDoor
open Go.RowKit

/-- The table of the kinds: the word, and what the names of a kind use. -/
def uWord (k : Nat) : List UInt8 :=
  ([[], [112, 114, 111, 99, 101, 115, 115], [114, 101, 103, 105, 115, 116, 101, 114, 115], [112, 97, 103, 101], [116, 97, 98, 108, 101], [99, 111, 117, 110, 116, 101, 114], [112, 101, 110, 100, 105, 110, 103], [110, 111, 100, 101], [98, 108, 111, 99, 107], [101, 110, 116, 114, 121], [108, 105, 115, 116, 105, 110, 103], [112, 105, 112, 101], [108, 111, 99, 107], [116, 101, 114, 109, 105, 110, 97, 108], [97, 99, 99, 111, 117, 110, 116], [99, 108, 111, 99, 107], [112, 111, 114, 116], [98, 111, 120], [111, 117, 116], [115, 104, 101, 108, 108], [101, 112, 111, 99, 104]] : List (List UInt8)).getD k []
def uOwner (k : Nat) : Bool := (decide (1 ≤ k) && decide (k ≤ 12)) || k == 18 || k == 19
def uNumber (k : Nat) : Bool := (decide (7 ≤ k) && decide (k ≤ 13)) || k == 16 || k == 18
def uIndex (k : Nat) : Bool := k == 3 || k == 8 || k == 18
def uText (k : Nat) : Bool := k == 9 || k == 14 || k == 17
def uMost (k : Nat) : Nat := if k == 3 || k == 8 then 63 else if k == 18 then 1073741824 else 0
/-- The row of a kind, as cells. -/
def uRow (k : Nat) : List Value := [.string ⟨(uWord k).toArray⟩, .bool (uOwner k), .bool (uNumber k), .bool (uIndex k), .bool (uText k), .int .i64 (uMost k)]
/-- The table lies where the program has it. -/
def Usages (w : World) : Prop := ∀ k j, k < 21 → j < 6 → w.cell? ⟨0, k * 6 + j, none⟩ = (uRow k)[j]?
theorem Usages.mods {S : List Nat} {w w' : World} (h : Usages w) (hm : Mods S w w') (hS : 0 ∉ S) : Usages w' := by
  intro k j hk hj
  have := h k j hk hj
  have hlt : (uRow k)[j]? = some ((uRow k)[j]'(by simpa [uRow] using hj)) := List.getElem?_eq_getElem _
  rw [hlt] at this ⊢
  exact hm.keepS this hS
theorem Usages.lt {w : World} (h : Usages w) : 0 < w.heap.size := by
  have := h 0 0 (by omega) (by omega)
  exact lt_of_cell (a := ⟨0, 0, none⟩) (v := .string ⟨(uWord 0).toArray⟩) this

def isWordByte (c : UInt8) : Bool := decide (33 ≤ c.toNat) && decide (c.toNat ≤ 126) && !(c.toNat == 47)
def wordOK (s : List UInt8) : Bool := decide (s ≠ []) && decide (s.length ≤ 32) && s.all isWordByte
theorem isWordByte_iff (c : UInt8) : isWordByte c = true ↔ 33 ≤ (c.toNat : Int) ∧ (c.toNat : Int) ≤ 126 ∧ (c.toNat : Int) ≠ 47 := by
  simp [isWordByte]; omega

set_option maxRecDepth 100000 in
set_option maxHeartbeats 1000000 in
theorem word_any (s : ByteArray) (w : World) (hs : s.size ≤ 1000000000000) :
    Calls Tryz.prog 109 #[.string s] w fun e w' => e = .returned (.bool (wordOK s.data.toList)) ∧ w = w' := by
  have hsl := slen s
  by_cases h0 : s.data.toList = []
  · have hw : Hid (wordOK s.data.toList = false) := by show _ = _; simp [wordOK, h0]
    have h1 : s.toList = [] := by rw [ByteArray.toList_eq]; exact h0
    clear h0 hsl
    go_enter Tryz.func109, Tryz.ntmps109
    go_wp2
    go_ret
    rw [hw.out]; exact ⟨rfl, rfl⟩
  have h1 : s.toList ≠ [] := by rw [ByteArray.toList_eq]; exact h0
  have h1' : s.toList.isEmpty = false := by simpa using h1
  by_cases h2 : 32 < s.size
  · have hw : Hid (wordOK s.data.toList = false) := by show _ = _; simp [wordOK, hsl]; omega
    have h2' : (32 : Int) < (s.size : Int) := by omega
    clear h0 hsl h1
    go_enter Tryz.func109, Tryz.ntmps109
    go_wp2
    go_ret
    rw [hw.out]; exact ⟨rfl, rfl⟩
  have h2' : ¬ (32 : Int) < (s.size : Int) := by omega
  have h2'' : decide ((32 : Int) < (s.size : Int)) = false := by simpa using h2'
  have hw : Hid (wordOK s.data.toList = s.data.toList.all isWordByte) := by show _ = _; simp [wordOK, hsl, h0]; intro; omega
  have Hsl := Lib.hid hsl
  clear h0 hsl h1
  go_enter Tryz.func109, Tryz.ntmps109
  go_wp2
  go_loop [3, 13] (fun _ i => ∃ k : Nat, i = .int .i64 k ∧ k ≤ s.size ∧ Hid (s.data.toList.all isWordByte = (s.data.toList.drop k).all isWordByte)) (fun _ i => s.size - (intOf i).toNat)
  case atStart => exact ⟨0, rfl, by omega, rfl⟩
  case round =>
    obtain ⟨k, rfl, hk, ha⟩ := hrel
    by_cases hlt : k < s.size
    · have hd : s.data.toList.drop k = s[k]'hlt :: s.data.toList.drop (k + 1) := by rw [sget]; exact List.drop_eq_getElem_cons (by rw [Hsl.out]; exact hlt)
      by_cases hb : isWordByte (s[k]'hlt) = true
      · have hb' := (isWordByte_iff _).1 hb
        have ha' : Hid (s.data.toList.all isWordByte = (s.data.toList.drop (k + 1)).all isWordByte) := by
          show _ = _
          rw [ha.out, hd, List.all_cons, hb]; simp
        obtain ⟨c1, c2, c3⟩ := hb'
        have c3' : (((s[k]'hlt).toNat : Int) == 47) = false := by simpa using c3
        clear hd hb c3
        go_wp2
        go_round
        case rel => exact ⟨k + 1, by go_num, by omega, ha'⟩
        case measure => simp [intOf] <;> omega
      · have ha' : Hid (s.data.toList.all isWordByte = false) := by
          show _ = _
          rw [ha.out, hd, List.all_cons]
          simp [hb]
        have hb' := mt (isWordByte_iff _).2 hb
        have hb3 : ((s[k]'hlt).toNat : Int) < 33 ∨ 126 < ((s[k]'hlt).toNat : Int) ∨ (¬ ((s[k]'hlt).toNat : Int) < 33 ∧ ¬ 126 < ((s[k]'hlt).toNat : Int) ∧ (((s[k]'hlt).toNat : Int) == 47) = true) := by
          simp only [beq_iff_eq]; omega
        clear hd hb hb'
        rcases hb3 with hb3 | hb3 | ⟨hb3, hb4, hb5⟩
        all_goals
          go_wp2
          go_ret
          rw [hw.out, ha'.out]; exact ⟨rfl, rfl⟩
    · have ha' : Hid (s.data.toList.all isWordByte = true) := by
        show _ = _
        rw [ha.out, List.drop_eq_nil_of_le (by rw [Hsl.out]; omega)]; rfl
      go_wp2
      go_ret
      rw [hw.out, ha'.out]; exact ⟨rfl, rfl⟩
end Go.Proofs.YtlaihnbappfbfaaGreatDoor

namespace Go.Proofs.YtlaihnbappfbfaaGreatDoor
open Go.RowKit

structure NameV where
  kind : Int
  owner : List UInt8
  number : Int
  index : Int
  text : List UInt8
/-- The first error of a name. -/
def checkV (n : NameV) : Int :=
  if ¬ (1 ≤ n.kind ∧ n.kind ≤ 20) then 11
  else if (uOwner n.kind.toNat = false ∧ n.owner ≠ []) ∨ (uNumber n.kind.toNat = false ∧ n.number ≠ 0) ∨ (uIndex n.kind.toNat = false ∧ n.index ≠ 0) ∨ (uText n.kind.toNat = false ∧ n.text ≠ []) then 1
  else if uOwner n.kind.toNat = true ∧ vname n.owner = false then 12
  else if (uNumber n.kind.toNat = true ∧ ¬ (0 ≤ n.number ∧ n.number ≤ 1073741824)) ∨ (uIndex n.kind.toNat = true ∧ ¬ (0 ≤ n.index ∧ n.index ≤ uMost n.kind.toNat)) then 2
  else if uText n.kind.toNat = true ∧ wordOK n.text = false then 12 else 0
/-- The value of a name. -/
def nameVal (k : Int) (o : ByteArray) (n i : Int) (t : ByteArray) : Value := .agg #[.int .i64 k, .string o, .int .i64 n, .int .i64 i, .string t]

/-- The same over the row of the kind. -/
def checkB (uo un ui ut : Bool) (um : Int) (o : List UInt8) (n i : Int) (t : List UInt8) : Int :=
  if (uo = false ∧ o ≠ []) ∨ (un = false ∧ n ≠ 0) ∨ (ui = false ∧ i ≠ 0) ∨ (ut = false ∧ t ≠ []) then 1
  else if uo = true ∧ vname o = false then 12
  else if (un = true ∧ ¬ (0 ≤ n ∧ n ≤ 1073741824)) ∨ (ui = true ∧ ¬ (0 ≤ i ∧ i ≤ um)) then 2
  else if ut = true ∧ wordOK t = false then 12 else 0
def CheckPost (x : Int) (w : World) (e : Ending) (w' : World) : Prop := e = .returned (.int .i64 x) ∧ Mods [] w w'

set_option maxRecDepth 100000 in
set_option maxHeartbeats 4000000 in
theorem check_core (k : Nat) (o t : ByteArray) (n i : Int) (w : World) (hk1 : 1 ≤ k) (hk2 : k ≤ 20) (ho : o.size ≤ 1000000000) (ht : t.size ≤ 1000000000) (uo un ui ut : Bool) (um : Int) (uw : ByteArray)
    (h0 : w.cell? ⟨0, k * 6, none⟩ = some (.string uw)) (h1 : w.cell? ⟨0, k * 6 + 1, none⟩ = some (.bool uo)) (h2 : w.cell? ⟨0, k * 6 + 2, none⟩ = some (.bool un))
    (h3 : w.cell? ⟨0, k * 6 + 3, none⟩ = some (.bool ui)) (h4 : w.cell? ⟨0, k * 6 + 4, none⟩ = some (.bool ut)) (h5 : w.cell? ⟨0, k * 6 + 5, none⟩ = some (.int .i64 um)) :
    Calls Tryz.prog 71 #[.agg #[.int .i64 k, .string o, .int .i64 n, .int .i64 i, .string t]] w (CheckPost (checkB uo un ui ut um o.data.toList n i t.data.toList) w) := by
  have g0 := lt_of_cell h0
  simp only at g0
  have eo := ByteArray.toList_eq o
  have et := ByteArray.toList_eq t
  have Eo := Lib.hid eo
  have Et := Lib.hid et
  clear eo et
  have k20 : decide ((k : Int) ≤ 20) = true := by simp; omega
  cases uo <;> cases un <;> cases ui <;> cases ut
  all_goals
    go_enter Tryz.func71, Tryz.ntmps71
    go_wp2_with (first | (go_at_call 107; refine (valid_any o (by omega) _).mono ?_; rintro e w1 ⟨rfl, hm1⟩; have hs1 := hm1.size; simp at hs1; obtain ⟨hc1, hf1⟩ := hm1.rules) | (go_at_call 109; refine (word_any t _ (by omega)).mono ?_; rintro e w2 ⟨rfl, rfl⟩) | (go_at_call 106; go_in) | (go_at_call 108; go_in))
    all_goals go_ret
    all_goals go_tidy
    all_goals refine ⟨congrArg (fun x => Ending.returned (Value.int .i64 x)) ?_, ?_⟩
    all_goals first
      | (exact (((Mods.refl [] w).alloc _).alloc _).trans' (by assumption))
      | (exact ((Mods.refl [] w).alloc _).alloc _)
      | skip
    all_goals (clear h0 h1 h2 h3 h4 h5 hk1 hk2 ho ht; have Eo' := Eo.out; have Et' := Et.out; clear Eo Et; simp only [Eo', Et'] at *; unfold checkB)
    all_goals first
      | (simp_all; done)
      | (simp_all; omega)
      | skip
end Go.Proofs.YtlaihnbappfbfaaGreatDoor

namespace Go.Proofs.YtlaihnbappfbfaaGreatDoor
open Go.RowKit

theorem checkV_bad {n : NameV} (h : ¬ (1 ≤ n.kind ∧ n.kind ≤ 20)) : checkV n = 11 := by unfold checkV; rw [if_pos h]
theorem checkV_core {k : Nat} (hk1 : 1 ≤ k) (hk2 : k ≤ 20) (o : List UInt8) (n i : Int) (t : List UInt8) :
    checkV ⟨k, o, n, i, t⟩ = checkB (uOwner k) (uNumber k) (uIndex k) (uText k) (uMost k) o n i t := by
  unfold checkV checkB
  rw [if_neg (by simp; omega)]
  simp only [Int.toNat_natCast]
theorem Usages.row {w : World} (h : Usages w) (k : Nat) (hk : k < 21) :
    w.cell? ⟨0, k * 6, none⟩ = some (.string ⟨(uWord k).toArray⟩) ∧ w.cell? ⟨0, k * 6 + 1, none⟩ = some (.bool (uOwner k)) ∧ w.cell? ⟨0, k * 6 + 2, none⟩ = some (.bool (uNumber k)) ∧
    w.cell? ⟨0, k * 6 + 3, none⟩ = some (.bool (uIndex k)) ∧ w.cell? ⟨0, k * 6 + 4, none⟩ = some (.bool (uText k)) ∧ w.cell? ⟨0, k * 6 + 5, none⟩ = some (.int .i64 (uMost k)) :=
  ⟨h k 0 hk (by omega), h k 1 hk (by omega), h k 2 hk (by omega), h k 3 hk (by omega), h k 4 hk (by omega), h k 5 hk (by omega)⟩

theorem check_any (k : Int) (o t : ByteArray) (n i : Int) (w : World) (hu : Usages w) (ho : o.size ≤ 1000000000) (ht : t.size ≤ 1000000000) :
    Calls Tryz.prog 71 #[nameVal k o n i t] w (CheckPost (checkV ⟨k, o.data.toList, n, i, t.data.toList⟩) w) := by
  by_cases hk : 1 ≤ k ∧ k ≤ 20
  · obtain ⟨k, rfl⟩ := Int.eq_ofNat_of_zero_le (show 0 ≤ k by omega)
    obtain ⟨h0, h1, h2, h3, h4, h5⟩ := hu.row k (by omega)
    rw [checkV_core (by omega) (by omega)]
    exact check_core k o t n i w (by omega) (by omega) ho ht _ _ _ _ _ _ h0 h1 h2 h3 h4 h5
  · rw [checkV_bad hk]
    have hk' : k < 1 ∨ 20 < k := by omega
    unfold nameVal
    clear hk
    rcases hk' with h | h
    · have b1 : decide (1 ≤ k) = false := by simp; omega
      go_enter Tryz.func71, Tryz.ntmps71
      go_wp2_with (go_at_call 106; go_in)
      go_ret
      exact ⟨rfl, (Mods.refl [] w).alloc _⟩
    · have b1 : decide (1 ≤ k) = true := by simp; omega
      have b2 : decide (k ≤ 20) = false := by simp; omega
      go_enter Tryz.func71, Tryz.ntmps71
      go_wp2_with (go_at_call 106; go_in)
      go_ret
      exact ⟨rfl, (Mods.refl [] w).alloc _⟩
end Go.Proofs.YtlaihnbappfbfaaGreatDoor
