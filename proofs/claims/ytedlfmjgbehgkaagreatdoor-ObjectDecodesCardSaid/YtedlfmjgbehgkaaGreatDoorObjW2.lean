/- Walks of object: Check of a name. -/
import Derived.Test.YtedlfmjgbehgkaaGreatDoorObjW1
namespace Go.Proofs.YtedlfmjgbehgkaaGreatDoor
open Go.RowKit

structure NameV where
  kind : Int
  owner : List UInt8
  number : Int
  index : Int
  text : List UInt8
/-- The first error of a name. -/
def checkV (n : NameV) : Int :=
  if ¬ (1 ≤ n.kind ∧ n.kind ≤ 20) then 11
  else if (uOwner n.kind.toNat = false ∧ n.owner ≠ []) ∨ (uNumber n.kind.toNat = false ∧ n.number ≠ 0) ∨ (uIndex n.kind.toNat = false ∧ n.index ≠ 0) ∨ (uText n.kind.toNat = false ∧ n.text ≠ []) then 1
  else if uOwner n.kind.toNat = true ∧ vname n.owner = false then 12
  else if (uNumber n.kind.toNat = true ∧ ¬ (0 ≤ n.number ∧ n.number ≤ 1073741824)) ∨ (uIndex n.kind.toNat = true ∧ ¬ (0 ≤ n.index ∧ n.index ≤ uMost n.kind.toNat)) then 2
  else if uText n.kind.toNat = true ∧ wordOK n.text = false then 12 else 0
/-- The value of a name. -/
def nameVal (k : Int) (o : ByteArray) (n i : Int) (t : ByteArray) : Value := .agg #[.int .i64 k, .string o, .int .i64 n, .int .i64 i, .string t]

/-- The same over the row of the kind. -/
def checkB (uo un ui ut : Bool) (um : Int) (o : List UInt8) (n i : Int) (t : List UInt8) : Int :=
  if (uo = false ∧ o ≠ []) ∨ (un = false ∧ n ≠ 0) ∨ (ui = false ∧ i ≠ 0) ∨ (ut = false ∧ t ≠ []) then 1
  else if uo = true ∧ vname o = false then 12
  else if (un = true ∧ ¬ (0 ≤ n ∧ n ≤ 1073741824)) ∨ (ui = true ∧ ¬ (0 ≤ i ∧ i ≤ um)) then 2
  else if ut = true ∧ wordOK t = false then 12 else 0
def CheckPost (x : Int) (w : World) (e : Ending) (w' : World) : Prop := e = .returned (.int .i64 x) ∧ Mods [] w w'

set_option maxRecDepth 100000 in
set_option maxHeartbeats 4000000 in
theorem check_core (k : Nat) (o t : ByteArray) (n i : Int) (w : World) (hk1 : 1 ≤ k) (hk2 : k ≤ 20) (ho : o.size ≤ 1000000000) (ht : t.size ≤ 1000000000) (uo un ui ut : Bool) (um : Int) (uw : ByteArray)
    (h0 : w.cell? ⟨0, k * 6, none⟩ = some (.string uw)) (h1 : w.cell? ⟨0, k * 6 + 1, none⟩ = some (.bool uo)) (h2 : w.cell? ⟨0, k * 6 + 2, none⟩ = some (.bool un))
    (h3 : w.cell? ⟨0, k * 6 + 3, none⟩ = some (.bool ui)) (h4 : w.cell? ⟨0, k * 6 + 4, none⟩ = some (.bool ut)) (h5 : w.cell? ⟨0, k * 6 + 5, none⟩ = some (.int .i64 um)) :
    Calls Tryz.prog 22 #[.agg #[.int .i64 k, .string o, .int .i64 n, .int .i64 i, .string t]] w (CheckPost (checkB uo un ui ut um o.data.toList n i t.data.toList) w) := by
  have g0 := lt_of_cell h0
  simp only at g0
  have eo := ByteArray.toList_eq o
  have et := ByteArray.toList_eq t
  have Eo := Lib.hid eo
  have Et := Lib.hid et
  clear eo et
  have k20 : decide ((k : Int) ≤ 20) = true := by simp; omega
  cases uo <;> cases un <;> cases ui <;> cases ut
  all_goals
    go_enter Tryz.func22, Tryz.ntmps22
    go_wp2_with (first | (go_at_call 51; refine (valid_any o (by omega) _).mono ?_; rintro e w1 ⟨rfl, hm1⟩; have hs1 := hm1.size; simp at hs1; obtain ⟨hc1, hf1⟩ := hm1.rules) | (go_at_call 53; refine (word_any t _ (by omega)).mono ?_; rintro e w2 ⟨rfl, rfl⟩) | (go_at_call 41; go_in) | (go_at_call 52; go_in))
    all_goals go_ret
    all_goals go_tidy
    all_goals refine ⟨congrArg (fun x => Ending.returned (Value.int .i64 x)) ?_, ?_⟩
    all_goals first
      | (exact (((Mods.refl [] w).alloc _).alloc _).trans' (by assumption))
      | (exact ((Mods.refl [] w).alloc _).alloc _)
      | skip
    all_goals (clear h0 h1 h2 h3 h4 h5 hk1 hk2 ho ht; have Eo' := Eo.out; have Et' := Et.out; clear Eo Et; simp only [Eo', Et'] at *; unfold checkB)
    all_goals first
      | (simp_all; done)
      | (simp_all; omega)
      | skip
end Go.Proofs.YtedlfmjgbehgkaaGreatDoor
