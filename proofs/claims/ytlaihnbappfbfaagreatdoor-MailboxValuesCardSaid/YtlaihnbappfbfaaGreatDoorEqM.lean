/- Two messages compared by value; slices.Equal of messages; Equal of two mailboxes. -/
import Derived.Test.YtlaihnbappfbfaaGreatDoorB1
import Derived.Laws.StructEq
import Derived.Deep.QuietTactic
import Derived.BigQuiet
namespace Go.Proofs.YtlaihnbappfbfaaGreatDoor
open Go.RowKit

theorem oneInt : (Tryz.prog.info? 3).map (·.size) = some 1 := by kernel_rfl
theorem oneStr : (Tryz.prog.info? 9).map (·.size) = some 1 := by kernel_rfl
theorem oneBool : (Tryz.prog.info? 4).map (·.size) = some 1 := by kernel_rfl
theorem heldMsg : Tryz.prog.stoodInHeld 57 = false := by kernel_rfl
theorem guardMsg : Tryz.prog.eqGuardType Tryz.prog.depth 57 = false := by kernel_rfl
/-- Two messages are equal. -/
def eqMsg (a b : MsgB) : Bool := a.number == b.number && (a.sender.toList == b.sender.toList) && a.second == b.second && (a.text.toList == b.text.toList) && (a.seen == b.seen)
theorem eqMsg_iff (a b : MsgB) : eqMsg a b = true ↔ a = b := by
  obtain ⟨n, f, s, t, e⟩ := a
  obtain ⟨n', f', s', t', e'⟩ := b
  have hb : ∀ x y : ByteArray, x.toList = y.toList ↔ x = y := fun x y => by
    rw [ByteArray.toList_eq, ByteArray.toList_eq]
    exact ⟨fun h => ByteArray.ext (Array.ext' h), fun h => by rw [h]⟩
  simp only [eqMsg, Bool.and_eq_true, beq_iff_eq, hb, MsgB.mk.injEq, and_assoc]
theorem neq_msg (a b : MsgB) (w : World) :
    (binOp .neq 57 (.agg #[.int .i64 a.number, .string a.sender, .int .i64 a.second, .string a.text, .bool a.seen]) (.agg #[.int .i64 b.number, .string b.sender, .int .i64 b.second, .string b.text, .bool b.seen])).run Tryz.prog w =
      .ok (.bool (!(eqMsg a b))) w := by
  obtain ⟨n, f, s, t, e⟩ := a
  obtain ⟨n', f', s', t', e'⟩ := b
  rw [run_neq_struct, run_equalIn_struct w 9999 57 _ _ (by simp [Program.fieldsOf, Tryz.underlying57]) heldMsg]
  have a3 : (isAgg 3).run Tryz.prog w = .ok false w := by unfold isAgg; rw [Sem.run_bind, run_underlying Tryz.underlying3 w]; rfl
  have a9 : (isAgg 9).run Tryz.prog w = .ok false w := by unfold isAgg; rw [Sem.run_bind, run_underlying Tryz.underlying9 w]; rfl
  have a4 : (isAgg 4).run Tryz.prog w = .ok false w := by unfold isAgg; rw [Sem.run_bind, run_underlying Tryz.underlying4 w]; rfl
  have i3 : ∀ a b : Int, (Op.equalIn 9999 3 (.int .i64 a) (.int .i64 b)).run Tryz.prog w = .ok (a == b) w := fun a b => run_equalIn_int w 9998 3 _ _ a b Tryz.underlying3
  have s9 : ∀ a b : ByteArray, (Op.equalIn 9999 9 (.string a) (.string b)).run Tryz.prog w = .ok (a.toList == b.toList) w := fun a b => run_equalIn_string w 9998 9 a b Tryz.underlying9
  have b4 : ∀ a b : Bool, (Op.equalIn 9999 4 (.bool a) (.bool b)).run Tryz.prog w = .ok (a == b) w := fun a b => run_equalIn_bool w 9998 4 a b Tryz.underlying4
  simp only [Program.fieldsOf, Tryz.underlying57, eqMsg]
  simp [Op.eqFields, part, Sem.run_bind, a3, go_sem]
  by_cases h1 : n = n' <;> by_cases h2 : f.toList = f'.toList <;> by_cases h3 : s = s' <;> by_cases h4 : t.toList = t'.toList <;> by_cases h5 : e = e' <;> simp [h1, h2, h3, h4, h5]

def eqMsgs : List MsgB → List MsgB → Bool
  | [], [] => true
  | a :: r, b :: q => eqMsg a b && eqMsgs r q
  | _, _ => false
theorem eqMsgs_iff (a b : List MsgB) : eqMsgs a b = true ↔ a = b := by
  induction a generalizing b with
  | nil => cases b <;> simp [eqMsgs]
  | cons x r ih =>
    cases b with
    | nil => simp [eqMsgs]
    | cons y q => simp [eqMsgs, eqMsg_iff, ih]
theorem eqMsgs_ne {a b : List MsgB} (h : a.length ≠ b.length) : eqMsgs a b = false := by
  cases he : eqMsgs a b with
  | false => rfl
  | true => exact absurd (congrArg List.length ((eqMsgs_iff a b).1 he)) h

set_option maxRecDepth 100000 in
set_option maxHeartbeats 1000000 in
theorem sliceEq_any {w : World} {v v' : Value} {l l' : List MsgB} (hv : MsgsAt w v l) (hv' : MsgsAt w v' l') :
    Calls Tryz.prog 55 #[v, v'] w fun e w' => e = .returned (.bool (eqMsgs l l')) ∧ ∃ n, w' = w.drewN n := by
  obtain ⟨p, cap, rfl, hcap, hln, hat⟩ := hv
  obtain ⟨p', cap', rfl, hcap', hln', hat'⟩ := hv'
  have HAT := Lib.hid hat
  have HAT' := Lib.hid hat'
  clear hat hat'
  by_cases hne : l.length = l'.length
  · obtain ⟨E, hE⟩ : ∃ E, eqMsgs l l' = E := ⟨_, rfl⟩
    rw [hE]
    have HE : Hid (E = eqMsgs l l') := hE.symm
    have HNE := Lib.hid hne
    obtain ⟨L, hL⟩ : ∃ L, l.length = L := ⟨_, rfl⟩
    rw [hL] at hcap hln hne ⊢
    rw [← hne] at hcap' hln' ⊢
    have HL := Lib.hid hL
    have hnm := fun a b => neq_msg a b
    clear hE hne hL
    go_enter Tryz.func55, Tryz.ntmps55
    go_wp2
    go_loopw [5, 13] (fun _ i wr => ∃ k m : Nat, i = .int .i64 k ∧ k ≤ L ∧ wr = w.drewN m ∧ Hid (E = eqMsgs (l.drop k) (l'.drop k))) (fun _ i _ => L - (intOf i).toNat)
    case atStart => exact ⟨0, 0, rfl, by omega, rfl, HE⟩
    case round =>
      clear HE
      obtain ⟨k, m, rfl, hk, rfl, hRk⟩ := hrel
      by_cases hlt : k < L
      · have hkl : k < l.length := by rw [HL.out]; exact hlt
        have hkl' : k < l'.length := by rw [← HNE.out]; exact hkl
        obtain ⟨B, off, rfl, hcell⟩ := HAT.out.resolve_left (by rintro rfl; simp at hkl)
        obtain ⟨B', off', rfl, hcell'⟩ := HAT'.out.resolve_left (by rintro rfl; simp at hkl')
        obtain ⟨a, ha⟩ : ∃ a, l[k] = a := ⟨_, rfl⟩
        obtain ⟨b, hb⟩ : ∃ b, l'[k] = b := ⟨_, rfl⟩
        have hr := hcell k hkl
        have hr' := hcell' k hkl'
        rw [ha] at hr
        rw [hb] at hr'
        obtain ⟨c0, c1, c2, c3, c4⟩ := msg_cells hr
        obtain ⟨d0, d1, d2, d3, d4⟩ := msg_cells hr'
        have hd : l.drop k = a :: l.drop (k + 1) := by rw [List.drop_eq_getElem_cons hkl, ha]
        have hd' : l'.drop k = b :: l'.drop (k + 1) := by rw [List.drop_eq_getElem_cons hkl', hb]
        have hRk' : Hid (E = (eqMsg a b && eqMsgs (l.drop (k + 1)) (l'.drop (k + 1)))) := by
          show _ = _; rw [hRk.out, hd, hd']; rfl
        have hnm' := fun W => hnm a b W
        obtain ⟨q, hq⟩ : ∃ q, eqMsg a b = q := ⟨_, rfl⟩
        rw [hq] at hRk'
        simp only [hq] at hnm'
        have hkn : (k : Int) < (L : Int) := by omega
        clear hr hr' hcell hcell' ha hb hd hd' hRk hkl hkl' hnm hq
        cases q
        · have hR : Hid (E = false) := by show _ = _; rw [hRk'.out]; rfl
          clear hRk'
          go_wp2
          go_quiet (fail)
          go_wp2
          go_ret
          rw [hR.out]; exact ⟨rfl, _, drewN_twice _ _ _⟩
        · have hR : Hid (E = eqMsgs (l.drop (k + 1)) (l'.drop (k + 1))) := by show _ = _; rw [hRk'.out]; rfl
          clear hRk'
          go_wp2
          go_quiet (fail)
          go_wp2
          go_round
          case rel => exact ⟨k + 1, _, by go_num, by omega, rfl, hR⟩
          case measure => simp [intOf] <;> omega
      · have hR : Hid (E = true) := by
          show _ = _
          rw [hRk.out, List.drop_eq_nil_of_le (by rw [HL.out]; omega), List.drop_eq_nil_of_le (by rw [← HNE.out, HL.out]; omega)]; rfl
        have hkn : ¬ (k : Int) < (L : Int) := by omega
        clear hRk
        go_wp2
        go_ret
        rw [hR.out]; exact ⟨rfl, _, rfl⟩
  · have hE := eqMsgs_ne hne
    rw [hE]
    have hne' : ¬ (l.length : Int) = (l'.length : Int) := by omega
    have hneb : ((l.length : Int) != (l'.length : Int)) = true := by simp; omega
    clear hE hne
    go_enter Tryz.func55, Tryz.ntmps55
    go_wp2
    go_ret
    exact ⟨rfl, 0, rfl⟩

set_option maxRecDepth 100000 in
set_option maxHeartbeats 1000000 in
theorem boxEqual_any {w : World} (n n' : Int) {v v' : Value} {l l' : List MsgB} (hv : MsgsAt w v l) (hv' : MsgsAt w v' l') :
    Calls Tryz.prog 24 #[.agg #[.int .i64 n, v], .agg #[.int .i64 n', v']] w fun e w' => e = .returned (.bool (n == n' && eqMsgs l l')) ∧ Mods [] w w' := by
  have hM : Mods [] w ((w.alloc (.cells #[.int .i64 n, v] 34)).alloc (.cells #[.int .i64 n', v'] 34)) := ((Mods.refl _ _).alloc _).alloc _
  have hse := sliceEq_any (hv.keep hM) (hv'.keep hM)
  obtain ⟨p, cap, rfl, _, _, _⟩ := hv
  obtain ⟨p', cap', rfl, _, _, _⟩ := hv'
  have HSE := Lib.hid hse
  have HM := Lib.hid hM
  generalize eqMsgs l l' = E at *
  clear hse hM
  by_cases h : n = n'
  · have hb : (n == n') = true := by simpa using h
    rw [hb]
    clear h
    go_enter Tryz.func24, Tryz.ntmps24
    go_wp2_with (go_at_call 55; refine HSE.out.mono ?_; rintro e w1 ⟨rfl, m, rfl⟩)
    go_ret
    exact ⟨rfl, HM.out.drewN _⟩
  · have hb : (n == n') = false := by simpa using h
    rw [hb]
    clear h
    go_enter Tryz.func24, Tryz.ntmps24
    go_wp2_with (go_at_call 55; refine HSE.out.mono ?_; rintro e w1 ⟨rfl, m, rfl⟩)
    go_ret
    exact ⟨rfl, HM.out⟩
end Go.Proofs.YtlaihnbappfbfaaGreatDoor
