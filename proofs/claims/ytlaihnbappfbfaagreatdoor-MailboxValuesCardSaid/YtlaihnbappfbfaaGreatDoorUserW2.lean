/- Walks: small parts of user: first, isUser, increases, the search for a group that is none. -/
import Derived.Test.YtlaihnbappfbfaaGreatDoorMailW2
namespace Go.Proofs.YtlaihnbappfbfaaGreatDoor
open Go.RowKit

/-- The slice value v holds the numbers l. -/
def IntsAt (w : World) (v : Value) (l : List Int) : Prop :=
  ∃ p cap, v = .slice p l.length cap ∧ l.length ≤ cap ∧ l.length ≤ 1000000000000 ∧ (l = [] ∨ ∃ B off, p = some ⟨B, off, none⟩ ∧ ∀ i, (h : i < l.length) → w.cell? ⟨B, off + i, none⟩ = some (.int .i64 l[i]))
theorem IntsAt.keep {w w' : World} {v : Value} {l : List Int} (h : IntsAt w v l) (hm : Mods [] w w') : IntsAt w' v l := by
  obtain ⟨p, cap, rfl, hcap, hl, h⟩ := h
  exact ⟨p, cap, rfl, hcap, hl, h.imp id fun ⟨B, off, e, hc⟩ => ⟨B, off, e, fun i hi => hm.keep (hc i hi)⟩⟩
theorem IntsAt.nil (w : World) : IntsAt w (.slice none 0 0) [] := ⟨none, 0, rfl, by simp, by simp, .inl rfl⟩

theorem drewN_twice (w : World) (a b : Nat) : (w.drewN a).drewN b = w.drewN (a + b) := by
  simp [World.drewN, Nat.add_assoc]

/-- The first error of a list, or none. -/
def firstE : List Int → Int
  | [] => 0
  | x :: r => if x = 0 then firstE r else x

set_option maxRecDepth 100000 in
theorem uFirst_any {w : World} {B off cap : Nat} (l : List Int) (hl : l.length ≤ 1000000) (h : ∀ i, (hi : i < l.length) → w.cell? ⟨B, off + i, none⟩ = some (.int .i64 l[i])) :
    Calls Tryz.prog 93 #[.slice (some ⟨B, off, none⟩) l.length cap] w fun e w' => e = .returned (.int .i64 (firstE l)) ∧ w = w' := by
  have H := Lib.hid h
  clear h
  obtain ⟨n, hn⟩ : ∃ n, l.length = n := ⟨_, rfl⟩
  have Hn := Lib.hid hn
  rw [hn] at hl ⊢
  clear hn
  go_enter Tryz.func93, Tryz.ntmps93
  go_wp2
  go_loop [4, 7] (fun _ i => ∃ k : Nat, i = .int .i64 k ∧ k ≤ n ∧ Hid (firstE l = firstE (l.drop k))) (fun _ i => n - (intOf i).toNat)
  case atStart => exact ⟨0, rfl, by omega, rfl⟩
  case round =>
    obtain ⟨k, rfl, hk, ha⟩ := hrel
    by_cases hlt : k < n
    · have hkl : k < l.length := by rw [Hn.out]; exact hlt
      have hc := H.out k hkl
      have hd := List.drop_eq_getElem_cons hkl
      obtain ⟨x, hx⟩ : ∃ x, l[k] = x := ⟨_, rfl⟩
      rw [hx] at hc hd
      by_cases hx0 : x = 0
      · have ha' : Hid (firstE l = firstE (l.drop (k + 1))) := by
          show _ = _
          rw [ha.out, hd]
          show (if x = 0 then _ else _) = _
          rw [if_pos hx0]
        have hx0' : (x != 0) = false := by simpa using hx0
        clear hd hx hx0
        go_wp2
        go_round
        case rel => exact ⟨k + 1, by go_num, by omega, ha'⟩
        case measure => simp [intOf] <;> omega
      · have ha' : Hid (firstE l = x) := by
          show _ = _
          rw [ha.out, hd]
          show (if x = 0 then _ else _) = _
          rw [if_neg hx0]
        have hx0' : (x != 0) = true := by simpa using hx0
        clear hd hx hx0
        go_wp2
        go_ret
        rw [ha'.out]; exact ⟨rfl, rfl⟩
    · have ha' : Hid (firstE l = 0) := by
        show _ = _
        rw [ha.out, List.drop_eq_nil_of_le (by rw [Hn.out]; omega)]; rfl
      go_wp2
      go_ret
      rw [ha'.out]; exact ⟨rfl, rfl⟩

def isUserB (n : Int) : Bool := decide (0 ≤ n) && decide (n ≤ 65535)
theorem isUser_any (n : Int) (w : World) : Calls Tryz.prog 120 #[.int .i64 n] w fun e w' => e = .returned (.bool (isUserB n)) ∧ w = w' := by
  by_cases h1 : 0 ≤ n
  · have hw : Hid (isUserB n = decide (n ≤ 65535)) := by show _ = _; simp [isUserB, h1]
    go_enter Tryz.func120, Tryz.ntmps120
    go_wp2
    go_ret
    rw [hw.out]; exact ⟨rfl, rfl⟩
  · have hw : Hid (isUserB n = false) := by show _ = _; simp [isUserB, h1]
    have h1' : decide (0 ≤ n) = false := by simpa using h1
    go_enter Tryz.func120, Tryz.ntmps120
    go_wp2
    go_ret
    rw [hw.out]; exact ⟨rfl, rfl⟩
theorem isNone_any (n : Int) (w : World) : Calls Tryz.prog 119 #[.int .i64 n] w fun e w' => e = .returned (.bool (!isUserB n)) ∧ w = w' := by
  go_enter Tryz.func119, Tryz.ntmps119
  go_wp2_with (go_at_call 120; refine (isUser_any _ _).mono ?_; rintro e w1 ⟨rfl, rfl⟩)
  go_ret
  exact ⟨rfl, rfl⟩
def whenF (b : Bool) (x : Int) : Int := if b then x else 0
theorem when_any (b : Bool) (x : Int) (w : World) : Calls Tryz.prog 95 #[.bool b, .int .i64 x] w fun e w' => e = .returned (.int .i64 (whenF b x)) ∧ w = w' := by
  cases b
  all_goals
    go_enter Tryz.func95, Tryz.ntmps95
    go_wp2
    go_ret
    exact ⟨rfl, rfl⟩

/-- Each number is greater than the one ahead of it. -/
def incr : List Int → Bool
  | [] => true
  | x :: r => (match r with | [] => true | y :: _ => decide (x < y)) && incr r

set_option maxRecDepth 100000 in
theorem increases_any {w : World} {v : Value} {l : List Int} (h : IntsAt w v l) :
    Calls Tryz.prog 122 #[v] w fun e w' => e = .returned (.bool (incr l)) ∧ ∃ n, w' = w.drewN n := by
  obtain ⟨p, cap, rfl, hcap, hl, h⟩ := h
  obtain ⟨n, hn⟩ : ∃ n, l.length = n := ⟨_, rfl⟩
  have Hn := Lib.hid hn
  rw [hn] at hl hcap ⊢
  by_cases h2 : n ≤ 1
  · have hi : Hid (incr l = true) := by
      show _ = _
      rcases l with _ | ⟨x, _ | ⟨y, r⟩⟩
      · rfl
      · rfl
      · simp at hn; omega
    have h2' : ¬ (1 : Int) < (n : Int) := by omega
    clear hn h
    go_enter Tryz.func122, Tryz.ntmps122
    go_wp2
    go_loopw [3] (fun i wr => i = .int .i64 1 ∧ wr = w) (fun _ _ => 0)
    case atStart => exact ⟨rfl, rfl⟩
    case round =>
      obtain ⟨rfl, rfl⟩ := hrel
      go_wp2
      go_ret
      rw [hi.out]; exact ⟨rfl, 0, rfl⟩
  have hne : l ≠ [] := by rintro rfl; simp at hn; omega
  obtain ⟨B, off, rfl, hc⟩ := h.resolve_left hne
  have H := Lib.hid hc
  clear hn h hc hne
  go_enter Tryz.func122, Tryz.ntmps122
  go_wp2
  go_loopw [3] (fun i wr => ∃ j m : Nat, i = .int .i64 ((j : Int) + 1) ∧ j < n ∧ wr = w.drewN m ∧ Hid (incr l = incr (l.drop j))) (fun i _ => n - (intOf i).toNat)
  case atStart => exact ⟨0, 0, by go_num, by omega, rfl, rfl⟩
  case round =>
    obtain ⟨j, m, rfl, hj, rfl, ha⟩ := hrel
    have hjl : j < l.length := by rw [Hn.out]; exact hj
    by_cases hlt : j + 1 < n
    · have hjl2 : j + 1 < l.length := by rw [Hn.out]; exact hlt
      have c0 := H.out j hjl
      have c1 := H.out (j + 1) hjl2
      have hd : l.drop j = l[j] :: l[j + 1] :: l.drop (j + 2) := by rw [List.drop_eq_getElem_cons hjl, List.drop_eq_getElem_cons hjl2]
      have hd2 : l.drop (j + 1) = l[j + 1] :: l.drop (j + 2) := List.drop_eq_getElem_cons hjl2
      obtain ⟨x, hx⟩ : ∃ x, l[j] = x := ⟨_, rfl⟩
      obtain ⟨y, hy⟩ : ∃ y, l[j + 1] = y := ⟨_, rfl⟩
      rw [hx] at c0 hd
      rw [hy] at c1 hd hd2
      have hlt' : (j : Int) + 1 < (n : Int) := by omega
      have hj' : (j : Int) < (n : Int) := by omega
      by_cases hxy : x < y
      · have ha' : Hid (incr l = incr (l.drop (j + 1))) := by
          show _ = _
          rw [ha.out, hd, hd2]
          show (decide (x < y) && incr (y :: _)) = _
          simp [hxy]
        have hxy' : ¬ y ≤ x := by omega
        clear hd hd2 hx hy
        go_wp2
        go_quiet (fail)
        go_wp2
        go_round
        case rel => exact ⟨j + 1, _, by go_num, by omega, rfl, ha'⟩
        case measure => simp [intOf] <;> omega
      · have ha' : Hid (incr l = false) := by
          show _ = _
          rw [ha.out, hd]
          show (decide (x < y) && incr (y :: _)) = _
          simp [hxy]
        have hxy' : y ≤ x := by omega
        clear hd hd2 hx hy
        go_wp2
        go_quiet (fail)
        go_wp2
        go_ret
        rw [ha'.out]; exact ⟨rfl, _, drewN_twice _ _ _⟩
    · have ha' : Hid (incr l = true) := by
        show _ = _
        rw [ha.out, List.drop_eq_getElem_cons hjl, List.drop_eq_nil_of_le (by rw [Hn.out]; omega)]
        rfl
      have hlt' : ¬ (j : Int) + 1 < (n : Int) := by omega
      go_wp2
      go_ret
      rw [ha'.out]; exact ⟨rfl, _, rfl⟩

set_option maxRecDepth 100000 in
/-- slices.ContainsFunc of the groups that are none. -/
theorem containsNone_any {w : World} {v : Value} {l : List Int} (h : IntsAt w v l) :
    Calls Tryz.prog 121 #[v, .func (.func 119) #[] #[]] w fun e w' => e = .returned (.bool (l.any fun n => !isUserB n)) ∧ ∃ n, w' = w.drewN n := by
  obtain ⟨p, cap, rfl, hcap, hl, h⟩ := h
  obtain ⟨n, hn⟩ : ∃ n, l.length = n := ⟨_, rfl⟩
  have Hn := Lib.hid hn
  have H : Hid (∀ i, (hi : i < l.length) → ∃ B off, p = some ⟨B, off, none⟩ ∧ w.cell? ⟨B, off + i, none⟩ = some (.int .i64 l[i])) := by
    show ∀ _, _
    intro i hi
    rcases h with rfl | ⟨B, off, e, hc⟩
    · simp at hi
    · exact ⟨B, off, e, hc i hi⟩
  rw [hn] at hl hcap ⊢
  clear hn h
  have hidx : Calls Tryz.prog 154 #[.slice p n cap, .func (.func 119) #[] #[]] w fun e w' => (∃ x : Int, e = .returned (.int .i64 x) ∧ decide (0 ≤ x) = l.any fun n => !isUserB n) ∧ ∃ n, w' = w.drewN n := by
    go_enter Tryz.func154, Tryz.ntmps154
    go_wp2
    go_loopw [5, 8] (fun _ i wr => ∃ j m : Nat, i = .int .i64 j ∧ j ≤ n ∧ wr = w.drewN m ∧ Hid ((l.any fun n => !isUserB n) = ((l.drop j).any fun n => !isUserB n))) (fun _ i _ => n - (intOf i).toNat)
    case atStart => exact ⟨0, 0, rfl, by omega, rfl, rfl⟩
    case round =>
      obtain ⟨j, m, rfl, hj, rfl, ha⟩ := hrel
      by_cases hlt : j < n
      · have hjl : j < l.length := by rw [Hn.out]; exact hlt
        obtain ⟨B, off, rfl, c0⟩ := H.out j hjl
        have hd : l.drop j = l[j] :: l.drop (j + 1) := List.drop_eq_getElem_cons hjl
        obtain ⟨x, hx⟩ : ∃ x, l[j] = x := ⟨_, rfl⟩
        rw [hx] at c0 hd
        have hno := fun W => isNone_any x W
        obtain ⟨b, hb⟩ : ∃ b, isUserB x = b := ⟨_, rfl⟩
        rw [hb] at hno
        have ha' : Hid ((l.any fun n => !isUserB n) = (!b || ((l.drop (j + 1)).any fun n => !isUserB n))) := by
          show _ = _
          rw [ha.out, hd, List.any_cons, hb]
        clear hd hx hb ha
        cases b
        · have ha2 : Hid ((l.any fun n => !isUserB n) = true) := by show _ = _; rw [ha'.out]; rfl
          clear ha'
          go_wp2_with (go_at_call 119; refine (hno _).mono ?_; rintro e w3 ⟨rfl, rfl⟩)
          go_ret
          refine ⟨⟨j, rfl, ?_⟩, _, rfl⟩
          rw [ha2.out]; simp
        · have ha2 : Hid ((l.any fun n => !isUserB n) = ((l.drop (j + 1)).any fun n => !isUserB n)) := by show _ = _; rw [ha'.out]; rfl
          clear ha'
          go_wp2_with (go_at_call 119; refine (hno _).mono ?_; rintro e w3 ⟨rfl, rfl⟩)
          go_round
          case rel => exact ⟨j + 1, _, by go_num, by omega, rfl, ha2⟩
          case measure => simp [intOf] <;> omega
      · have ha' : Hid ((l.any fun n => !isUserB n) = false) := by
          show _ = _
          rw [ha.out, List.drop_eq_nil_of_le (by rw [Hn.out]; omega)]; rfl
        go_wp2
        go_ret
        refine ⟨⟨-1, rfl, ?_⟩, _, rfl⟩
        rw [ha'.out]; rfl
  go_enter Tryz.func121, Tryz.ntmps121
  go_wp2_with (go_at_call 154; refine hidx.mono ?_; rintro e w3 ⟨⟨x, rfl, hx⟩, m, rfl⟩)
  go_ret
  exact ⟨rfl, _, rfl⟩
end Go.Proofs.YtlaihnbappfbfaaGreatDoor
