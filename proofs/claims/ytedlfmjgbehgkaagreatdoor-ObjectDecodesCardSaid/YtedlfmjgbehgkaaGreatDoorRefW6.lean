/- Walks of the reference of layer 4: Check. -/
import Derived.Test.YtedlfmjgbehgkaaGreatDoorRefW4
import Derived.Test.YtedlfmjgbehgkaaGreatDoorRefW5
import Derived.Test.YtedlfmjgbehgkaaGreatDoorObjW4
import Derived.Deep.QuietTactic
namespace Go.Proofs.YtedlfmjgbehgkaaGreatDoor
open Go.RowKit

def argBad (uo un ui ut : Bool) (o : List UInt8) (n i : Int) (t : List UInt8) : Prop := (uo = false ∧ o ≠ []) ∨ (un = false ∧ n ≠ 0) ∨ (ui = false ∧ i ≠ 0) ∨ (ut = false ∧ t ≠ [])
theorem checkB_arg {uo un ui ut : Bool} {um : Int} {o t : List UInt8} {n i : Int} (h : argBad uo un ui ut o n i t) : checkB uo un ui ut um o n i t = 1 := if_pos h

set_option maxRecDepth 100000 in
set_option maxHeartbeats 4000000 in
theorem refCheck_core (k : Int) (o t : ByteArray) (n i : Int) (w : World) (hk1 : 1 ≤ k) (hk2 : k ≤ 20) (ho : o.size ≤ 1000000000) (ht : t.size ≤ 1000000000) (uo un ui ut : Bool) (mo um : Int)
    (hmt : ui = true → mo = um ∧ 0 ≤ um) (hmf : ui = false → mo = -1)
    (H113 : ∀ w, Calls Tryz.prog 24 #[.int .i64 k] w fun e w' => e = .returned (.bool uo) ∧ w = w')
    (H115 : ∀ w, Calls Tryz.prog 26 #[.int .i64 k] w fun e w' => e = .returned (.bool un) ∧ w = w')
    (H116 : ∀ w, Calls Tryz.prog 27 #[.int .i64 k] w fun e w' => e = .returned (.int .i64 mo) ∧ w = w')
    (H117 : ∀ w, Calls Tryz.prog 28 #[.int .i64 k] w fun e w' => e = .returned (.bool ut) ∧ w = w') :
    Calls Tryz.prog 55 #[.agg #[.int .i64 k, .string o, .int .i64 n, .int .i64 i, .string t]] w (CheckPost (checkB uo un ui ut um o.data.toList n i t.data.toList) w) := by
  have k0 : ¬ k < 1 := by omega
  have k20 : ¬ 20 < k := by omega
  have hmm : (ui = false ∧ mo = -1) ∨ (ui = true ∧ mo = um ∧ 0 ≤ um) := by
    cases ui with
    | true => exact .inr ⟨rfl, hmt rfl⟩
    | false => exact .inl ⟨rfl, hmf rfl⟩
  have H3 := Lib.hid H113
  have H5 := Lib.hid H115
  have H6 := Lib.hid H116
  have H7 := Lib.hid H117
  have Eo := Lib.hid (ByteArray.toList_eq o)
  have Et := Lib.hid (ByteArray.toList_eq t)
  have Hmm := Lib.hid hmm
  clear hmt hmf H113 H115 H116 H117 hmm
  go_enter Tryz.func55, Tryz.ntmps55
  go_upto_region 4 with fail
  go_cut [1, 3, 13] (fun p q b wc => p = .pointer (some ⟨w.heap.size, 0, none⟩) ∧ q = .int .i64 k ∧ (∃ x, b = .bool x ∧ Hid (x = true ↔ argBad uo un ui ut o.data.toList n i t.data.toList)) ∧ wc.heap[w.heap.size]? = some (.cells #[.int .i64 k, .string o, .int .i64 n, .int .i64 i, .string t] 30 (0, 0)) ∧ Mods [] w wc)
  case first =>
    rcases Hmm.out with ⟨rfl, rfl⟩ | ⟨rfl, rfl, hum⟩ <;> cases uo <;> cases un <;> cases ut
    all_goals
      go_wp2_with (first | (go_at_call 24; refine (H3.out _).mono ?_; rintro e w1 ⟨rfl, rfl⟩) | (go_at_call 26; refine (H5.out _).mono ?_; rintro e w1 ⟨rfl, rfl⟩) | (go_at_call 27; refine (H6.out _).mono ?_; rintro e w1 ⟨rfl, rfl⟩) | (go_at_call 28; refine (H7.out _).mono ?_; rintro e w1 ⟨rfl, rfl⟩))
      all_goals subst_vars
      all_goals go_meet
      all_goals refine ⟨rfl, rfl, ⟨_, rfl, ?_⟩, heap_alloc_new w _, (Mods.refl [] w).alloc _⟩
      all_goals (show _ ↔ _; unfold argBad; rw [← Eo.out, ← Et.out])
      all_goals (clear H3 H5 H6 H7 Eo Et; simp_all)
  case rest =>
    obtain ⟨rfl, rfl, ⟨x, rfl, hx⟩, hcw, hm⟩ := hcut
    have a1 := cell_of_heap hcw 1
    have a2 := cell_of_heap hcw 2
    have a3 := cell_of_heap hcw 3
    have a4 := cell_of_heap hcw 4
    simp only [List.getElem?_toArray, List.getElem?_cons_zero, List.getElem?_cons_succ] at a1 a2 a3 a4
    have Hm := Lib.hid hm
    have Hcw := Lib.hid hcw
    clear hm hcw
    by_cases hb : argBad uo un ui ut o.data.toList n i t.data.toList
    · have hx' : x = true := hx.out.2 hb
      have hc := Lib.hid (checkB_arg (um := um) hb)
      subst hx'
      clear hb
      go_wp2
      go_ret
      rw [hc.out]; exact ⟨rfl, Hm.out⟩
    have hx' : x = false := by
      cases x with
      | false => rfl
      | true => exact absurd (hx.out.1 rfl) hb
    subst hx'
    have hc : Hid (checkB uo un ui ut um o.data.toList n i t.data.toList = _) := if_neg hb
    have hnb := Lib.hid hb
    clear hb hx
    go_upto_region 6 with fail
    go_cut [1, 3, 52] (fun p q b wd => p = .pointer (some ⟨w.heap.size, 0, none⟩) ∧ q = .int .i64 k ∧ (∃ x, b = .bool x ∧ Hid (x = true ↔ uo = true ∧ vname o.data.toList = false)) ∧ Mods [] wc wd)
    case first =>
      cases uo
      · go_wp2_with (go_at_call 24; refine (H3.out _).mono ?_; rintro e w1 ⟨rfl, rfl⟩)
        go_meet
        exact ⟨rfl, rfl, ⟨_, rfl, by show _ ↔ _; simp⟩, Mods.refl _ _⟩
      · go_wp2_with (first | (go_at_call 24; refine (H3.out _).mono ?_; rintro e w1 ⟨rfl, rfl⟩) | (go_at_call 76; refine (refValid_any o _ ho).mono ?_; rintro e w1 ⟨rfl, hm1⟩; have Hm1 := Lib.hid hm1; clear hm1))
        go_meet
        exact ⟨rfl, rfl, ⟨_, rfl, by show _ ↔ _; simp⟩, Hm1.out⟩
    case rest =>
      obtain ⟨rfl, rfl, ⟨x, rfl, hx⟩, hm2⟩ := hcut
      have Hm2 := Lib.hid (Hm.out.trans' hm2)
      have hcw2 := hm2.heap Hcw.out (by simp)
      replace a1 := cell_of_heap hcw2 1
      replace a2 := cell_of_heap hcw2 2
      replace a3 := cell_of_heap hcw2 3
      replace a4 := cell_of_heap hcw2 4
      simp only [List.getElem?_toArray, List.getElem?_cons_zero, List.getElem?_cons_succ] at a1 a2 a3 a4
      clear hm2 Hm Hcw hcw2
      by_cases hb : uo = true ∧ vname o.data.toList = false
      · have hx' : x = true := hx.out.2 hb
        have hc2 : Hid (checkB uo un ui ut um o.data.toList n i t.data.toList = 12) := by show _ = _; rw [hc.out, if_pos hb]
        subst hx'
        clear hb hx hc
        go_wp2
        go_ret
        rw [hc2.out]; exact ⟨rfl, Hm2.out⟩
      have hx' : x = false := by
        cases x with
        | false => rfl
        | true => exact absurd (hx.out.1 rfl) hb
      subst hx'
      have hc2 := Lib.hid (hc.out.trans (if_neg hb))
      clear hb hx hc
      go_upto_region 8 with fail
      go_cut [1, 3, 61] (fun p q b we => p = .pointer (some ⟨w.heap.size, 0, none⟩) ∧ q = .int .i64 k ∧ (∃ x, b = .bool x ∧ Hid (x = true ↔ n < 0 ∨ 1073741824 < n ∨ i < 0 ∨ max mo 0 < i)) ∧ (∃ nq, we = wc.drewN nq))
      case first =>
        have hsp : n < 0 ∨ (¬ n < 0 ∧ 1073741824 < n) ∨ (¬ n < 0 ∧ ¬ 1073741824 < n ∧ i < 0) ∨ (¬ n < 0 ∧ ¬ 1073741824 < n ∧ ¬ i < 0 ∧ max mo 0 < i) ∨ (¬ n < 0 ∧ ¬ 1073741824 < n ∧ ¬ i < 0 ∧ ¬ max mo 0 < i) := by omega
        rcases hsp with h1 | ⟨h1, h2⟩ | ⟨h1, h2, h3⟩ | ⟨h1, h2, h3, h4⟩ | ⟨h1, h2, h3, h4⟩
        case' inr.inr.inr.inl => go_region_with (go_at_call 27; refine (H6.out _).mono ?_; rintro e w1 ⟨rfl, rfl⟩)
        case' inr.inr.inr.inr => go_region_with (go_at_call 27; refine (H6.out _).mono ?_; rintro e w1 ⟨rfl, rfl⟩)
        case' inl => go_quiet ((go_at_call 27; exact Calls.quiet_of_same (H6.out _)))
        case' inr.inl => go_quiet ((go_at_call 27; exact Calls.quiet_of_same (H6.out _)))
        case' inr.inr.inl => go_quiet ((go_at_call 27; exact Calls.quiet_of_same (H6.out _)))
        all_goals go_wp2
        all_goals go_meet
        all_goals refine ⟨rfl, rfl, ⟨_, rfl, ?_⟩, ?_⟩
        all_goals first
          | exact ⟨_, rfl⟩
          | exact ⟨1, rfl⟩
          | exact ⟨0, rfl⟩
          | (show _ ↔ _
             simp
             try omega)
      case rest =>
        obtain ⟨rfl, rfl, ⟨x, rfl, hx⟩, nq, rfl⟩ := hcut
        have Hm3 := Lib.hid (Hm2.out.drewN nq)
        have a4' : ∀ m, (wc.drewN m).cell? ⟨w.heap.size, 4, none⟩ = some (.string t) := fun _ => a4
        have hbad : Hid (x = true ∧ checkB uo un ui ut um o.data.toList n i t.data.toList = 2 ∨ x = false ∧ checkB uo un ui ut um o.data.toList n i t.data.toList = if ut = true ∧ wordOK t.data.toList = false then 12 else 0) := by
          have h1 := hx.out
          have h2 := hnb.out
          have h3 := hc2.out
          have h4 := Hmm.out
          show _ ∨ _
          rw [h3]
          unfold argBad at h2
          have hn0 : un = false → n = 0 := fun e => by
            rcases Int.lt_trichotomy n 0 with h | h | h
            · exact absurd (.inr (.inl ⟨e, by omega⟩)) h2
            · exact h
            · exact absurd (.inr (.inl ⟨e, by omega⟩)) h2
          have hi0 : ui = false → i = 0 := fun e => by
            rcases Int.lt_trichotomy i 0 with h | h | h
            · exact absurd (.inr (.inr (.inl ⟨e, by omega⟩))) h2
            · exact h
            · exact absurd (.inr (.inr (.inl ⟨e, by omega⟩))) h2
          by_cases hb : un = true ∧ ¬(0 ≤ n ∧ n ≤ 1073741824) ∨ ui = true ∧ ¬(0 ≤ i ∧ i ≤ um)
          · refine .inl ⟨h1.2 ?_, if_pos hb⟩
            rcases hb with ⟨_, hb⟩ | ⟨e, hb⟩
            · omega
            · rcases h4 with ⟨e2, _⟩ | ⟨_, e2, e3⟩
              · rw [e2] at e; cases e
              · omega
          · refine .inr ⟨?_, if_neg hb⟩
            cases x with
            | false => rfl
            | true =>
              exfalso
              have h5 := h1.1 rfl
              rcases h4 with ⟨e2, e4⟩ | ⟨e2, e4, e3⟩
              · have := hi0 e2
                cases un with
                | true => exact hb (.inl ⟨rfl, by omega⟩)
                | false => have := hn0 rfl; omega
              · cases un with
                | true =>
                  by_cases h6 : 0 ≤ n ∧ n ≤ 1073741824
                  · exact hb (.inr ⟨e2, by omega⟩)
                  · exact hb (.inl ⟨rfl, h6⟩)
                | false => have := hn0 rfl; exact hb (.inr ⟨e2, by omega⟩)
        clear hx hc2
        rcases hbad.out with ⟨rfl, hc⟩ | ⟨rfl, hc⟩
        · have Hc := Lib.hid hc
          clear hc
          go_wp2
          go_ret
          rw [Hc.out]; exact ⟨rfl, Hm3.out⟩
        · have Hc := Lib.hid hc
          clear hc
          cases hut : ut
          · subst hut
            have hz : Hid (checkB uo un ui false um o.data.toList n i t.data.toList = 0) := by show _ = _; rw [Hc.out, if_neg (by simp)]
            go_wp2_with (go_at_call 28; refine (H7.out _).mono ?_; rintro e w1 ⟨rfl, rfl⟩)
            go_ret
            rw [hz.out]; exact ⟨rfl, Hm3.out⟩
          · subst hut
            cases hwo : wordOK t.data.toList
            · have hz : Hid (checkB uo un ui true um o.data.toList n i t.data.toList = 12) := by show _ = _; rw [Hc.out, if_pos ⟨rfl, hwo⟩]
              have Hwo := Lib.hid hwo
              clear hwo
              go_wp2_with (first | (go_at_call 28; refine (H7.out _).mono ?_; rintro e w1 ⟨rfl, rfl⟩) | (go_at_call 77; refine (refWord_any t _ ht).mono ?_; rintro e w1 ⟨rfl, rfl⟩; rw [Hwo.out]))
              go_ret
              rw [hz.out]; exact ⟨rfl, Hm3.out⟩
            · have hz : Hid (checkB uo un ui true um o.data.toList n i t.data.toList = 0) := by show _ = _; rw [Hc.out, if_neg (by rw [hwo]; simp)]
              have Hwo := Lib.hid hwo
              clear hwo
              go_wp2_with (first | (go_at_call 28; refine (H7.out _).mono ?_; rintro e w1 ⟨rfl, rfl⟩) | (go_at_call 77; refine (refWord_any t _ ht).mono ?_; rintro e w1 ⟨rfl, rfl⟩; rw [Hwo.out]))
              go_ret
              rw [hz.out]; exact ⟨rfl, Hm3.out⟩

theorem refCheck_any (k : Int) (o t : ByteArray) (n i : Int) (w : World) (ho : o.size ≤ 1000000000) (ht : t.size ≤ 1000000000) :
    Calls Tryz.prog 55 #[nameVal k o n i t] w (CheckPost (checkV ⟨k, o.data.toList, n, i, t.data.toList⟩) w) := by
  by_cases hk : 1 ≤ k ∧ k ≤ 20
  · have e : checkV ⟨k, o.data.toList, n, i, t.data.toList⟩ = checkB (uOwner k.toNat) (uNumber k.toNat) (uIndex k.toNat) (uText k.toNat) (uMost k.toNat) o.data.toList n i t.data.toList := by
      obtain ⟨k, rfl⟩ := Int.eq_ofNat_of_zero_le (show 0 ≤ k by omega)
      exact checkV_core (by omega) (by omega) _ _ _ _
    rw [e]
    refine refCheck_core k o t n i w hk.1 hk.2 ho ht _ _ _ _ (rMost k.toNat) _ ?_ ?_ (fun w => refOwned_any k w) (fun w => refNumbered_any k w) (fun w => refMost_any k w) (fun w => refTexted_any k w)
    · intro h; unfold rMost; rw [if_pos h]; exact ⟨rfl, by omega⟩
    · intro h; unfold rMost; rw [if_neg (by rw [h]; decide)]
  · rw [checkV_bad hk]
    have hk' : k < 1 ∨ (¬ k < 1 ∧ 20 < k) := by omega
    unfold nameVal
    clear hk
    rcases hk' with h | ⟨h, h2⟩
    all_goals
      go_enter Tryz.func55, Tryz.ntmps55
      go_wp2
      go_ret
      exact ⟨rfl, (Mods.refl [] w).alloc _⟩
end Go.Proofs.YtedlfmjgbehgkaaGreatDoor
