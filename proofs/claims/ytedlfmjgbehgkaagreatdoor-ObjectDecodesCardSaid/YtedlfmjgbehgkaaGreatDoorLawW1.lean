/- The statement ObjectDecodes: its walk. -/
import Derived.Test.YtedlfmjgbehgkaaGreatDoorDecP
import Derived.Test.YtedlfmjgbehgkaaGreatDoorKnW5
namespace Go.Proofs.YtedlfmjgbehgkaaGreatDoor
open Go.RowKit

set_option maxRecDepth 100000 in
theorem of_any (k : Int) (o : ByteArray) (n i : Int) (t : ByteArray) (w : World) :
    Calls Tryz.prog 8 #[nameVal k o n i t] w fun e w' => e = .returned (nameVal k o n i t) ∧ Mods [] w w' := by
  unfold nameVal
  go_enter Tryz.func8, Tryz.ntmps8
  go_wp2
  refine bodyPost_ret (v := .agg #[.int .i64 k, .string o, .int .i64 n, .int .i64 i, .string t]) ?_ rfl ⟨rfl, ?_⟩
  · simp [results, Tryz.results8, go_sem]
  · exact ((Mods.refl [] w).alloc _).alloc _

set_option maxRecDepth 100000 in
set_option maxHeartbeats 1000000 in
theorem objectDecodes_long (s : ByteArray) (w : World) (hu : Usages w) (hm : ∃ m, w.cell? ⟨1, 0, none⟩ = some (.int .i64 m)) (hs : 200 < s.size) :
    Calls Tryz.prog 3 #[.string s] w fun e w' => e = .returned (.bool true) ∧ Mods [] w w' := by
  have hk1 := Lib.hid (known_any w hu hm)
  obtain ⟨m, hm⟩ := hm
  have Hu := Lib.hid hu
  have Hm := Lib.hid hm
  have hs' : (200 : Int) < (s.size : Int) := by omega
  clear hu hm
  go_enter Tryz.func3, Tryz.ntmps3
  go_wp2_with fail
  refine hk1.out.mono ?_
  rintro e w1 ⟨rfl, hm1⟩
  have HM1 := Lib.hid hm1
  clear hm1
  go_wp2_with fail
  refine (known_any w1 (Hu.out.mods HM1.out (by simp)) ⟨m, HM1.out.keep Hm.out⟩).mono ?_
  rintro e w2 ⟨rfl, hm2⟩
  have HM2 := Lib.hid (HM1.out.trans' hm2)
  clear hm2
  go_wp2
  go_ret
  exact ⟨rfl, HM2.out⟩

theorem kt_step {b c : Nat} {k : Int} {o : ByteArray} {n i : Int} {t : ByteArray} {W7 W W1 : World} (h : (fun W' => W'.cell? ⟨b, 0, none⟩ = some (.int .i64 k) ∧ W'.cell? ⟨b, 1, none⟩ = some (.string o) ∧ W'.cell? ⟨b, 2, none⟩ = some (.int .i64 n) ∧ W'.cell? ⟨b, 3, none⟩ = some (.int .i64 i) ∧ W'.cell? ⟨b, 4, none⟩ = some (.string t) ∧ W'.cell? ⟨c, 0, none⟩ = some (.int .i64 k) ∧ W'.cell? ⟨c, 1, none⟩ = some (.string o) ∧ W'.cell? ⟨c, 2, none⟩ = some (.int .i64 n) ∧ W'.cell? ⟨c, 3, none⟩ = some (.int .i64 i) ∧ W'.cell? ⟨c, 4, none⟩ = some (.string t) ∧ Mods [] W7 W') W) (hm : Mods [] W W1) : (fun W' => W'.cell? ⟨b, 0, none⟩ = some (.int .i64 k) ∧ W'.cell? ⟨b, 1, none⟩ = some (.string o) ∧ W'.cell? ⟨b, 2, none⟩ = some (.int .i64 n) ∧ W'.cell? ⟨b, 3, none⟩ = some (.int .i64 i) ∧ W'.cell? ⟨b, 4, none⟩ = some (.string t) ∧ W'.cell? ⟨c, 0, none⟩ = some (.int .i64 k) ∧ W'.cell? ⟨c, 1, none⟩ = some (.string o) ∧ W'.cell? ⟨c, 2, none⟩ = some (.int .i64 n) ∧ W'.cell? ⟨c, 3, none⟩ = some (.int .i64 i) ∧ W'.cell? ⟨c, 4, none⟩ = some (.string t) ∧ Mods [] W7 W') W1 := by
  obtain ⟨a0, a1, a2, a3, a4, c0, c1, c2, c3, c4, m⟩ := h
  exact ⟨hm.keep a0, hm.keep a1, hm.keep a2, hm.keep a3, hm.keep a4, hm.keep c0, hm.keep c1, hm.keep c2, hm.keep c3, hm.keep c4, m.trans' hm⟩

/-- What the two Decodes answer, and what Encode answers to that. -/
theorem dec_shape (s : ByteArray) (hs : s.size ≤ 1000000) : ∃ (k : Int) (o : ByteArray) (n i : Int) (t : ByteArray) (e : Int) (x : ByteArray) (y : Int),
    decVal (decRes s.data.toList) = .tuple #[.agg #[.int .i64 k, .string o, .int .i64 n, .int .i64 i, .string t], .int .i64 e] ∧
    refVal (refRes s.data.toList) = .tuple #[.agg #[.int .i64 k, .string o, .int .i64 n, .int .i64 i, .string t], .int .i64 e] ∧
    (∀ W, Usages W → Calls Tryz.prog 9 #[.agg #[.int .i64 k, .string o, .int .i64 n, .int .i64 i, .string t]] W fun e' w' => e' = .returned (.tuple #[.string x, .int .i64 y]) ∧ Mods [] W w') ∧
    (e = 3 ∨ (e = 0 ∧ x.toList = s.toList ∧ y = 0)) := by
  have hag := dec_agree s.data.toList (by rw [slen]; omega)
  cases hd : decRes s.data.toList with
  | none =>
    have hc : checkV ⟨0, (⟨#[]⟩ : ByteArray).data.toList, 0, 0, (⟨#[]⟩ : ByteArray).data.toList⟩ = 11 := checkV_bad (by simp)
    refine ⟨0, ⟨#[]⟩, 0, 0, ⟨#[]⟩, 3, ⟨#[]⟩, 11, rfl, by rw [hag, hd]; rfl, fun W hW => ?_, .inl rfl⟩
    have := encode_err 0 ⟨#[]⟩ ⟨#[]⟩ 0 0 W hW (by decide) (by decide) (by rw [hc]; decide)
    rw [hc] at this
    exact this
  | some x =>
    obtain ⟨k, o, n, i, t⟩ := x
    obtain ⟨hg, he⟩ := decRes_bwd (by rw [slen]; omega) hd
    have hl := congrArg List.length he
    rw [encV_assoc] at hl
    simp only [List.length_append] at hl
    rw [slen] at hl
    have hol : o.length ≤ 1000000 := by
      rcases Bool.eq_false_or_eq_true (uOwner k) with hf | hf
      · simp only [hf, if_true, encText, List.length_append] at hl; omega
      · rw [hg.parts.1 hf]; simp
    have htl : t.length ≤ 1000000 := by
      rcases Bool.eq_false_or_eq_true (uText k) with hf | hf
      · have := hg.parts.2.2.2.2.2.2 hf; omega
      · rw [hg.parts.2.2.2.1 hf]; simp
    refine ⟨k, ⟨o.toArray⟩, n, i, ⟨t.toArray⟩, 0, ⟨(encV k o n i t).toArray⟩, 0, rfl, by rw [hag, hd]; rfl, fun W hW => ?_, .inr ⟨rfl, ?_, rfl⟩⟩
    · exact encode_ok k ⟨o.toArray⟩ ⟨t.toArray⟩ n i W hW (by rw [mk_size]; exact hol) (by rw [mk_size]; exact htl) hg.k1 hg.k2 hg.c
    · rw [ByteArray.toList_eq, ByteArray.toList_eq, ← he]

set_option maxRecDepth 100000 in
set_option maxHeartbeats 2000000 in
theorem objectDecodes_short (s : ByteArray) (w : World) (hu : Usages w) (hm : ∃ m, w.cell? ⟨1, 0, none⟩ = some (.int .i64 m)) (hs : s.size ≤ 200) :
    Calls Tryz.prog 3 #[.string s] w fun e w' => e = .returned (.bool true) ∧ Mods [] w w' := by
  have hlt := hu.lt
  have hk1 := Lib.hid (known_any w hu hm)
  have Hu := Lib.hid hu
  have hs' : ¬ (200 : Int) < (s.size : Int) := by omega
  obtain ⟨k, o, n, i, t, er, x, y, hdv, hrv, hen, hx⟩ := dec_shape s (by omega)
  have Hdv := Lib.hid hdv
  have Hrv := Lib.hid hrv
  have Hen := Lib.hid hen
  have Hx := Lib.hid hx
  clear hu hm hdv hrv hen hx
  go_enter Tryz.func3, Tryz.ntmps3
  go_wp2_with fail
  refine hk1.out.mono ?_
  rintro e w1 ⟨rfl, hm1⟩
  have HM1 := Lib.hid hm1
  clear hm1
  go_wp2_with fail
  refine (decode_any s w1 (by omega) (Hu.out.mods HM1.out (by simp))).mono ?_
  rintro e w2 ⟨rfl, hm2⟩
  have HM2 := Lib.hid (HM1.out.trans' hm2)
  clear hm2
  rw [Hdv.out]
  go_wp2_with fail
  obtain ⟨W3, hW3, hM3, hx3⟩ : ∃ W3, w2.alloc (.cells #[.int .i64 k, .string o, .int .i64 n, .int .i64 i, .string t] 25) = W3 ∧ Mods [] w W3 ∧ W3.heap[w2.heap.size]? = some (.cells #[.int .i64 k, .string o, .int .i64 n, .int .i64 i, .string t] 25 (0, 0)) := ⟨_, rfl, HM2.out.alloc _, heap_alloc_new _ _⟩
  rw [hW3]
  clear hW3
  refine (refDecode_any s W3 (by omega)).mono ?_
  rintro e w4 ⟨rfl, hm4⟩
  rw [Hrv.out]
  have hx4 := hm4.heap hx3 (by simp)
  have HM4 := Lib.hid (hM3.trans' hm4)
  clear hm4 hM3 hx3
  go_wp2_with fail
  obtain ⟨W7, hW7, hM7, hx7, hz7⟩ : ∃ W7, w4.alloc (.cells #[.int .i64 k, .string o, .int .i64 n, .int .i64 i, .string t] 30) = W7 ∧ Mods [] w W7 ∧ W7.heap[w2.heap.size]? = some (.cells #[.int .i64 k, .string o, .int .i64 n, .int .i64 i, .string t] 25 (0, 0)) ∧ W7.heap[w4.heap.size]? = some (.cells #[.int .i64 k, .string o, .int .i64 n, .int .i64 i, .string t] 30 (0, 0)) := ⟨_, rfl, HM4.out.alloc _, heap_alloc_old hx4, heap_alloc_new _ _⟩
  rw [hW7]
  clear hW7 hx4
  obtain ⟨⟨x0, x1, x2, x3, x4⟩, -⟩ := cells5 hx7
  obtain ⟨⟨z0, z1, z2, z3, z4⟩, -⟩ := cells5 hz7
  have HM7 := Lib.hid hM7
  obtain ⟨b, hb⟩ : ∃ b, w2.heap.size = b := ⟨_, rfl⟩
  obtain ⟨c, hc⟩ : ∃ c, w4.heap.size = c := ⟨_, rfl⟩
  rw [hb] at x0 x1 x2 x3 x4 ⊢
  rw [hc] at z0 z1 z2 z3 z4 ⊢
  have k7 : (fun W' => W'.cell? ⟨b, 0, none⟩ = some (.int .i64 k) ∧ W'.cell? ⟨b, 1, none⟩ = some (.string o) ∧ W'.cell? ⟨b, 2, none⟩ = some (.int .i64 n) ∧ W'.cell? ⟨b, 3, none⟩ = some (.int .i64 i) ∧ W'.cell? ⟨b, 4, none⟩ = some (.string t) ∧ W'.cell? ⟨c, 0, none⟩ = some (.int .i64 k) ∧ W'.cell? ⟨c, 1, none⟩ = some (.string o) ∧ W'.cell? ⟨c, 2, none⟩ = some (.int .i64 n) ∧ W'.cell? ⟨c, 3, none⟩ = some (.int .i64 i) ∧ W'.cell? ⟨c, 4, none⟩ = some (.string t) ∧ Mods [] W7 W') W7.drew := ⟨x0, x1, x2, x3, x4, z0, z1, z2, z3, z4, (Mods.refl [] W7).drew⟩
  clear hb hc hx7 hz7 hM7
  have hq30 := guard30
  have heq : ∀ W, (binOp .neq 30 (.agg #[.int .i64 k, .string o, .int .i64 n, .int .i64 i, .string t]) (.agg #[.int .i64 k, .string o, .int .i64 n, .int .i64 i, .string t])).run Tryz.prog W = .ok (.bool false) W := fun W => by
    rw [neq_ref]; simp
  have hof := fun W => of_any k o n i t W
  unfold nameVal at hof
  have Hof := Lib.hid hof
  clear hof
  go_region_held3 (fun W' => W'.cell? ⟨b, 0, none⟩ = some (.int .i64 k) ∧ W'.cell? ⟨b, 1, none⟩ = some (.string o) ∧ W'.cell? ⟨b, 2, none⟩ = some (.int .i64 n) ∧ W'.cell? ⟨b, 3, none⟩ = some (.int .i64 i) ∧ W'.cell? ⟨b, 4, none⟩ = some (.string t) ∧ W'.cell? ⟨c, 0, none⟩ = some (.int .i64 k) ∧ W'.cell? ⟨c, 1, none⟩ = some (.string o) ∧ W'.cell? ⟨c, 2, none⟩ = some (.int .i64 n) ∧ W'.cell? ⟨c, 3, none⟩ = some (.int .i64 i) ∧ W'.cell? ⟨c, 4, none⟩ = some (.string t) ∧ Mods [] W7 W') (first | exact k8 | exact k7) (first
    | (go_at_call 8; refine (Hof.out _).mono ?_; rintro e W8 ⟨rfl, hM8⟩; have k8 := kt_step k7 hM8; clear hM8))
  all_goals
    obtain ⟨p0, p1, p2, p3, p4, -, -, -, -, -, m8⟩ := k8
    have HM8 := Lib.hid (HM7.out.trans' m8)
    clear k7 m8 heq hq30 x0 x1 x2 x3 x4 z0 z1 z2 z3 z4
    go_wp2_with fail
    refine (Hen.out _ (Hu.out.mods HM8.out (by simp))).mono ?_
    rintro e W9 ⟨rfl, hm9⟩
    have HM9 := Lib.hid (HM8.out.trans' hm9)
    clear hm9
    rcases Hx.out with rfl | ⟨rfl, hx, rfl⟩
    · go_wp2
      go_ret
      exact ⟨rfl, HM9.out⟩
    · have b1 : (x.toList == s.toList) = true := by rw [hx]; exact beq_self_eq_true _
      clear hx
      go_wp2
      go_ret
      exact ⟨rfl, HM9.out⟩

/-- The statement: true at every text, with no panic. -/
theorem objectDecodes_any (s : ByteArray) (w : World) (hu : Usages w) (hm : ∃ m, w.cell? ⟨1, 0, none⟩ = some (.int .i64 m)) :
    Calls Tryz.prog 3 #[.string s] w fun e w' => e = .returned (.bool true) ∧ Mods [] w w' := by
  rcases Nat.lt_or_ge 200 s.size with h | h
  · exact objectDecodes_long s w hu hm h
  · exact objectDecodes_short s w hu hm h
end Go.Proofs.YtedlfmjgbehgkaaGreatDoor
