/- The examples of the chapter: known() is true. -/
import Derived.Test.YtedlfmjgbehgkaaGreatDoorKnW4
import Derived.Test.YtedlfmjgbehgkaaGreatDoorEqW
import Derived.Deep.RegionHeld3
namespace Go.Proofs.YtedlfmjgbehgkaaGreatDoor
open Go.RowKit

theorem ks_step {b c : Nat} {W7 W W1 : World} (h : (fun W' => W'.cell? ⟨b, 0, none⟩ = some (.int .i64 8) ∧ W'.cell? ⟨b, 1, none⟩ = some (.string ⟨#[51, 46, 49]⟩) ∧ W'.cell? ⟨b, 2, none⟩ = some (.int .i64 2) ∧ W'.cell? ⟨b, 3, none⟩ = some (.int .i64 5) ∧ W'.cell? ⟨b, 4, none⟩ = some (.string ⟨#[]⟩) ∧ W'.cell? ⟨c, 0, none⟩ = some (.int .i64 10) ∧ W'.cell? ⟨c, 1, none⟩ = some (.string ⟨#[]⟩) ∧ W'.cell? ⟨c, 2, none⟩ = some (.int .i64 0) ∧ W'.cell? ⟨c, 3, none⟩ = some (.int .i64 0) ∧ W'.cell? ⟨c, 4, none⟩ = some (.string ⟨#[]⟩) ∧ Mods [] W7 W') W) (hm : Mods [] W W1) : (fun W' => W'.cell? ⟨b, 0, none⟩ = some (.int .i64 8) ∧ W'.cell? ⟨b, 1, none⟩ = some (.string ⟨#[51, 46, 49]⟩) ∧ W'.cell? ⟨b, 2, none⟩ = some (.int .i64 2) ∧ W'.cell? ⟨b, 3, none⟩ = some (.int .i64 5) ∧ W'.cell? ⟨b, 4, none⟩ = some (.string ⟨#[]⟩) ∧ W'.cell? ⟨c, 0, none⟩ = some (.int .i64 10) ∧ W'.cell? ⟨c, 1, none⟩ = some (.string ⟨#[]⟩) ∧ W'.cell? ⟨c, 2, none⟩ = some (.int .i64 0) ∧ W'.cell? ⟨c, 3, none⟩ = some (.int .i64 0) ∧ W'.cell? ⟨c, 4, none⟩ = some (.string ⟨#[]⟩) ∧ Mods [] W7 W') W1 := by
  obtain ⟨a0, a1, a2, a3, a4, c0, c1, c2, c3, c4, m⟩ := h
  exact ⟨hm.keep a0, hm.keep a1, hm.keep a2, hm.keep a3, hm.keep a4, hm.keep c0, hm.keep c1, hm.keep c2, hm.keep c3, hm.keep c4, m.trans' hm⟩

set_option maxRecDepth 100000 in
set_option maxHeartbeats 400000 in
theorem known_any (w : World) (hu : Usages w) (hm : ∃ m, w.cell? ⟨1, 0, none⟩ = some (.int .i64 m)) :
    Calls Tryz.prog 5 #[] w fun e w' => e = .returned (.bool true) ∧ Mods [] w w' := by
  have hlt := hu.lt
  obtain ⟨m, hm⟩ := hm
  have hml := lt_of_cell hm
  simp only at hml
  have Hu := Lib.hid hu
  have Hm0 := Lib.hid hm
  clear hu hm
  go_enter Tryz.func5, Tryz.ntmps5
  go_wp2_with fail
  refine (ofBlock_any ⟨#[51, 46, 49]⟩ 2 5 w).mono ?_
  rintro e w1 ⟨rfl, hm1⟩
  have HM1 := Lib.hid hm1
  clear hm1
  unfold nameVal
  go_wp2_with fail
  obtain ⟨W2, hW2, hM2, hx2, hy2⟩ : ∃ W2, w1.alloc (.cells #[.int .i64 8, .string ⟨#[51, 46, 49]⟩, .int .i64 2, .int .i64 5, .string ⟨#[]⟩] 25) = W2 ∧ Mods [] w W2 ∧ W2.heap[w1.heap.size]? = some (.cells #[.int .i64 8, .string ⟨#[51, 46, 49]⟩, .int .i64 2, .int .i64 5, .string ⟨#[]⟩] 25 (0, 0)) ∧ w1.heap.size < W2.heap.size := ⟨_, rfl, HM1.out.alloc _, heap_alloc_new _ _, by simp⟩
  rw [hW2]
  clear hW2
  have HM2 := Lib.hid hM2
  clear hM2
  refine (encode_ok 8 ⟨#[51, 46, 49]⟩ ⟨#[]⟩ 2 5 W2 (Hu.out.mods HM2.out (by simp)) (by decide) (by decide) (by omega) (by omega) checkV_block).mono ?_
  rintro e W3 ⟨rfl, hM3⟩
  have hen : encV 8 (⟨#[51, 46, 49]⟩ : ByteArray).data.toList (2 : Int).toNat (5 : Int).toNat (⟨#[]⟩ : ByteArray).data.toList = [8, 3, 51, 46, 49, 2, 5] := enc_block
  rw [hen]
  obtain ⟨E, hE⟩ : ∃ E : ByteArray, (⟨[8, 3, 51, 46, 49, 2, 5].toArray⟩ : ByteArray) = E := ⟨_, rfl⟩
  have hEb : (E.toList == [8, 3, 51, 46, 49, 2, 5]) = true := by rw [← hE, ByteArray.toList_eq]; decide
  rw [hE]
  clear hE
  have hx3 := hM3.heap hx2 (by simp)
  have HM3 := Lib.hid (HM2.out.trans' hM3)
  have hs3 := hM3.size
  clear hM3 hen hx2
  go_wp2_with fail
  refine (parse_listing W3 (Hu.out.mods HM3.out (by simp)) ⟨m, HM3.out.keep Hm0.out⟩).mono ?_
  rintro e W4 ⟨rfl, hM4⟩
  have hx4 := hM4.heap hx3 (by simp)
  have HM4 := Lib.hid (HM3.out.trans' hM4)
  have hs4 := hM4.size
  clear hM4 hx3
  unfold nameVal
  go_wp2_with fail
  obtain ⟨W5, hW5, hM5, hz5, hs5⟩ : ∃ W5, W4.alloc (.cells #[.int .i64 10, .string ⟨#[]⟩, .int .i64 0, .int .i64 0, .string ⟨#[]⟩] 25) = W5 ∧ Mods [] W4 W5 ∧ W5.heap[W4.heap.size]? = some (.cells #[.int .i64 10, .string ⟨#[]⟩, .int .i64 0, .int .i64 0, .string ⟨#[]⟩] 25 (0, 0)) ∧ W4.heap.size < W5.heap.size := ⟨_, rfl, (Mods.refl [] W4).alloc _, heap_alloc_new _ _, by simp⟩
  rw [hW5]
  clear hW5
  have hx5 := hM5.heap hx4 (by simp)
  have HM5 := Lib.hid (HM4.out.trans' hM5)
  clear hM5 hx4
  refine (parse_page W5 (Hu.out.mods HM5.out (by simp)) ⟨m, HM5.out.keep Hm0.out⟩).mono ?_
  rintro e W6 ⟨rfl, hM6⟩
  have hx6 := hM6.heap hx5 (by simp)
  have hz6 := hM6.heap hz5 (by simp)
  have HM6 := Lib.hid (HM5.out.trans' hM6)
  have hs6 := hM6.size
  clear hM6 hx5 hz5
  unfold nameVal
  go_wp2_with fail
  obtain ⟨W7, hW7, hM7, hx7, hz7⟩ : ∃ W7, W6.alloc (.cells #[.int .i64 0, .string ⟨#[]⟩, .int .i64 0, .int .i64 0, .string ⟨#[]⟩] 25) = W7 ∧ Mods [] w W7 ∧ W7.heap[w1.heap.size]? = some (.cells #[.int .i64 8, .string ⟨#[51, 46, 49]⟩, .int .i64 2, .int .i64 5, .string ⟨#[]⟩] 25 (0, 0)) ∧ W7.heap[W4.heap.size]? = some (.cells #[.int .i64 10, .string ⟨#[]⟩, .int .i64 0, .int .i64 0, .string ⟨#[]⟩] 25 (0, 0)) := ⟨_, rfl, HM6.out.alloc _, heap_alloc_old hx6, heap_alloc_old hz6⟩
  rw [hW7]
  clear hW7 hx6 hz6
  obtain ⟨⟨x0, x1, x2, x3, x4⟩, -⟩ := cells5 hx7
  obtain ⟨⟨z0, z1, z2, z3, z4⟩, -⟩ := cells5 hz7
  have HM7 := Lib.hid hM7
  obtain ⟨b, hb⟩ : ∃ b, w1.heap.size = b := ⟨_, rfl⟩
  obtain ⟨c, hc⟩ : ∃ c, W4.heap.size = c := ⟨_, rfl⟩
  rw [hb] at x0 x1 x2 x3 x4 ⊢
  rw [hc] at z0 z1 z2 z3 z4 ⊢
  have k7 : (fun W' => W'.cell? ⟨b, 0, none⟩ = some (.int .i64 8) ∧ W'.cell? ⟨b, 1, none⟩ = some (.string ⟨#[51, 46, 49]⟩) ∧ W'.cell? ⟨b, 2, none⟩ = some (.int .i64 2) ∧ W'.cell? ⟨b, 3, none⟩ = some (.int .i64 5) ∧ W'.cell? ⟨b, 4, none⟩ = some (.string ⟨#[]⟩) ∧ W'.cell? ⟨c, 0, none⟩ = some (.int .i64 10) ∧ W'.cell? ⟨c, 1, none⟩ = some (.string ⟨#[]⟩) ∧ W'.cell? ⟨c, 2, none⟩ = some (.int .i64 0) ∧ W'.cell? ⟨c, 3, none⟩ = some (.int .i64 0) ∧ W'.cell? ⟨c, 4, none⟩ = some (.string ⟨#[]⟩) ∧ Mods [] W7 W') W7.drew := ⟨x0, x1, x2, x3, x4, z0, z1, z2, z3, z4, (Mods.refl [] W7).drew⟩
  clear hb hc hx7 hz7
  have hst := string_ok 8 ⟨#[51, 46, 49]⟩ 2 5 W7.drew (Hu.out.mods hM7.drew (by simp)) (by decide) (by omega) (by omega) (by omega) (by omega) rfl rfl rfl checkV_block
  rw [str_block] at hst
  obtain ⟨S, hS⟩ : ∃ S : ByteArray, (⟨#[98, 108, 111, 99, 107, 32, 51, 46, 49, 35, 50, 32, 53]⟩ : ByteArray) = S := ⟨_, rfl⟩
  have hSb : (S.toList == [98, 108, 111, 99, 107, 32, 51, 46, 49, 35, 50, 32, 53]) = true := by rw [← hS, ByteArray.toList_eq]; decide
  rw [hS] at hst
  clear hS
  unfold nameVal at hst
  have Hst := Lib.hid hst
  clear hst hM7
  have hq25 := guard25
  have heq : ∀ W, (binOp .eql 25 (.agg #[.int .i64 10, .string ⟨#[]⟩, .int .i64 0, .int .i64 0, .string ⟨#[]⟩]) (.agg #[.int .i64 10, .string ⟨#[]⟩, .int .i64 0, .int .i64 0, .string ⟨#[]⟩])).run Tryz.prog W = .ok (.bool true) W := fun W => by
    rw [eql_name]; simp
  go_region_held3 (fun W' => W'.cell? ⟨b, 0, none⟩ = some (.int .i64 8) ∧ W'.cell? ⟨b, 1, none⟩ = some (.string ⟨#[51, 46, 49]⟩) ∧ W'.cell? ⟨b, 2, none⟩ = some (.int .i64 2) ∧ W'.cell? ⟨b, 3, none⟩ = some (.int .i64 5) ∧ W'.cell? ⟨b, 4, none⟩ = some (.string ⟨#[]⟩) ∧ W'.cell? ⟨c, 0, none⟩ = some (.int .i64 10) ∧ W'.cell? ⟨c, 1, none⟩ = some (.string ⟨#[]⟩) ∧ W'.cell? ⟨c, 2, none⟩ = some (.int .i64 0) ∧ W'.cell? ⟨c, 3, none⟩ = some (.int .i64 0) ∧ W'.cell? ⟨c, 4, none⟩ = some (.string ⟨#[]⟩) ∧ Mods [] W7 W') (first | exact k9 | exact k8 | exact k7) (first
    | (go_at_call 16; refine Hst.out.mono ?_; rintro e W8 ⟨rfl, hM8⟩; have k8 := ks_step k7 hM8; clear hM8)
    | (go_at_call 17; refine (ofListing_any ⟨#[]⟩ 0 _).mono ?_; rintro e W9 ⟨rfl, hM9⟩; have k9 := ks_step k8 hM9; clear hM9; unfold nameVal))
  all_goals go_wp2
  all_goals go_ret
  all_goals exact ⟨rfl, HM7.out.trans' k9.2.2.2.2.2.2.2.2.2.2⟩
end Go.Proofs.YtedlfmjgbehgkaaGreatDoor
