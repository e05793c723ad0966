/- The statement MailboxValues: its walk (printed by gen_lawm3.py). The row of MailboxValues, and its card. -/
import Derived.Test.YtlaihnbappfbfaaGreatDoorK1
import Derived.Test.YtlaihnbappfbfaaGreatDoorB4
import Derived.Deep.RegionHeld3
import Derived.Test.YtlaihnbappfbfaaGreatDoorRowK
import Derived.Test.YtlaihnbappfbfaaGreatDoorL1
namespace Go.Proofs.YtlaihnbappfbfaaGreatDoor
open Go.RowKit

theorem ownL_length (l : List MsgB) : (ownL l).length = min 40 l.length := by unfold ownL; rw [List.length_map, List.length_take]
theorem ownL_size (l : List MsgB) : ∀ m ∈ ownL l, m.sender.size ≤ 60 ∧ m.text.size ≤ 1100 := by
  intro m hm
  unfold ownL at hm
  obtain ⟨x, hx, rfl⟩ := List.mem_map.1 hm
  unfold cutMsg
  simp only [ByteArray.size_extract]
  omega
theorem MsgsAt.shape {w : World} {v : Value} {l : List MsgB} (h : MsgsAt w v l) : ∃ a m c, v = .slice a m c := by
  obtain ⟨p, cap, rfl, _⟩ := h
  exact ⟨_, _, _, rfl⟩

set_option maxRecDepth 100000 in
set_option maxHeartbeats 8000000 in
theorem mailboxValues_bad (n : Int) {xv : Value} {l : List MsgB} (c : Nat) (hc : c < 256) {w : World} (hxv : MsgsArg w xv l) (hsz : ∀ m ∈ l, m.sender.size ≤ 9223372036854775807 ∧ m.text.size ≤ 9223372036854775807)
    (hu : Usages w) (hsh : ShaTab w) (ml : Int) (hm : w.cell? ⟨1, 0, none⟩ = some (.int .i64 ml)) (hE : boxE ⟨n, (ownL l).map MsgB.v⟩ ≠ 0) :
    Calls Tryz.prog 5 #[.agg #[.int .i64 n, xv], .int .u8 c] w fun e w' => e = .returned (.bool true) ∧ Mods [] w w' := by
  have hk := fun W (hW : Mods [] w W) => known_any (w := W) (hu.mods hW (by simp)) (hsh.keep hW) ml (hW.keep hm)
  have how := fun W (hW : Mods [] w W) => own_any (w := W) n (hxv.keep hW) hsz
  have hLl := ownL_length l
  have hLs := ownL_size l
  have hL40 : (ownL l).length ≤ 40 := by omega
  have hL9 : (ownL l).length ≤ 1000000000 := by omega
  have hsnd : ∀ m ∈ ownL l, m.sender.size ≤ 1000000 := fun m hm => by have := (hLs m hm).1; omega
  have hrc := fun W v (hv : MsgsAt W v (ownL l)) => refBoxCheck_any (w := W) n hv hsnd
  have hck0 := fun W v (hW : Mods [] w W) (hv : MsgsAt W v (ownL l)) => boxCheck_any (w := W) n hv hsnd ml (hW.keep hm)
  have hen := fun W v (hW : Mods [] w W) (hv : MsgsAt W v (ownL l)) => boxEncode_err (w := W) n hv hsnd ml (hW.keep hm) hE
  generalize boxE ⟨n, (ownL l).map MsgB.v⟩ = E at *
  have hE1 : (E != 0) = true := by simpa using hE
  obtain ⟨xp, xcap, rfl, _, _, _⟩ := id hxv
  have HK := Lib.hid hk
  have HOW := Lib.hid how
  have HRC := Lib.hid hrc
  have HC0 := Lib.hid hck0
  have HEN := Lib.hid hen
  have HLS := Lib.hid hLs
  have HLL := Lib.hid hLl
  have HL40 : Hid ((ownL l).length ≤ 40) := hL40
  have HL9 : Hid ((ownL l).length ≤ 1000000000) := hL9
  have hM0 : Mods [] w (w.alloc (.cells #[.int .i64 n, .slice xp l.length xcap] 33)) := (Mods.refl _ _).alloc _
  have hP0 := heap_alloc_new w (.cells #[.int .i64 n, .slice xp l.length xcap] 33)
  have HM0 := Lib.hid hM0
  have HP0 := Lib.hid hP0
  clear hk how hrc hck0 hen hLs hLl hsnd hxv hsz hu hsh hm hE hM0 hP0 hL40 hL9
  go_enter Tryz.func5, Tryz.ntmps5
  go_wp2_with fail
  refine (HOW.out _ HM0.out).mono ?_
  rintro e w1 ⟨v, rfl, ho1, hm1⟩
  obtain ⟨v1, vn1, vc1, rfl⟩ := owns_shape ho1
  have hz1 : w.heap.size < w1.heap.size := lt_of_heap (hm1.heap HP0.out (by simp))
  have hP1 := hm1.heap HP0.out (by simp)
  have hM1 := HM0.out.trans' hm1
  clear hm1
  go_wp2_with fail
  have ha2 : Mods [] w1 (w1.alloc (.cells #[.int .i64 n, .slice v1 vn1 vc1] 34)) := (Mods.refl _ _).alloc _
  have hA5 := heap_alloc_new w1 (.cells #[.int .i64 n, .slice v1 vn1 vc1] 34)
  have ho2 := ho1.mods ha2 (by simp)
  have hP2 := ha2.heap hP1 (by simp)
  have hM2 := hM1.trans' ha2
  obtain ⟨A5, hA5e⟩ : ∃ A5, w1.heap.size = A5 := ⟨_, rfl⟩
  obtain ⟨P, hPe⟩ : ∃ P, w.heap.size = P := ⟨_, rfl⟩
  rw [hA5e] at hA5 ⊢
  rw [hPe] at hP2 ⊢
  generalize w1.alloc (.cells #[.int .i64 n, .slice v1 vn1 vc1] 34) = w2 at *
  have q0 := cell_of_heap hA5 0
  have q1 := cell_of_heap hA5 1
  have p0 := cell_of_heap hP2 0
  have p1 := cell_of_heap hP2 1
  try simp only [List.getElem?_toArray, List.getElem?_cons_zero, List.getElem?_cons_succ] at q0 q1 p0 p1
  clear ha2 hM1 ho1 hP1
  have hAT2 := ho2.at HL9.out
  have HX2 := Lib.hid (show w2.heap[A5]? = _ from hA5)
  have HX3 := Lib.hid (show w2.heap[P]? = _ from hP2)
  have HX4 := Lib.hid ho2
  have HX5 := Lib.hid hM2
  have HX6 := Lib.hid hAT2
  have hA5l : A5 < w2.heap.size := lt_of_heap hA5
  have hPl : P < w2.heap.size := lt_of_heap hP2
  clear hA5 hP2 ho2 hM2 hAT2 hA5e hPe hz1
  refine (HRC.out _ _ HX6.out).mono ?_
  rintro e w3 ⟨rfl, hm3⟩
  replace q0 := hm3.keep q0
  replace q1 := hm3.keep q1
  replace p0 := hm3.keep p0
  replace p1 := hm3.keep p1
  have HM3 := Lib.hid hm3
  clear hm3
  go_wp2_with fail
  refine (HEN.out _ _ (HX5.out.trans' HM3.out) (HX6.out.keep HM3.out)).mono ?_
  rintro e w4 ⟨rfl, hm4⟩
  replace q0 := hm4.keep q0
  replace q1 := hm4.keep q1
  replace p0 := hm4.keep p0
  replace p1 := hm4.keep p1
  have HM4 := Lib.hid (HM3.out.trans' hm4)
  clear hm4 HM3
  go_wp2_with fail
  refine (HOW.out _ (HX5.out.trans' HM4.out)).mono ?_
  rintro e w5 ⟨v, rfl, ho5, hm5⟩
  obtain ⟨va, vn, vc, rfl⟩ := owns_shape ho5
  replace q0 := hm5.keep q0
  replace q1 := hm5.keep q1
  replace p0 := hm5.keep p0
  replace p1 := hm5.keep p1
  have hs24 := HM4.out.size
  have hs45 := hm5.size
  have HM5 := Lib.hid (HM4.out.trans' hm5)
  clear hm5
  go_wp2_with fail
  have ha6 : Mods [] w5 (w5.alloc (.cells #[.int .i64 n, .slice va vn vc] 34)) := (Mods.refl _ _).alloc _
  have hA9 := heap_alloc_new w5 (.cells #[.int .i64 n, .slice va vn vc] 34)
  have ho6 := ho5.mods ha6 (by simp)
  replace q0 := ha6.keep q0
  replace q1 := ha6.keep q1
  replace p0 := ha6.keep p0
  replace p1 := ha6.keep p1
  have HM6 := Lib.hid (HM5.out.trans' ha6)
  obtain ⟨A9, hA9e⟩ : ∃ A9, w5.heap.size = A9 := ⟨_, rfl⟩
  rw [hA9e] at hA9 ⊢
  have hA9l : w2.heap.size ≤ A9 := by rw [← hA9e]; omega
  generalize w5.alloc (.cells #[.int .i64 n, .slice va vn vc] 34) = w7 at *
  have hgl : ∀ k, (Value.slice va vn vc).ownBlock = some k → w2.heap.size ≤ k := fun k hk => by
    have := (ho6.lt k hk).1
    omega
  clear ha6 ho5 hA9e HM5
  refine (spoil_any hA9 ho6 HL40.out HLS.out c hc).mono ?_
  rintro e w6 ⟨d, n2, v', l2, rfl, hA9', hat', heq, hm6⟩
  obtain ⟨v2, vn2, vc2, rfl⟩ := hat'.shape
  have hmm : Mods [] w2 w6 := HM6.out.trans hm6 (fun i hi => by
    rcases List.mem_cons.1 hi with rfl | hi
    · exact .inr hA9l
    · exact .inr (hgl i (by simpa [eq_comm] using hi)))
  have q0 := hmm.keep (cell_of_heap HX2.out 0)
  have q1 := hmm.keep (cell_of_heap HX2.out 1)
  have p0 := hmm.keep (cell_of_heap HX3.out 0)
  have p1 := hmm.keep (cell_of_heap HX3.out 1)
  have s0 := cell_of_heap hA9' 0
  have s1 := cell_of_heap hA9' 1
  try simp only [List.getElem?_toArray, List.getElem?_cons_zero, List.getElem?_cons_succ] at q0 q1 p0 p1 s0 s1
  have HS6 : Hid (∀ W', Mods [] w6 W' → W'.cell? ⟨A5, 0, none⟩ = some (.int .i64 n) ∧ W'.cell? ⟨A5, 1, none⟩ = some (.slice v1 vn1 vc1) ∧ W'.cell? ⟨A9, 0, none⟩ = some (.int .i64 n2) ∧ W'.cell? ⟨A9, 1, none⟩ = some (.slice v2 vn2 vc2) ∧ W'.cell? ⟨P, 0, none⟩ = some (.int .i64 n) ∧ W'.cell? ⟨P, 1, none⟩ = some (.slice xp l.length xcap) ∧ Mods [] w6 W') := by
    show ∀ _, _
    exact fun W' h => ⟨h.keep q0, h.keep q1, h.keep s0, h.keep s1, h.keep p0, h.keep p1, h⟩
  have HM7 := Lib.hid (HX5.out.trans' hmm)
  have HT6 := Lib.hid (HX6.out.keep hmm)
  have hck6 := fun W (hW : Mods [] w6 W) => HC0.out W _ (HM7.out.trans' hW) (HT6.out.keep hW)
  have heq6 := fun W (hW : Mods [] w6 W) => boxEqual_any (w := W) n n2 (HT6.out.keep hW) (hat'.keep hW)
  rw [heq] at heq6
  have he26 := fun W v (hW : Mods [] w6 W) (hv : MsgsAt W v (ownL l)) => boxEqual_any (w := W) n n (HT6.out.keep hW) hv
  rw [show (n == n && eqMsgs (ownL l) (ownL l)) = true by rw [(eqMsgs_iff _ _).2 rfl]; simp] at he26
  have HCK := Lib.hid hck6
  have HEQ := Lib.hid heq6
  have HE2 := Lib.hid he26
  clear hck6 heq6 he26 heq hat' q0 q1 p0 p1 s0 s1 hm6 hmm hA9 hA9' ho6 hgl HM4 HM6 HX6
  have HM6 := HM7
  go_wp2_with fail
  have k7 := HS6.out w6.drew (Mods.refl _ _).drew
  refine wp_region_held_drew (S := (fun W' => W'.cell? ⟨A5, 0, none⟩ = some (.int .i64 n) ∧ W'.cell? ⟨A5, 1, none⟩ = some (.slice v1 vn1 vc1) ∧ W'.cell? ⟨A9, 0, none⟩ = some (.int .i64 n2) ∧ W'.cell? ⟨A9, 1, none⟩ = some (.slice v2 vn2 vc2) ∧ W'.cell? ⟨P, 0, none⟩ = some (.int .i64 n) ∧ W'.cell? ⟨P, 1, none⟩ = some (.slice xp l.length xcap) ∧ Mods [] w6 W')) (by kernel_rfl) (k7) (fun hHeld => ?_)
  refine wpAnyH_ready (rs := [0]) (by kernel_rfl) (by simp) ?_
  refine AllReadyH.cons (o := { dst := some 26, op := Go.Op.call { callee := Go.Callee.value (Go.Operand.func 15), args := #[], argTypes := #[] }, type := 4, pos := "law.go:65", after := #[], guard := none }) rfl (fun K hK => ?_) AllReadyH.nil
  go_simp
  refine (HK.out _ (HM6.out.trans' k7.2.2.2.2.2.2)).mono ?_
  rintro e W1 ⟨rfl, hm1⟩
  have k8 := HS6.out _ (k7.2.2.2.2.2.2.trans' hm1)
  clear hm1
  go_wp2_with fail
  refine hK.out _ _ (k8) (fun hHeld => ?_)
  clear hK K
  try simp only [Act.put, List.setIfInBounds_toArray, List.set_cons_zero, List.set_cons_succ]
  refine wpAnyH_take (i := 1) (oi := { dst := some 27, op := Go.Op.unOp Go.UnOp.not 4 (Go.Operand.tmp 26), type := 4, pos := "law.go:65", after := #[{ on := 0, ground := Go.Ground.data }], guard := none }) (v := .bool false) rfl (by kernel_rfl) (by kernel_rfl) (by kernel_rfl) (fun _ _ _ h => h) (Or.inl ⟨by rfl, fun w hSw => by (try dsimp only at hSw); first | (go_simp; done) | (go_simp; with_reducible rfl)⟩) (by assumption) ?_
  try simp only [Act.put, List.setIfInBounds_toArray, List.set_cons_zero, List.set_cons_succ]
  refine wpAnyH_take (i := 2) (oi := { dst := some 28, op := Go.Op.move (Go.Operand.tmp 27), type := 4, pos := "law.go:65", after := #[{ on := 1, ground := Go.Ground.data }, { on := 0, ground := Go.Ground.chain }], guard := none }) (v := .bool false) rfl (by kernel_rfl) (by kernel_rfl) (by kernel_rfl) (fun _ _ _ h => h) (Or.inl ⟨by rfl, fun w hSw => by (try dsimp only at hSw); first | (go_simp; done) | (go_simp; with_reducible rfl)⟩) (by assumption) ?_
  try simp only [Act.put, List.setIfInBounds_toArray, List.set_cons_zero, List.set_cons_succ]
  refine wpAnyH_take (i := 3) (oi := { dst := some 29, op := Go.Op.load 34 (Go.Operand.tmp 5), type := 34, pos := "law.go:65", after := #[{ on := 2, ground := Go.Ground.guard }], guard := some (2, false) }) (v := .agg #[.int .i64 n, .slice v1 vn1 vc1]) rfl (by kernel_rfl) (by kernel_rfl) (by kernel_rfl) (fun _ _ _ h => h) (Or.inl ⟨by rfl, fun w hSw => by (try dsimp only at hSw); first | (go_simp; done) | (go_simp; with_reducible rfl)⟩) (by assumption) ?_
  try simp only [Act.put, List.setIfInBounds_toArray, List.set_cons_zero, List.set_cons_succ]
  refine wpAnyH_take (i := 5) (oi := { dst := some 31, op := Go.Op.move (Go.Operand.tmp 6), type := 22, pos := "law.go:65", after := #[{ on := 2, ground := Go.Ground.guard }], guard := some (2, false) }) (v := .int .i64 E) rfl (by kernel_rfl) (by kernel_rfl) (by kernel_rfl) (fun _ _ _ h => h) (Or.inl ⟨by rfl, fun w hSw => by (try dsimp only at hSw); first | (go_simp; done) | (go_simp; with_reducible rfl)⟩) (by assumption) ?_
  try simp only [Act.put, List.setIfInBounds_toArray, List.set_cons_zero, List.set_cons_succ]
  refine wpAnyH_ready (rs := [4]) (by kernel_rfl) (by simp) ?_
  refine AllReadyH.cons (o := { dst := some 30, op := Go.Op.call { callee := Go.Callee.value (Go.Operand.func 23), args := #[Go.Operand.tmp 29], argTypes := #[34] }, type := 22, pos := "law.go:65", after := #[{ on := 3, ground := Go.Ground.data }, { on := 2, ground := Go.Ground.chain }, { on := 2, ground := Go.Ground.guard }], guard := some (2, false) }) rfl (fun K hK => ?_) AllReadyH.nil
  go_simp
  refine (HCK.out _ k8.2.2.2.2.2.2).mono ?_
  rintro e W2 ⟨rfl, hm1⟩
  have k9 := HS6.out _ (k8.2.2.2.2.2.2.trans' hm1)
  clear hm1
  go_wp2_with fail
  refine hK.out _ _ (k9) (fun hHeld => ?_)
  clear hK K
  try simp only [Act.put, List.setIfInBounds_toArray, List.set_cons_zero, List.set_cons_succ]
  refine wpAnyH_take (i := 6) (oi := { dst := some 32, op := Go.Op.binOp Go.BinOp.neq 22 (Go.Operand.tmp 30) (Go.Operand.tmp 31) 22, type := 4, pos := "law.go:65", after := #[{ on := 4, ground := Go.Ground.data }, { on := 5, ground := Go.Ground.data }, { on := 2, ground := Go.Ground.guard }], guard := some (2, false) }) (v := .bool false) rfl (by kernel_rfl) (by kernel_rfl) (by kernel_rfl) (fun _ _ _ h => h) (Or.inl ⟨by rfl, fun w hSw => by (try dsimp only at hSw); first | (go_simp; done) | (go_simp; with_reducible rfl)⟩) (by assumption) ?_
  try simp only [Act.put, List.setIfInBounds_toArray, List.set_cons_zero, List.set_cons_succ]
  refine wpAnyH_take (i := 7) (oi := { dst := some 33, op := Go.Op.pick (Go.Operand.tmp 28) (Go.Operand.const (Go.Value.bool true)) (Go.Operand.tmp 32), type := 4, pos := "law.go:65", after := #[{ on := 2, ground := Go.Ground.data }, { on := 6, ground := Go.Ground.data }], guard := none }) (v := .bool false) rfl (by kernel_rfl) (by kernel_rfl) (by kernel_rfl) (fun _ _ _ h => h) (Or.inl ⟨by rfl, fun w hSw => by (try dsimp only at hSw); first | (go_simp; done) | (go_simp; with_reducible rfl)⟩) (by assumption) ?_
  try simp only [Act.put, List.setIfInBounds_toArray, List.set_cons_zero, List.set_cons_succ]
  refine wpAnyH_take (i := 8) (oi := { dst := some 34, op := Go.Op.move (Go.Operand.tmp 33), type := 4, pos := "law.go:65", after := #[{ on := 7, ground := Go.Ground.data }, { on := 4, ground := Go.Ground.chain }], guard := none }) (v := .bool false) rfl (by kernel_rfl) (by kernel_rfl) (by kernel_rfl) (fun _ _ _ h => h) (Or.inl ⟨by rfl, fun w hSw => by (try dsimp only at hSw); first | (go_simp; done) | (go_simp; with_reducible rfl)⟩) (by assumption) ?_
  try simp only [Act.put, List.setIfInBounds_toArray, List.set_cons_zero, List.set_cons_succ]
  refine wpAnyH_take (i := 9) (oi := { dst := some 35, op := Go.Op.move (Go.Operand.tmp 8), type := 22, pos := "law.go:65", after := #[{ on := 8, ground := Go.Ground.guard }], guard := some (8, false) }) (v := .int .i64 E) rfl (by kernel_rfl) (by kernel_rfl) (by kernel_rfl) (fun _ _ _ h => h) (Or.inl ⟨by rfl, fun w hSw => by (try dsimp only at hSw); first | (go_simp; done) | (go_simp; with_reducible rfl)⟩) (by assumption) ?_
  try simp only [Act.put, List.setIfInBounds_toArray, List.set_cons_zero, List.set_cons_succ]
  refine wpAnyH_take (i := 10) (oi := { dst := some 36, op := Go.Op.move (Go.Operand.tmp 6), type := 22, pos := "law.go:65", after := #[{ on := 8, ground := Go.Ground.guard }], guard := some (8, false) }) (v := .int .i64 E) rfl (by kernel_rfl) (by kernel_rfl) (by kernel_rfl) (fun _ _ _ h => h) (Or.inl ⟨by rfl, fun w hSw => by (try dsimp only at hSw); first | (go_simp; done) | (go_simp; with_reducible rfl)⟩) (by assumption) ?_
  try simp only [Act.put, List.setIfInBounds_toArray, List.set_cons_zero, List.set_cons_succ]
  refine wpAnyH_take (i := 11) (oi := { dst := some 37, op := Go.Op.binOp Go.BinOp.neq 22 (Go.Operand.tmp 35) (Go.Operand.tmp 36) 22, type := 4, pos := "law.go:65", after := #[{ on := 9, ground := Go.Ground.data }, { on := 10, ground := Go.Ground.data }, { on := 8, ground := Go.Ground.guard }], guard := some (8, false) }) (v := .bool false) rfl (by kernel_rfl) (by kernel_rfl) (by kernel_rfl) (fun _ _ _ h => h) (Or.inl ⟨by rfl, fun w hSw => by (try dsimp only at hSw); first | (go_simp; done) | (go_simp; with_reducible rfl)⟩) (by assumption) ?_
  try simp only [Act.put, List.setIfInBounds_toArray, List.set_cons_zero, List.set_cons_succ]
  refine wpAnyH_take (i := 12) (oi := { dst := some 38, op := Go.Op.pick (Go.Operand.tmp 34) (Go.Operand.const (Go.Value.bool true)) (Go.Operand.tmp 37), type := 4, pos := "law.go:65", after := #[{ on := 8, ground := Go.Ground.data }, { on := 11, ground := Go.Ground.data }], guard := none }) (v := .bool false) rfl (by kernel_rfl) (by kernel_rfl) (by kernel_rfl) (fun _ _ _ h => h) (Or.inl ⟨by rfl, fun w hSw => by (try dsimp only at hSw); first | (go_simp; done) | (go_simp; with_reducible rfl)⟩) (by assumption) ?_
  try simp only [Act.put, List.setIfInBounds_toArray, List.set_cons_zero, List.set_cons_succ]
  refine wpAnyH_take (i := 13) (oi := { dst := some 39, op := Go.Op.move (Go.Operand.tmp 38), type := 4, pos := "law.go:65", after := #[{ on := 12, ground := Go.Ground.data }, { on := 8, ground := Go.Ground.chain }], guard := none }) (v := .bool false) rfl (by kernel_rfl) (by kernel_rfl) (by kernel_rfl) (fun _ _ _ h => h) (Or.inl ⟨by rfl, fun w hSw => by (try dsimp only at hSw); first | (go_simp; done) | (go_simp; with_reducible rfl)⟩) (by assumption) ?_
  try simp only [Act.put, List.setIfInBounds_toArray, List.set_cons_zero, List.set_cons_succ]
  refine wpAnyH_take (i := 14) (oi := { dst := some 40, op := Go.Op.load 34 (Go.Operand.tmp 5), type := 34, pos := "law.go:65", after := #[{ on := 13, ground := Go.Ground.guard }], guard := some (13, false) }) (v := .agg #[.int .i64 n, .slice v1 vn1 vc1]) rfl (by kernel_rfl) (by kernel_rfl) (by kernel_rfl) (fun _ _ _ h => h) (Or.inl ⟨by rfl, fun w hSw => by (try dsimp only at hSw); first | (go_simp; done) | (go_simp; with_reducible rfl)⟩) (by assumption) ?_
  try simp only [Act.put, List.setIfInBounds_toArray, List.set_cons_zero, List.set_cons_succ]
  refine wpAnyH_take (i := 15) (oi := { dst := some 41, op := Go.Op.load 34 (Go.Operand.tmp 9), type := 34, pos := "law.go:65", after := #[{ on := 13, ground := Go.Ground.guard }], guard := some (13, false) }) (v := .agg #[.int .i64 n2, .slice v2 vn2 vc2]) rfl (by kernel_rfl) (by kernel_rfl) (by kernel_rfl) (fun _ _ _ h => h) (Or.inl ⟨by rfl, fun w hSw => by (try dsimp only at hSw); first | (go_simp; done) | (go_simp; with_reducible rfl)⟩) (by assumption) ?_
  try simp only [Act.put, List.setIfInBounds_toArray, List.set_cons_zero, List.set_cons_succ]
  refine wpAnyH_take (i := 17) (oi := { dst := some 43, op := Go.Op.move (Go.Operand.tmp 10), type := 4, pos := "law.go:65", after := #[{ on := 13, ground := Go.Ground.guard }], guard := some (13, false) }) (v := .bool d) rfl (by kernel_rfl) (by kernel_rfl) (by kernel_rfl) (fun _ _ _ h => h) (Or.inl ⟨by rfl, fun w hSw => by (try dsimp only at hSw); first | (go_simp; done) | (go_simp; with_reducible rfl)⟩) (by assumption) ?_
  try simp only [Act.put, List.setIfInBounds_toArray, List.set_cons_zero, List.set_cons_succ]
  refine wpAnyH_take (i := 18) (oi := { dst := some 44, op := Go.Op.unOp Go.UnOp.not 4 (Go.Operand.tmp 43), type := 4, pos := "law.go:65", after := #[{ on := 17, ground := Go.Ground.data }, { on := 13, ground := Go.Ground.guard }], guard := some (13, false) }) (v := .bool !d) rfl (by kernel_rfl) (by kernel_rfl) (by kernel_rfl) (fun _ _ _ h => h) (Or.inl ⟨by rfl, fun w hSw => by (try dsimp only at hSw); first | (go_simp; done) | (go_simp; with_reducible rfl)⟩) (by assumption) ?_
  try simp only [Act.put, List.setIfInBounds_toArray, List.set_cons_zero, List.set_cons_succ]
  refine wpAnyH_ready (rs := [16]) (by kernel_rfl) (by simp) ?_
  refine AllReadyH.cons (o := { dst := some 42, op := Go.Op.call { callee := Go.Callee.value (Go.Operand.func 24), args := #[Go.Operand.tmp 40, Go.Operand.tmp 41], argTypes := #[34, 34] }, type := 4, pos := "law.go:65", after := #[{ on := 14, ground := Go.Ground.data }, { on := 15, ground := Go.Ground.data }, { on := 13, ground := Go.Ground.chain }, { on := 13, ground := Go.Ground.guard }], guard := some (13, false) }) rfl (fun K hK => ?_) AllReadyH.nil
  go_simp
  refine (HEQ.out _ k9.2.2.2.2.2.2).mono ?_
  rintro e W3 ⟨rfl, hm1⟩
  have k10 := HS6.out _ (k9.2.2.2.2.2.2.trans' hm1)
  clear hm1
  go_wp2_with fail
  refine hK.out _ _ (k10) (fun hHeld => ?_)
  clear hK K
  try simp only [Act.put, List.setIfInBounds_toArray, List.set_cons_zero, List.set_cons_succ]
  refine wpAnyH_take (i := 19) (oi := { dst := some 45, op := Go.Op.binOp Go.BinOp.neq 4 (Go.Operand.tmp 42) (Go.Operand.tmp 44) 4, type := 4, pos := "law.go:65", after := #[{ on := 16, ground := Go.Ground.data }, { on := 18, ground := Go.Ground.data }, { on := 13, ground := Go.Ground.guard }], guard := some (13, false) }) (v := .bool false) rfl (by kernel_rfl) (by kernel_rfl) (by kernel_rfl) (fun _ _ _ h => h) (Or.inl ⟨by rfl, fun w hSw => by (try dsimp only at hSw); first | (go_simp; done) | (go_simp; with_reducible rfl)⟩) (by assumption) ?_
  try simp only [Act.put, List.setIfInBounds_toArray, List.set_cons_zero, List.set_cons_succ]
  refine wpAnyH_take (i := 20) (oi := { dst := some 46, op := Go.Op.pick (Go.Operand.tmp 39) (Go.Operand.const (Go.Value.bool true)) (Go.Operand.tmp 45), type := 4, pos := "law.go:65", after := #[{ on := 13, ground := Go.Ground.data }, { on := 19, ground := Go.Ground.data }], guard := none }) (v := .bool false) rfl (by kernel_rfl) (by kernel_rfl) (by kernel_rfl) (fun _ _ _ h => h) (Or.inl ⟨by rfl, fun w hSw => by (try dsimp only at hSw); first | (go_simp; done) | (go_simp; with_reducible rfl)⟩) (by assumption) ?_
  try simp only [Act.put, List.setIfInBounds_toArray, List.set_cons_zero, List.set_cons_succ]
  refine wpAnyH_take (i := 21) (oi := { dst := some 47, op := Go.Op.move (Go.Operand.tmp 46), type := 4, pos := "law.go:65", after := #[{ on := 20, ground := Go.Ground.data }, { on := 16, ground := Go.Ground.chain }], guard := none }) (v := .bool false) rfl (by kernel_rfl) (by kernel_rfl) (by kernel_rfl) (fun _ _ _ h => h) (Or.inl ⟨by rfl, fun w hSw => by (try dsimp only at hSw); first | (go_simp; done) | (go_simp; with_reducible rfl)⟩) (by assumption) ?_
  try simp only [Act.put, List.setIfInBounds_toArray, List.set_cons_zero, List.set_cons_succ]
  refine wpAnyH_take (i := 22) (oi := { dst := some 48, op := Go.Op.load 34 (Go.Operand.tmp 5), type := 34, pos := "law.go:65", after := #[{ on := 21, ground := Go.Ground.guard }], guard := some (21, false) }) (v := .agg #[.int .i64 n, .slice v1 vn1 vc1]) rfl (by kernel_rfl) (by kernel_rfl) (by kernel_rfl) (fun _ _ _ h => h) (Or.inl ⟨by rfl, fun w hSw => by (try dsimp only at hSw); first | (go_simp; done) | (go_simp; with_reducible rfl)⟩) (by assumption) ?_
  try simp only [Act.put, List.setIfInBounds_toArray, List.set_cons_zero, List.set_cons_succ]
  refine wpAnyH_take (i := 23) (oi := { dst := some 49, op := Go.Op.load 33 (Go.Operand.tmp 2), type := 33, pos := "law.go:65", after := #[{ on := 21, ground := Go.Ground.guard }], guard := some (21, false) }) (v := .agg #[.int .i64 n, .slice xp l.length xcap]) rfl (by kernel_rfl) (by kernel_rfl) (by kernel_rfl) (fun _ _ _ h => h) (Or.inl ⟨by rfl, fun w hSw => by (try dsimp only at hSw); first | (go_simp; done) | (go_simp; with_reducible rfl)⟩) (by assumption) ?_
  try simp only [Act.put, List.setIfInBounds_toArray, List.set_cons_zero, List.set_cons_succ]
  refine wpAnyH_ready (rs := [24]) (by kernel_rfl) (by simp) ?_
  refine AllReadyH.cons (o := { dst := some 50, op := Go.Op.call { callee := Go.Callee.value (Go.Operand.func 19), args := #[Go.Operand.tmp 49], argTypes := #[33] }, type := 34, pos := "law.go:65", after := #[{ on := 23, ground := Go.Ground.data }, { on := 21, ground := Go.Ground.chain }, { on := 21, ground := Go.Ground.guard }], guard := some (21, false) }) rfl (fun K hK => ?_) AllReadyH.nil
  go_simp
  refine (HOW.out _ (HM6.out.trans' k10.2.2.2.2.2.2)).mono ?_
  rintro e W4 ⟨v3, rfl, ho3, hm1⟩
  have k11 := HS6.out _ (k10.2.2.2.2.2.2.trans' hm1)
  clear hm1
  obtain ⟨va3, vn3, vc3, rfl⟩ := owns_shape ho3
  go_wp2_with fail
  refine hK.out _ _ (k11) (fun hHeld => ?_)
  clear hK K
  try simp only [Act.put, List.setIfInBounds_toArray, List.set_cons_zero, List.set_cons_succ]
  refine wpAnyH_ready (rs := [25]) (by kernel_rfl) (by simp) ?_
  refine AllReadyH.cons (o := { dst := some 51, op := Go.Op.call { callee := Go.Callee.value (Go.Operand.func 24), args := #[Go.Operand.tmp 48, Go.Operand.tmp 50], argTypes := #[34, 34] }, type := 4, pos := "law.go:65", after := #[{ on := 22, ground := Go.Ground.data }, { on := 24, ground := Go.Ground.data }, { on := 24, ground := Go.Ground.chain }, { on := 21, ground := Go.Ground.guard }], guard := some (21, false) }) rfl (fun K hK => ?_) AllReadyH.nil
  go_simp
  refine (HE2.out _ _ k11.2.2.2.2.2.2 (ho3.at (by rw [ownL_length]; omega))).mono ?_
  rintro e W5 ⟨rfl, hm1⟩
  have k12 := HS6.out _ (k11.2.2.2.2.2.2.trans' hm1)
  clear hm1 ho3
  go_wp2_with fail
  refine hK.out _ _ (k12) (fun hHeld => ?_)
  clear hK K
  try simp only [Act.put, List.setIfInBounds_toArray, List.set_cons_zero, List.set_cons_succ]
  refine wpAnyH_take (i := 26) (oi := { dst := some 52, op := Go.Op.unOp Go.UnOp.not 4 (Go.Operand.tmp 51), type := 4, pos := "law.go:65", after := #[{ on := 25, ground := Go.Ground.data }, { on := 21, ground := Go.Ground.guard }], guard := some (21, false) }) (v := .bool false) rfl (by kernel_rfl) (by kernel_rfl) (by kernel_rfl) (fun _ _ _ h => h) (Or.inl ⟨by rfl, fun w hSw => by (try dsimp only at hSw); first | (go_simp; done) | (go_simp; with_reducible rfl)⟩) (by assumption) ?_
  try simp only [Act.put, List.setIfInBounds_toArray, List.set_cons_zero, List.set_cons_succ]
  refine wpAnyH_take (i := 27) (oi := { dst := some 53, op := Go.Op.pick (Go.Operand.tmp 47) (Go.Operand.const (Go.Value.bool true)) (Go.Operand.tmp 52), type := 4, pos := "law.go:65", after := #[{ on := 21, ground := Go.Ground.data }, { on := 26, ground := Go.Ground.data }], guard := none }) (v := .bool false) rfl (by kernel_rfl) (by kernel_rfl) (by kernel_rfl) (fun _ _ _ h => h) (Or.inl ⟨by rfl, fun w hSw => by (try dsimp only at hSw); first | (go_simp; done) | (go_simp; with_reducible rfl)⟩) (by assumption) ?_
  try simp only [Act.put, List.setIfInBounds_toArray, List.set_cons_zero, List.set_cons_succ]
  refine wpAnyH_done (by kernel_rfl) ?_ _
  have HM12 := Lib.hid (HM7.out.trans' k12.2.2.2.2.2.2)
  clear k7 k8 k9 k10 k11 k12 hHeld
  go_wp2
  go_ret
  exact ⟨rfl, HM12.out⟩

set_option maxRecDepth 100000 in
set_option maxHeartbeats 8000000 in
theorem mailboxValues_ok (n : Int) {xv : Value} {l : List MsgB} (c : Nat) (hc : c < 256) {w : World} (hxv : MsgsArg w xv l) (hsz : ∀ m ∈ l, m.sender.size ≤ 9223372036854775807 ∧ m.text.size ≤ 9223372036854775807)
    (hu : Usages w) (hsh : ShaTab w) (ml : Int) (hm : w.cell? ⟨1, 0, none⟩ = some (.int .i64 ml)) (hE : boxE ⟨n, (ownL l).map MsgB.v⟩ = 0) :
    Calls Tryz.prog 5 #[.agg #[.int .i64 n, xv], .int .u8 c] w fun e w' => e = .returned (.bool true) ∧ Mods [] w w' := by
  have hk := fun W (hW : Mods [] w W) => known_any (w := W) (hu.mods hW (by simp)) (hsh.keep hW) ml (hW.keep hm)
  have how := fun W (hW : Mods [] w W) => own_any (w := W) n (hxv.keep hW) hsz
  have hLl := ownL_length l
  have hLs := ownL_size l
  have hL40 : (ownL l).length ≤ 40 := by omega
  have hL9 : (ownL l).length ≤ 1000000000 := by omega
  have hsnd : ∀ m ∈ ownL l, m.sender.size ≤ 1000000 := fun m hm => by have := (hLs m hm).1; omega
  have hrc := fun W v (hv : MsgsAt W v (ownL l)) => refBoxCheck_any (w := W) n hv hsnd
  have hck0 := fun W v (hW : Mods [] w W) (hv : MsgsAt W v (ownL l)) => boxCheck_any (w := W) n hv hsnd ml (hW.keep hm)
  have hen := fun W v (hW : Mods [] w W) (hv : MsgsAt W v (ownL l)) => boxEncode_ok (w := W) n hv hsnd ml (hW.keep hm) hE
  have hfw := decBox_fwd (a := 1048575) (c := 49) (by decide) (by decide) hE
  have hel := encBox_len hE
  obtain ⟨enc, henc⟩ : ∃ enc : ByteArray, ⟨(encBox ⟨n, (ownL l).map MsgB.v⟩).toArray⟩ = enc := ⟨_, rfl⟩
  have hencs : enc.size ≤ 1000000 := by rw [← henc]; show (encBox _).toArray.size ≤ _; rw [List.size_toArray]; omega
  have hval := fun W v (hv : MsgsAt W v (ownL l)) => refValue_ok (w := W) n hv hE
  simp only [henc] at hen hval
  have hde := fun W (hW : Mods [] w W) => boxDecode_any (w := W) enc hencs ml (hW.keep hm)
  rw [show decBox 1048575 49 enc.data.toList = some ⟨n, (ownL l).map MsgB.v⟩ by rw [← henc]; exact hfw] at hde
  have HVA := Lib.hid hval
  have HDE := Lib.hid hde
  rw [hE] at hrc hck0
  clear henc hencs hel hfw hval hde
  obtain ⟨xp, xcap, rfl, _, _, _⟩ := id hxv
  have HK := Lib.hid hk
  have HOW := Lib.hid how
  have HRC := Lib.hid hrc
  have HC0 := Lib.hid hck0
  have HEN := Lib.hid hen
  have HLS := Lib.hid hLs
  have HLL := Lib.hid hLl
  have HL40 : Hid ((ownL l).length ≤ 40) := hL40
  have HL9 : Hid ((ownL l).length ≤ 1000000000) := hL9
  have hM0 : Mods [] w (w.alloc (.cells #[.int .i64 n, .slice xp l.length xcap] 33)) := (Mods.refl _ _).alloc _
  have hP0 := heap_alloc_new w (.cells #[.int .i64 n, .slice xp l.length xcap] 33)
  have HM0 := Lib.hid hM0
  have HP0 := Lib.hid hP0
  clear hk how hrc hck0 hen hLs hLl hsnd hxv hsz hu hsh hm hE hM0 hP0 hL40 hL9
  go_enter Tryz.func5, Tryz.ntmps5
  go_wp2_with fail
  refine (HOW.out _ HM0.out).mono ?_
  rintro e w1 ⟨v, rfl, ho1, hm1⟩
  obtain ⟨v1, vn1, vc1, rfl⟩ := owns_shape ho1
  have hz1 : w.heap.size < w1.heap.size := lt_of_heap (hm1.heap HP0.out (by simp))
  have hP1 := hm1.heap HP0.out (by simp)
  have hM1 := HM0.out.trans' hm1
  clear hm1
  go_wp2_with fail
  have ha2 : Mods [] w1 (w1.alloc (.cells #[.int .i64 n, .slice v1 vn1 vc1] 34)) := (Mods.refl _ _).alloc _
  have hA5 := heap_alloc_new w1 (.cells #[.int .i64 n, .slice v1 vn1 vc1] 34)
  have ho2 := ho1.mods ha2 (by simp)
  have hP2 := ha2.heap hP1 (by simp)
  have hM2 := hM1.trans' ha2
  obtain ⟨A5, hA5e⟩ : ∃ A5, w1.heap.size = A5 := ⟨_, rfl⟩
  obtain ⟨P, hPe⟩ : ∃ P, w.heap.size = P := ⟨_, rfl⟩
  rw [hA5e] at hA5 ⊢
  rw [hPe] at hP2 ⊢
  generalize w1.alloc (.cells #[.int .i64 n, .slice v1 vn1 vc1] 34) = w2 at *
  have q0 := cell_of_heap hA5 0
  have q1 := cell_of_heap hA5 1
  have p0 := cell_of_heap hP2 0
  have p1 := cell_of_heap hP2 1
  try simp only [List.getElem?_toArray, List.getElem?_cons_zero, List.getElem?_cons_succ] at q0 q1 p0 p1
  clear ha2 hM1 ho1 hP1
  have hAT2 := ho2.at HL9.out
  have HX2 := Lib.hid (show w2.heap[A5]? = _ from hA5)
  have HX3 := Lib.hid (show w2.heap[P]? = _ from hP2)
  have HX4 := Lib.hid ho2
  have HX5 := Lib.hid hM2
  have HX6 := Lib.hid hAT2
  have hA5l : A5 < w2.heap.size := lt_of_heap hA5
  have hPl : P < w2.heap.size := lt_of_heap hP2
  clear hA5 hP2 ho2 hM2 hAT2 hA5e hPe hz1
  refine (HRC.out _ _ HX6.out).mono ?_
  rintro e w3 ⟨rfl, hm3⟩
  replace q0 := hm3.keep q0
  replace q1 := hm3.keep q1
  replace p0 := hm3.keep p0
  replace p1 := hm3.keep p1
  have HM3 := Lib.hid hm3
  clear hm3
  go_wp2_with fail
  refine (HEN.out _ _ (HX5.out.trans' HM3.out) (HX6.out.keep HM3.out)).mono ?_
  rintro e w4 ⟨rfl, hm4⟩
  replace q0 := hm4.keep q0
  replace q1 := hm4.keep q1
  replace p0 := hm4.keep p0
  replace p1 := hm4.keep p1
  have HM4 := Lib.hid (HM3.out.trans' hm4)
  clear hm4 HM3
  go_wp2_with fail
  refine (HOW.out _ (HX5.out.trans' HM4.out)).mono ?_
  rintro e w5 ⟨v, rfl, ho5, hm5⟩
  obtain ⟨va, vn, vc, rfl⟩ := owns_shape ho5
  replace q0 := hm5.keep q0
  replace q1 := hm5.keep q1
  replace p0 := hm5.keep p0
  replace p1 := hm5.keep p1
  have hs24 := HM4.out.size
  have hs45 := hm5.size
  have HM5 := Lib.hid (HM4.out.trans' hm5)
  clear hm5
  go_wp2_with fail
  have ha6 : Mods [] w5 (w5.alloc (.cells #[.int .i64 n, .slice va vn vc] 34)) := (Mods.refl _ _).alloc _
  have hA9 := heap_alloc_new w5 (.cells #[.int .i64 n, .slice va vn vc] 34)
  have ho6 := ho5.mods ha6 (by simp)
  replace q0 := ha6.keep q0
  replace q1 := ha6.keep q1
  replace p0 := ha6.keep p0
  replace p1 := ha6.keep p1
  have HM6 := Lib.hid (HM5.out.trans' ha6)
  obtain ⟨A9, hA9e⟩ : ∃ A9, w5.heap.size = A9 := ⟨_, rfl⟩
  rw [hA9e] at hA9 ⊢
  have hA9l : w2.heap.size ≤ A9 := by rw [← hA9e]; omega
  generalize w5.alloc (.cells #[.int .i64 n, .slice va vn vc] 34) = w7 at *
  have hgl : ∀ k, (Value.slice va vn vc).ownBlock = some k → w2.heap.size ≤ k := fun k hk => by
    have := (ho6.lt k hk).1
    omega
  clear ha6 ho5 hA9e HM5
  refine (spoil_any hA9 ho6 HL40.out HLS.out c hc).mono ?_
  rintro e w6 ⟨d, n2, v', l2, rfl, hA9', hat', heq, hm6⟩
  obtain ⟨v2, vn2, vc2, rfl⟩ := hat'.shape
  have hmm : Mods [] w2 w6 := HM6.out.trans hm6 (fun i hi => by
    rcases List.mem_cons.1 hi with rfl | hi
    · exact .inr hA9l
    · exact .inr (hgl i (by simpa [eq_comm] using hi)))
  have q0 := hmm.keep (cell_of_heap HX2.out 0)
  have q1 := hmm.keep (cell_of_heap HX2.out 1)
  have p0 := hmm.keep (cell_of_heap HX3.out 0)
  have p1 := hmm.keep (cell_of_heap HX3.out 1)
  have s0 := cell_of_heap hA9' 0
  have s1 := cell_of_heap hA9' 1
  try simp only [List.getElem?_toArray, List.getElem?_cons_zero, List.getElem?_cons_succ] at q0 q1 p0 p1 s0 s1
  have HS6 : Hid (∀ W', Mods [] w6 W' → W'.cell? ⟨A5, 0, none⟩ = some (.int .i64 n) ∧ W'.cell? ⟨A5, 1, none⟩ = some (.slice v1 vn1 vc1) ∧ W'.cell? ⟨A9, 0, none⟩ = some (.int .i64 n2) ∧ W'.cell? ⟨A9, 1, none⟩ = some (.slice v2 vn2 vc2) ∧ W'.cell? ⟨P, 0, none⟩ = some (.int .i64 n) ∧ W'.cell? ⟨P, 1, none⟩ = some (.slice xp l.length xcap) ∧ Mods [] w6 W') := by
    show ∀ _, _
    exact fun W' h => ⟨h.keep q0, h.keep q1, h.keep s0, h.keep s1, h.keep p0, h.keep p1, h⟩
  have HM7 := Lib.hid (HX5.out.trans' hmm)
  have HT6 := Lib.hid (HX6.out.keep hmm)
  have hck6 := fun W (hW : Mods [] w6 W) => HC0.out W _ (HM7.out.trans' hW) (HT6.out.keep hW)
  have heq6 := fun W (hW : Mods [] w6 W) => boxEqual_any (w := W) n n2 (HT6.out.keep hW) (hat'.keep hW)
  rw [heq] at heq6
  have he26 := fun W v (hW : Mods [] w6 W) (hv : MsgsAt W v (ownL l)) => boxEqual_any (w := W) n n (HT6.out.keep hW) hv
  rw [show (n == n && eqMsgs (ownL l) (ownL l)) = true by rw [(eqMsgs_iff _ _).2 rfl]; simp] at he26
  have HCK := Lib.hid hck6
  have HEQ := Lib.hid heq6
  have HE2 := Lib.hid he26
  clear hck6 heq6 he26 heq hat' q0 q1 p0 p1 s0 s1 hm6 hmm hA9 hA9' ho6 hgl HM4 HM6 HX6
  have HM6 := HM7
  go_wp2_with fail
  have k7 := HS6.out w6.drew (Mods.refl _ _).drew
  refine wp_region_held_drew (S := (fun W' => W'.cell? ⟨A5, 0, none⟩ = some (.int .i64 n) ∧ W'.cell? ⟨A5, 1, none⟩ = some (.slice v1 vn1 vc1) ∧ W'.cell? ⟨A9, 0, none⟩ = some (.int .i64 n2) ∧ W'.cell? ⟨A9, 1, none⟩ = some (.slice v2 vn2 vc2) ∧ W'.cell? ⟨P, 0, none⟩ = some (.int .i64 n) ∧ W'.cell? ⟨P, 1, none⟩ = some (.slice xp l.length xcap) ∧ Mods [] w6 W')) (by kernel_rfl) (k7) (fun hHeld => ?_)
  refine wpAnyH_ready (rs := [0]) (by kernel_rfl) (by simp) ?_
  refine AllReadyH.cons (o := { dst := some 26, op := Go.Op.call { callee := Go.Callee.value (Go.Operand.func 15), args := #[], argTypes := #[] }, type := 4, pos := "law.go:65", after := #[], guard := none }) rfl (fun K hK => ?_) AllReadyH.nil
  go_simp
  refine (HK.out _ (HM6.out.trans' k7.2.2.2.2.2.2)).mono ?_
  rintro e W1 ⟨rfl, hm1⟩
  have k8 := HS6.out _ (k7.2.2.2.2.2.2.trans' hm1)
  clear hm1
  go_wp2_with fail
  refine hK.out _ _ (k8) (fun hHeld => ?_)
  clear hK K
  try simp only [Act.put, List.setIfInBounds_toArray, List.set_cons_zero, List.set_cons_succ]
  refine wpAnyH_take (i := 1) (oi := { dst := some 27, op := Go.Op.unOp Go.UnOp.not 4 (Go.Operand.tmp 26), type := 4, pos := "law.go:65", after := #[{ on := 0, ground := Go.Ground.data }], guard := none }) (v := .bool false) rfl (by kernel_rfl) (by kernel_rfl) (by kernel_rfl) (fun _ _ _ h => h) (Or.inl ⟨by rfl, fun w hSw => by (try dsimp only at hSw); first | (go_simp; done) | (go_simp; with_reducible rfl)⟩) (by assumption) ?_
  try simp only [Act.put, List.setIfInBounds_toArray, List.set_cons_zero, List.set_cons_succ]
  refine wpAnyH_take (i := 2) (oi := { dst := some 28, op := Go.Op.move (Go.Operand.tmp 27), type := 4, pos := "law.go:65", after := #[{ on := 1, ground := Go.Ground.data }, { on := 0, ground := Go.Ground.chain }], guard := none }) (v := .bool false) rfl (by kernel_rfl) (by kernel_rfl) (by kernel_rfl) (fun _ _ _ h => h) (Or.inl ⟨by rfl, fun w hSw => by (try dsimp only at hSw); first | (go_simp; done) | (go_simp; with_reducible rfl)⟩) (by assumption) ?_
  try simp only [Act.put, List.setIfInBounds_toArray, List.set_cons_zero, List.set_cons_succ]
  refine wpAnyH_take (i := 3) (oi := { dst := some 29, op := Go.Op.load 34 (Go.Operand.tmp 5), type := 34, pos := "law.go:65", after := #[{ on := 2, ground := Go.Ground.guard }], guard := some (2, false) }) (v := .agg #[.int .i64 n, .slice v1 vn1 vc1]) rfl (by kernel_rfl) (by kernel_rfl) (by kernel_rfl) (fun _ _ _ h => h) (Or.inl ⟨by rfl, fun w hSw => by (try dsimp only at hSw); first | (go_simp; done) | (go_simp; with_reducible rfl)⟩) (by assumption) ?_
  try simp only [Act.put, List.setIfInBounds_toArray, List.set_cons_zero, List.set_cons_succ]
  refine wpAnyH_take (i := 5) (oi := { dst := some 31, op := Go.Op.move (Go.Operand.tmp 6), type := 22, pos := "law.go:65", after := #[{ on := 2, ground := Go.Ground.guard }], guard := some (2, false) }) (v := .int .i64 0) rfl (by kernel_rfl) (by kernel_rfl) (by kernel_rfl) (fun _ _ _ h => h) (Or.inl ⟨by rfl, fun w hSw => by (try dsimp only at hSw); first | (go_simp; done) | (go_simp; with_reducible rfl)⟩) (by assumption) ?_
  try simp only [Act.put, List.setIfInBounds_toArray, List.set_cons_zero, List.set_cons_succ]
  refine wpAnyH_ready (rs := [4]) (by kernel_rfl) (by simp) ?_
  refine AllReadyH.cons (o := { dst := some 30, op := Go.Op.call { callee := Go.Callee.value (Go.Operand.func 23), args := #[Go.Operand.tmp 29], argTypes := #[34] }, type := 22, pos := "law.go:65", after := #[{ on := 3, ground := Go.Ground.data }, { on := 2, ground := Go.Ground.chain }, { on := 2, ground := Go.Ground.guard }], guard := some (2, false) }) rfl (fun K hK => ?_) AllReadyH.nil
  go_simp
  refine (HCK.out _ k8.2.2.2.2.2.2).mono ?_
  rintro e W2 ⟨rfl, hm1⟩
  have k9 := HS6.out _ (k8.2.2.2.2.2.2.trans' hm1)
  clear hm1
  go_wp2_with fail
  refine hK.out _ _ (k9) (fun hHeld => ?_)
  clear hK K
  try simp only [Act.put, List.setIfInBounds_toArray, List.set_cons_zero, List.set_cons_succ]
  refine wpAnyH_take (i := 6) (oi := { dst := some 32, op := Go.Op.binOp Go.BinOp.neq 22 (Go.Operand.tmp 30) (Go.Operand.tmp 31) 22, type := 4, pos := "law.go:65", after := #[{ on := 4, ground := Go.Ground.data }, { on := 5, ground := Go.Ground.data }, { on := 2, ground := Go.Ground.guard }], guard := some (2, false) }) (v := .bool false) rfl (by kernel_rfl) (by kernel_rfl) (by kernel_rfl) (fun _ _ _ h => h) (Or.inl ⟨by rfl, fun w hSw => by (try dsimp only at hSw); first | (go_simp; done) | (go_simp; with_reducible rfl)⟩) (by assumption) ?_
  try simp only [Act.put, List.setIfInBounds_toArray, List.set_cons_zero, List.set_cons_succ]
  refine wpAnyH_take (i := 7) (oi := { dst := some 33, op := Go.Op.pick (Go.Operand.tmp 28) (Go.Operand.const (Go.Value.bool true)) (Go.Operand.tmp 32), type := 4, pos := "law.go:65", after := #[{ on := 2, ground := Go.Ground.data }, { on := 6, ground := Go.Ground.data }], guard := none }) (v := .bool false) rfl (by kernel_rfl) (by kernel_rfl) (by kernel_rfl) (fun _ _ _ h => h) (Or.inl ⟨by rfl, fun w hSw => by (try dsimp only at hSw); first | (go_simp; done) | (go_simp; with_reducible rfl)⟩) (by assumption) ?_
  try simp only [Act.put, List.setIfInBounds_toArray, List.set_cons_zero, List.set_cons_succ]
  refine wpAnyH_take (i := 8) (oi := { dst := some 34, op := Go.Op.move (Go.Operand.tmp 33), type := 4, pos := "law.go:65", after := #[{ on := 7, ground := Go.Ground.data }, { on := 4, ground := Go.Ground.chain }], guard := none }) (v := .bool false) rfl (by kernel_rfl) (by kernel_rfl) (by kernel_rfl) (fun _ _ _ h => h) (Or.inl ⟨by rfl, fun w hSw => by (try dsimp only at hSw); first | (go_simp; done) | (go_simp; with_reducible rfl)⟩) (by assumption) ?_
  try simp only [Act.put, List.setIfInBounds_toArray, List.set_cons_zero, List.set_cons_succ]
  refine wpAnyH_take (i := 9) (oi := { dst := some 35, op := Go.Op.move (Go.Operand.tmp 8), type := 22, pos := "law.go:65", after := #[{ on := 8, ground := Go.Ground.guard }], guard := some (8, false) }) (v := .int .i64 0) rfl (by kernel_rfl) (by kernel_rfl) (by kernel_rfl) (fun _ _ _ h => h) (Or.inl ⟨by rfl, fun w hSw => by (try dsimp only at hSw); first | (go_simp; done) | (go_simp; with_reducible rfl)⟩) (by assumption) ?_
  try simp only [Act.put, List.setIfInBounds_toArray, List.set_cons_zero, List.set_cons_succ]
  refine wpAnyH_take (i := 10) (oi := { dst := some 36, op := Go.Op.move (Go.Operand.tmp 6), type := 22, pos := "law.go:65", after := #[{ on := 8, ground := Go.Ground.guard }], guard := some (8, false) }) (v := .int .i64 0) rfl (by kernel_rfl) (by kernel_rfl) (by kernel_rfl) (fun _ _ _ h => h) (Or.inl ⟨by rfl, fun w hSw => by (try dsimp only at hSw); first | (go_simp; done) | (go_simp; with_reducible rfl)⟩) (by assumption) ?_
  try simp only [Act.put, List.setIfInBounds_toArray, List.set_cons_zero, List.set_cons_succ]
  refine wpAnyH_take (i := 11) (oi := { dst := some 37, op := Go.Op.binOp Go.BinOp.neq 22 (Go.Operand.tmp 35) (Go.Operand.tmp 36) 22, type := 4, pos := "law.go:65", after := #[{ on := 9, ground := Go.Ground.data }, { on := 10, ground := Go.Ground.data }, { on := 8, ground := Go.Ground.guard }], guard := some (8, false) }) (v := .bool false) rfl (by kernel_rfl) (by kernel_rfl) (by kernel_rfl) (fun _ _ _ h => h) (Or.inl ⟨by rfl, fun w hSw => by (try dsimp only at hSw); first | (go_simp; done) | (go_simp; with_reducible rfl)⟩) (by assumption) ?_
  try simp only [Act.put, List.setIfInBounds_toArray, List.set_cons_zero, List.set_cons_succ]
  refine wpAnyH_take (i := 12) (oi := { dst := some 38, op := Go.Op.pick (Go.Operand.tmp 34) (Go.Operand.const (Go.Value.bool true)) (Go.Operand.tmp 37), type := 4, pos := "law.go:65", after := #[{ on := 8, ground := Go.Ground.data }, { on := 11, ground := Go.Ground.data }], guard := none }) (v := .bool false) rfl (by kernel_rfl) (by kernel_rfl) (by kernel_rfl) (fun _ _ _ h => h) (Or.inl ⟨by rfl, fun w hSw => by (try dsimp only at hSw); first | (go_simp; done) | (go_simp; with_reducible rfl)⟩) (by assumption) ?_
  try simp only [Act.put, List.setIfInBounds_toArray, List.set_cons_zero, List.set_cons_succ]
  refine wpAnyH_take (i := 13) (oi := { dst := some 39, op := Go.Op.move (Go.Operand.tmp 38), type := 4, pos := "law.go:65", after := #[{ on := 12, ground := Go.Ground.data }, { on := 8, ground := Go.Ground.chain }], guard := none }) (v := .bool false) rfl (by kernel_rfl) (by kernel_rfl) (by kernel_rfl) (fun _ _ _ h => h) (Or.inl ⟨by rfl, fun w hSw => by (try dsimp only at hSw); first | (go_simp; done) | (go_simp; with_reducible rfl)⟩) (by assumption) ?_
  try simp only [Act.put, List.setIfInBounds_toArray, List.set_cons_zero, List.set_cons_succ]
  refine wpAnyH_take (i := 14) (oi := { dst := some 40, op := Go.Op.load 34 (Go.Operand.tmp 5), type := 34, pos := "law.go:65", after := #[{ on := 13, ground := Go.Ground.guard }], guard := some (13, false) }) (v := .agg #[.int .i64 n, .slice v1 vn1 vc1]) rfl (by kernel_rfl) (by kernel_rfl) (by kernel_rfl) (fun _ _ _ h => h) (Or.inl ⟨by rfl, fun w hSw => by (try dsimp only at hSw); first | (go_simp; done) | (go_simp; with_reducible rfl)⟩) (by assumption) ?_
  try simp only [Act.put, List.setIfInBounds_toArray, List.set_cons_zero, List.set_cons_succ]
  refine wpAnyH_take (i := 15) (oi := { dst := some 41, op := Go.Op.load 34 (Go.Operand.tmp 9), type := 34, pos := "law.go:65", after := #[{ on := 13, ground := Go.Ground.guard }], guard := some (13, false) }) (v := .agg #[.int .i64 n2, .slice v2 vn2 vc2]) rfl (by kernel_rfl) (by kernel_rfl) (by kernel_rfl) (fun _ _ _ h => h) (Or.inl ⟨by rfl, fun w hSw => by (try dsimp only at hSw); first | (go_simp; done) | (go_simp; with_reducible rfl)⟩) (by assumption) ?_
  try simp only [Act.put, List.setIfInBounds_toArray, List.set_cons_zero, List.set_cons_succ]
  refine wpAnyH_take (i := 17) (oi := { dst := some 43, op := Go.Op.move (Go.Operand.tmp 10), type := 4, pos := "law.go:65", after := #[{ on := 13, ground := Go.Ground.guard }], guard := some (13, false) }) (v := .bool d) rfl (by kernel_rfl) (by kernel_rfl) (by kernel_rfl) (fun _ _ _ h => h) (Or.inl ⟨by rfl, fun w hSw => by (try dsimp only at hSw); first | (go_simp; done) | (go_simp; with_reducible rfl)⟩) (by assumption) ?_
  try simp only [Act.put, List.setIfInBounds_toArray, List.set_cons_zero, List.set_cons_succ]
  refine wpAnyH_take (i := 18) (oi := { dst := some 44, op := Go.Op.unOp Go.UnOp.not 4 (Go.Operand.tmp 43), type := 4, pos := "law.go:65", after := #[{ on := 17, ground := Go.Ground.data }, { on := 13, ground := Go.Ground.guard }], guard := some (13, false) }) (v := .bool !d) rfl (by kernel_rfl) (by kernel_rfl) (by kernel_rfl) (fun _ _ _ h => h) (Or.inl ⟨by rfl, fun w hSw => by (try dsimp only at hSw); first | (go_simp; done) | (go_simp; with_reducible rfl)⟩) (by assumption) ?_
  try simp only [Act.put, List.setIfInBounds_toArray, List.set_cons_zero, List.set_cons_succ]
  refine wpAnyH_ready (rs := [16]) (by kernel_rfl) (by simp) ?_
  refine AllReadyH.cons (o := { dst := some 42, op := Go.Op.call { callee := Go.Callee.value (Go.Operand.func 24), args := #[Go.Operand.tmp 40, Go.Operand.tmp 41], argTypes := #[34, 34] }, type := 4, pos := "law.go:65", after := #[{ on := 14, ground := Go.Ground.data }, { on := 15, ground := Go.Ground.data }, { on := 13, ground := Go.Ground.chain }, { on := 13, ground := Go.Ground.guard }], guard := some (13, false) }) rfl (fun K hK => ?_) AllReadyH.nil
  go_simp
  refine (HEQ.out _ k9.2.2.2.2.2.2).mono ?_
  rintro e W3 ⟨rfl, hm1⟩
  have k10 := HS6.out _ (k9.2.2.2.2.2.2.trans' hm1)
  clear hm1
  go_wp2_with fail
  refine hK.out _ _ (k10) (fun hHeld => ?_)
  clear hK K
  try simp only [Act.put, List.setIfInBounds_toArray, List.set_cons_zero, List.set_cons_succ]
  refine wpAnyH_take (i := 19) (oi := { dst := some 45, op := Go.Op.binOp Go.BinOp.neq 4 (Go.Operand.tmp 42) (Go.Operand.tmp 44) 4, type := 4, pos := "law.go:65", after := #[{ on := 16, ground := Go.Ground.data }, { on := 18, ground := Go.Ground.data }, { on := 13, ground := Go.Ground.guard }], guard := some (13, false) }) (v := .bool false) rfl (by kernel_rfl) (by kernel_rfl) (by kernel_rfl) (fun _ _ _ h => h) (Or.inl ⟨by rfl, fun w hSw => by (try dsimp only at hSw); first | (go_simp; done) | (go_simp; with_reducible rfl)⟩) (by assumption) ?_
  try simp only [Act.put, List.setIfInBounds_toArray, List.set_cons_zero, List.set_cons_succ]
  refine wpAnyH_take (i := 20) (oi := { dst := some 46, op := Go.Op.pick (Go.Operand.tmp 39) (Go.Operand.const (Go.Value.bool true)) (Go.Operand.tmp 45), type := 4, pos := "law.go:65", after := #[{ on := 13, ground := Go.Ground.data }, { on := 19, ground := Go.Ground.data }], guard := none }) (v := .bool false) rfl (by kernel_rfl) (by kernel_rfl) (by kernel_rfl) (fun _ _ _ h => h) (Or.inl ⟨by rfl, fun w hSw => by (try dsimp only at hSw); first | (go_simp; done) | (go_simp; with_reducible rfl)⟩) (by assumption) ?_
  try simp only [Act.put, List.setIfInBounds_toArray, List.set_cons_zero, List.set_cons_succ]
  refine wpAnyH_take (i := 21) (oi := { dst := some 47, op := Go.Op.move (Go.Operand.tmp 46), type := 4, pos := "law.go:65", after := #[{ on := 20, ground := Go.Ground.data }, { on := 16, ground := Go.Ground.chain }], guard := none }) (v := .bool false) rfl (by kernel_rfl) (by kernel_rfl) (by kernel_rfl) (fun _ _ _ h => h) (Or.inl ⟨by rfl, fun w hSw => by (try dsimp only at hSw); first | (go_simp; done) | (go_simp; with_reducible rfl)⟩) (by assumption) ?_
  try simp only [Act.put, List.setIfInBounds_toArray, List.set_cons_zero, List.set_cons_succ]
  refine wpAnyH_take (i := 22) (oi := { dst := some 48, op := Go.Op.load 34 (Go.Operand.tmp 5), type := 34, pos := "law.go:65", after := #[{ on := 21, ground := Go.Ground.guard }], guard := some (21, false) }) (v := .agg #[.int .i64 n, .slice v1 vn1 vc1]) rfl (by kernel_rfl) (by kernel_rfl) (by kernel_rfl) (fun _ _ _ h => h) (Or.inl ⟨by rfl, fun w hSw => by (try dsimp only at hSw); first | (go_simp; done) | (go_simp; with_reducible rfl)⟩) (by assumption) ?_
  try simp only [Act.put, List.setIfInBounds_toArray, List.set_cons_zero, List.set_cons_succ]
  refine wpAnyH_take (i := 23) (oi := { dst := some 49, op := Go.Op.load 33 (Go.Operand.tmp 2), type := 33, pos := "law.go:65", after := #[{ on := 21, ground := Go.Ground.guard }], guard := some (21, false) }) (v := .agg #[.int .i64 n, .slice xp l.length xcap]) rfl (by kernel_rfl) (by kernel_rfl) (by kernel_rfl) (fun _ _ _ h => h) (Or.inl ⟨by rfl, fun w hSw => by (try dsimp only at hSw); first | (go_simp; done) | (go_simp; with_reducible rfl)⟩) (by assumption) ?_
  try simp only [Act.put, List.setIfInBounds_toArray, List.set_cons_zero, List.set_cons_succ]
  refine wpAnyH_ready (rs := [24]) (by kernel_rfl) (by simp) ?_
  refine AllReadyH.cons (o := { dst := some 50, op := Go.Op.call { callee := Go.Callee.value (Go.Operand.func 19), args := #[Go.Operand.tmp 49], argTypes := #[33] }, type := 34, pos := "law.go:65", after := #[{ on := 23, ground := Go.Ground.data }, { on := 21, ground := Go.Ground.chain }, { on := 21, ground := Go.Ground.guard }], guard := some (21, false) }) rfl (fun K hK => ?_) AllReadyH.nil
  go_simp
  refine (HOW.out _ (HM6.out.trans' k10.2.2.2.2.2.2)).mono ?_
  rintro e W4 ⟨v3, rfl, ho3, hm1⟩
  have k11 := HS6.out _ (k10.2.2.2.2.2.2.trans' hm1)
  clear hm1
  obtain ⟨va3, vn3, vc3, rfl⟩ := owns_shape ho3
  go_wp2_with fail
  refine hK.out _ _ (k11) (fun hHeld => ?_)
  clear hK K
  try simp only [Act.put, List.setIfInBounds_toArray, List.set_cons_zero, List.set_cons_succ]
  refine wpAnyH_ready (rs := [25]) (by kernel_rfl) (by simp) ?_
  refine AllReadyH.cons (o := { dst := some 51, op := Go.Op.call { callee := Go.Callee.value (Go.Operand.func 24), args := #[Go.Operand.tmp 48, Go.Operand.tmp 50], argTypes := #[34, 34] }, type := 4, pos := "law.go:65", after := #[{ on := 22, ground := Go.Ground.data }, { on := 24, ground := Go.Ground.data }, { on := 24, ground := Go.Ground.chain }, { on := 21, ground := Go.Ground.guard }], guard := some (21, false) }) rfl (fun K hK => ?_) AllReadyH.nil
  go_simp
  refine (HE2.out _ _ k11.2.2.2.2.2.2 (ho3.at (by rw [ownL_length]; omega))).mono ?_
  rintro e W5 ⟨rfl, hm1⟩
  have k12 := HS6.out _ (k11.2.2.2.2.2.2.trans' hm1)
  clear hm1 ho3
  go_wp2_with fail
  refine hK.out _ _ (k12) (fun hHeld => ?_)
  clear hK K
  try simp only [Act.put, List.setIfInBounds_toArray, List.set_cons_zero, List.set_cons_succ]
  refine wpAnyH_take (i := 26) (oi := { dst := some 52, op := Go.Op.unOp Go.UnOp.not 4 (Go.Operand.tmp 51), type := 4, pos := "law.go:65", after := #[{ on := 25, ground := Go.Ground.data }, { on := 21, ground := Go.Ground.guard }], guard := some (21, false) }) (v := .bool false) rfl (by kernel_rfl) (by kernel_rfl) (by kernel_rfl) (fun _ _ _ h => h) (Or.inl ⟨by rfl, fun w hSw => by (try dsimp only at hSw); first | (go_simp; done) | (go_simp; with_reducible rfl)⟩) (by assumption) ?_
  try simp only [Act.put, List.setIfInBounds_toArray, List.set_cons_zero, List.set_cons_succ]
  refine wpAnyH_take (i := 27) (oi := { dst := some 53, op := Go.Op.pick (Go.Operand.tmp 47) (Go.Operand.const (Go.Value.bool true)) (Go.Operand.tmp 52), type := 4, pos := "law.go:65", after := #[{ on := 21, ground := Go.Ground.data }, { on := 26, ground := Go.Ground.data }], guard := none }) (v := .bool false) rfl (by kernel_rfl) (by kernel_rfl) (by kernel_rfl) (fun _ _ _ h => h) (Or.inl ⟨by rfl, fun w hSw => by (try dsimp only at hSw); first | (go_simp; done) | (go_simp; with_reducible rfl)⟩) (by assumption) ?_
  try simp only [Act.put, List.setIfInBounds_toArray, List.set_cons_zero, List.set_cons_succ]
  refine wpAnyH_done (by kernel_rfl) ?_ _
  have HM12 := Lib.hid (HM7.out.trans' k12.2.2.2.2.2.2)
  have HT12 := Lib.hid (HT6.out.keep k12.2.2.2.2.2.2)
  have y0 := k12.1
  have y1 := k12.2.1
  clear k7 k8 k9 k10 k11 k12 hHeld
  go_wp2_with fail
  refine (HDE.out _ HM12.out).mono ?_
  rintro e W6 ⟨v4, rfl, ho4, hm13⟩
  obtain ⟨va4, vn4, vc4, rfl⟩ := owns_shape ho4
  replace y0 := hm13.keep y0
  replace y1 := hm13.keep y1
  have hlb : (((ownL l).map MsgB.v).map MsgV.b) = ownL l := map_v_b _
  rw [hlb] at ho4
  have ha14 : Mods [] W6 (W6.alloc (.cells #[.int .i64 n, .slice va4 vn4 vc4] 34)) := (Mods.refl _ _).alloc _
  have HT13 := Lib.hid ((HT12.out.keep hm13).keep ha14)
  have heq4 := boxEqual_any n n ((ho4.at HL9.out).keep ha14) HT13.out
  rw [show (n == n && eqMsgs (ownL l) (ownL l)) = true by rw [(eqMsgs_iff _ _).2 rfl]; simp] at heq4
  have HM14 := Lib.hid ((HM12.out.trans' hm13).trans' ha14)
  have HE4 := Lib.hid heq4
  have hbl : A5 < W6.heap.size := lt_of_cell y0
  have HY0 := Lib.hid (ha14.keep y0)
  have HY1 := Lib.hid (ha14.keep y1)
  clear hm13 ha14 heq4 ho4 hlb
  go_wp2_with (first
    | (go_at_call 24; refine HE4.out.mono ?_; rintro e W7 ⟨rfl, hm15⟩; have z0 := hm15.keep HY0.out; have z1 := hm15.keep HY1.out; have HT15 := Lib.hid (HT13.out.keep hm15); have HM15 := Lib.hid (HM14.out.trans' hm15); clear hm15)
    | (go_at_call 26; refine (HVA.out _ _ HT15.out).mono ?_; rintro e W8 ⟨rfl, hm16⟩; have HM16 := Lib.hid (HM15.out.trans' hm16); clear hm16))
  go_ret
  exact ⟨rfl, HM16.out⟩

theorem mailboxValues_any (n : Int) {xv : Value} {l : List MsgB} (c : Nat) (hc : c < 256) {w : World} (hxv : MsgsArg w xv l) (hsz : ∀ m ∈ l, m.sender.size ≤ 9223372036854775807 ∧ m.text.size ≤ 9223372036854775807)
    (hu : Usages w) (hsh : ShaTab w) (ml : Int) (hm : w.cell? ⟨1, 0, none⟩ = some (.int .i64 ml)) :
    Calls Tryz.prog 5 #[.agg #[.int .i64 n, xv], .int .u8 c] w fun e w' => e = .returned (.bool true) ∧ Mods [] w w' := by
  by_cases hE : boxE ⟨n, (ownL l).map MsgB.v⟩ = 0
  · exact mailboxValues_ok n c hc hxv hsz hu hsh ml hm hE
  · exact mailboxValues_bad n c hc hxv hsz hu hsh ml hm hE
end Go.Proofs.YtlaihnbappfbfaaGreatDoor

namespace Go.Proofs.YtlaihnbappfbfaaGreatDoor
open Go.ChangeShapes Go.WideShapes Go.ChangeAt Go.WideMaps Go.WideElems Go.ChangeMaps Go.RowKit Go.Lib

set_option maxRecDepth 100000 in
theorem mailboxValues_lifted (os : Os) (started : os.Started) (H : Type) (enc : TypeId × Value → H) :
    ReturnsInHanded {} Tryz.checked os 5 .any (fun w args => (Rows.mailboxValuesSpec.pre enc Tryz.prog Tryz.f5 [] false w args ∧ laidMetH Tryz.prog Rows.mailboxValuesRow.laid w) ∧ sizedMet enc Tryz.prog Tryz.f5 (OpenSpec.ofChange Rows.mailboxValuesSpec) false w args)
      (Rows.mailboxValuesSpec.post enc Tryz.prog Tryz.f5 false true false false) := by
  refine handed_and_shaped (C := Tryz.checked) (X := fun w _ => laidMetH Tryz.prog Rows.mailboxValuesRow.laid w) (fun _ _ _ hh h => h.of_heap hh) own started (by kernel_rfl) Tryz.func5
    (ChangeSpec.witness_shaped (enc := enc) (C := Tryz.checked) (os := os) (X := fun w _ => laidMetH Tryz.prog Rows.mailboxValuesRow.laid w) false (World.laidAll Tryz.prog os Rows.mailboxValuesRow.laid) #[.agg #[.int .i64 0, .slice none 0 0], .int .u8 0] 8 (World.laidAll_os _ _ _)
      (World.shaped_of_ZipB (by kernel_rfl) (by kernel_rfl)) (by kernel_rfl) (by kernel_rfl) (by kernel_rfl)
      (by rw [MakeChecks.laidMetH_plain _ _ _ (by kernel_rfl)]; exact laidMet_laidAll _ (by kernel_rfl) (by kernel_rfl))) ?_
  intro W base args ds gs before hval0 hW hsh0 hL
  have hval : ∀ (j : Nat) t v, Tryz.f5.params[j]? = some t → args[j]? = some v → Value.okWide Tryz.prog W .any base t v := hval0
  have hW' := hW
  obtain ⟨p, q, hA0, hV, rfl, _, _⟩ := hW
  have hA : DataW.TrodAll enc Tryz.prog W 0 (fun _ => true) true Tryz.f5.params.toList args.toList ds p := hA0
  rw [Tryz.params5] at hA hval
  obtain ⟨v0, v1, d0, d1, p0, p1, rfl, rfl, rfl, h0, h1⟩ := trodAll_two hA
  obtain ⟨rfl, rfl⟩ := trodVars_none hV
  have h0k := h0
  have h1k := h1
  obtain ⟨n, xv, l, rfl, hxv, hsz⟩ := raw_open (hval 0 33 _ rfl rfl) h0
  obtain ⟨z, rfl, rfl, rfl, wz⟩ := open_int Tryz.underlying5 (hval 1 5 _ rfl rfl) h1
  simp only [List.append_nil] at hW'
  obtain ⟨c, rfl, hc⟩ : ∃ c : Nat, z = (c : Int) ∧ c < 256 := by
    simp only [Lit.wf, Bool.and_eq_true, decide_eq_true_eq] at wz
    have h1 : (0 : Int) ≤ z := wz.1
    have h2 : z ≤ (255 : Int) := wz.2
    exact ⟨z.toNat, by omega, by omega⟩
  have hlt : ∀ x ∈ p0, x.block < W.heap.size := fun x hx => by simpa using hW'.lt x hx
  rw [MakeChecks.laidMetH_plain _ _ _ (by kernel_rfl)] at hL
  have hu : Usages W := usages_of_reads (Lib.laidMet.reads hL (by simp [Rows.mailboxValuesRow]))
  have hsh : ShaTab W := shaTab_of_reads (Lib.laidMet.reads hL (by simp [Rows.mailboxValuesRow])) (Lib.laidMet.reads hL (by simp [Rows.mailboxValuesRow]))
  obtain ⟨ml, hml⟩ := maxLen_of_shape hsh0
  refine (mailboxValues_any n c hc hxv hsz hu hsh ml hml).mono fun e W' ⟨he, hb⟩ => ?_
  subst he
  exact ⟨_, rfl, _, _, _, [], p0 ++ [], [], hW', trodAll_mk1 (shut_bool Tryz.underlying4 _), trodAll_mk2 (Below.trod laidOutAll (by kernel_rfl) (of_decide_eq_true (by kernel_rfl)) h0k hb.below hlt) (Below.trod laidOutAll (by kernel_rfl) (of_decide_eq_true (by kernel_rfl)) h1k hb.below (by simp)), rfl, hb.below.frame _, fun h => by cases h⟩

theorem mailboxValues_row : Rows.MailboxValuesSaid :=
  OpenClaim.holds_of_wide 5 Tryz.f5 rfl rfl rfl rfl rfl rfl rfl ⟨rfl, rfl, rfl, rfl, rfl⟩ rfl rfl rfl rfl rfl (by kernel_rfl) Tryz.func5 (by kernel_rfl)
    (of_decide_eq_true (by kernel_rfl)) (by unfold Func.isWrapper; first | (rw [if_pos (by decide +kernel)]; kernel_rfl) | (rw [if_neg (by decide +kernel)]; exact ⟨rfl, rfl⟩))
    (fun os started H enc _ => mailboxValues_lifted os started H enc)

theorem mailboxValues_holds : Rows.MailboxValuesCardSaid :=
  Claim7.holds_tied_plain_at .later [] [.data, .data, .data, .data, .data, .data] true (true, "16e04b311f33d060bc106180dd2eea7d1dbf36eaaa65ec193247d04cef9db3ce") false mailboxValues_row (fun _ h => by cases h) (by kernel_rfl) (fun _ h => by cases h) mailboxValues_row_tie rfl ⟨rfl, rfl⟩ (by kernel_rfl) rfl
    (fun f fn hf hfn => by
      obtain rfl : f = 5 := Option.some.inj ((show Tryz.prog.funcNamed "replevin/replevinlaw38.MailboxValues" = some 5 by kernel_rfl).symm.trans hf) |>.symm
      obtain rfl : fn = Tryz.f5 := (Option.some.inj (Tryz.func5.symm.trans hfn)).symm
      exact ⟨by kernel_rfl, fun j t ht => by
        rw [Tryz.params5] at ht
        have hm : t ∈ [33, 5] := by simpa using Array.mem_of_getElem? ht
        have hall : ([33, 5].all fun u => !Tryz.prog.wantsStandIn u) = true := by kernel_rfl
        exact (show Tryz.prog.wantsStandIn t = false by simpa using List.all_eq_true.1 hall t hm)⟩)
    (by kernel_rfl)
end Go.Proofs.YtlaihnbappfbfaaGreatDoor
