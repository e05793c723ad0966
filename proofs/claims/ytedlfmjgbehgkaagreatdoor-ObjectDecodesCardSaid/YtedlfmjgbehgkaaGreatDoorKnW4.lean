/- Walks of object: Parse at the texts of the examples. -/
import Derived.Test.YtedlfmjgbehgkaaGreatDoorKnW3
namespace Go.Proofs.YtedlfmjgbehgkaaGreatDoor
open Go.RowKit

theorem split_listing : Lib.countB ⟨#[108, 105, 115, 116, 105, 110, 103, 32, 48, 35, 48]⟩ ⟨#[32]⟩ = 1 ∧ Lib.splitB ⟨#[32]⟩ 0 1 ⟨#[108, 105, 115, 116, 105, 110, 103, 32, 48, 35, 48]⟩ = [⟨#[108, 105, 115, 116, 105, 110, 103]⟩, ⟨#[48, 35, 48]⟩] := by decide +kernel
theorem split_page : Lib.countB ⟨#[112, 97, 103, 101, 32, 51, 46, 49, 32, 54, 52]⟩ ⟨#[32]⟩ = 2 ∧ Lib.splitB ⟨#[32]⟩ 0 2 ⟨#[112, 97, 103, 101, 32, 51, 46, 49, 32, 54, 52]⟩ = [⟨#[112, 97, 103, 101]⟩, ⟨#[51, 46, 49]⟩, ⟨#[54, 52]⟩] := by decide +kernel

theorem run_loadVar_cells (w : World) (g : Nat) (ty : TypeId) (cs : Array Value) (d : TypeDesc) (hg : ∀ j v, cs.toList[j]? = some v → w.cell? ⟨g, j, none⟩ = some v)
    (hu : Tryz.prog.underlying ty = some d) (hd : (match d with | .struct _ | .array _ _ => true | _ => false) = true) (hi : (Tryz.prog.info? ty).map (·.size) = some cs.size) :
    (loadVar ty ⟨g, 0, none⟩).run Tryz.prog w = .ok (.agg cs) w := by
  have hl : (loadCells ⟨g, 0, none⟩ cs.toList.length).run Tryz.prog w = .ok cs.toList.toArray w :=
    run_loadCells_list (P := Tryz.prog) w ⟨g, 0, none⟩ cs.toList (fun j v hv => by
      rw [Addr.add_lit, Nat.zero_add]; exact hg j v hv)
  cases hq : Tryz.prog.info? ty with
  | none => simp [hq] at hi
  | some i =>
    have hs : i.size = cs.size := by simpa [hq] using hi
    have hagg : (isAgg ty).run Tryz.prog w = .ok true w := by
      unfold isAgg
      rw [Sem.run_bind, run_underlying hu w]
      cases d <;> simp_all
    simp only [Array.length_toList, Array.toArray_toList] at hl
    simp [loadVar, Sem.run_bind, hagg, sizeOf, typeInfo, hq, hs, hl]
theorem wpList_load_cells {ops : Array Oper} {rest : List Oper} {o : Oper} {a : Act} {w : World} {Q : Exit → Act → World → Prop} (hgd : o.guard = none) (ty : TypeId) (x : Operand) (ho : o.op = .load ty x)
    (g : Nat) (hx : a.eval x = .pointer (some ⟨g, 0, none⟩)) (cs : Array Value) (d : TypeDesc) (hg : ∀ j v, cs.toList[j]? = some v → w.cell? ⟨g, j, none⟩ = some v)
    (hu : Tryz.prog.underlying ty = some d) (hd : (match d with | .struct _ | .array _ _ => true | _ => false) = true) (hi : (Tryz.prog.info? ty).map (·.size) = some cs.size)
    (h : wpList Tryz.prog ops Q rest (a.put o.dst (.agg cs)) w) : wpList Tryz.prog ops Q (o :: rest) a w :=
  wpList_plain hgd fun _ hK => by
    unfold Oper.wp execOp
    simp only [ho, hx, Instr.loadAt, Instr.sureAddr, Sem.run_bind, Sem.run_pure, Result.andThen_ok, run_loadVar_cells w g ty cs d hg hu hd hi]
    exact hK _ _ h
/-- The table as one value. -/
def uTable : Array Value := ((List.range 21).flatMap uRow).toArray
theorem uTable_size : uTable.size = 126 := by rfl
theorem uTable_at : ∀ k, k < 21 → ∀ j, j < 6 → uTable.toList[k * 6 + j]? = (uRow k)[j]? := by
  intro k hk j hj
  have : k = 0 ∨ k = 1 ∨ k = 2 ∨ k = 3 ∨ k = 4 ∨ k = 5 ∨ k = 6 ∨ k = 7 ∨ k = 8 ∨ k = 9 ∨ k = 10 ∨ k = 11 ∨ k = 12 ∨ k = 13 ∨ k = 14 ∨ k = 15 ∨ k = 16 ∨ k = 17 ∨ k = 18 ∨ k = 19 ∨ k = 20 := by omega
  have : j = 0 ∨ j = 1 ∨ j = 2 ∨ j = 3 ∨ j = 4 ∨ j = 5 := by omega
  rcases ‹k = 0 ∨ _› with rfl | rfl | rfl | rfl | rfl | rfl | rfl | rfl | rfl | rfl | rfl | rfl | rfl | rfl | rfl | rfl | rfl | rfl | rfl | rfl | rfl <;>
    rcases ‹j = 0 ∨ _› with rfl | rfl | rfl | rfl | rfl | rfl <;> rfl
set_option maxRecDepth 100000 in
theorem uTable_row : ∀ k, k < 21 → uTable.extract (k * 6) (k * 6 + 6) = (uRow k).toArray := by
  intro k hk
  have : k = 0 ∨ k = 1 ∨ k = 2 ∨ k = 3 ∨ k = 4 ∨ k = 5 ∨ k = 6 ∨ k = 7 ∨ k = 8 ∨ k = 9 ∨ k = 10 ∨ k = 11 ∨ k = 12 ∨ k = 13 ∨ k = 14 ∨ k = 15 ∨ k = 16 ∨ k = 17 ∨ k = 18 ∨ k = 19 ∨ k = 20 := by omega
  rcases this with rfl | rfl | rfl | rfl | rfl | rfl | rfl | rfl | rfl | rfl | rfl | rfl | rfl | rfl | rfl | rfl | rfl | rfl | rfl | rfl | rfl <;> rfl
theorem infoRow : (Tryz.prog.info? 54).map (·.size) = some 6 := by kernel_rfl
theorem uTable_index (k : Nat) (hk : k < 21) (w : World) : (Instr.index 55 (.agg uTable) (.int .i64 k)).run Tryz.prog w = .ok (.agg #[.string ⟨(uWord k).toArray⟩, .bool (uOwner k), .bool (uNumber k), .bool (uIndex k), .bool (uText k), .int .i64 (uMost k)]) w := by
  have h1 : (0 : Int) ≤ (k : Int) ∧ (k : Int) < 21 := by omega
  have hr := uTable_row k hk
  have hagg : (isAgg 54).run Tryz.prog w = .ok true w := by
    unfold isAgg
    rw [Sem.run_bind, run_underlying Tryz.underlying54 w]; rfl
  have hir := infoRow
  cases hq : Tryz.prog.info? 54 with
  | none => simp [hq] at hir
  | some i =>
    have hs : i.size = 6 := by simpa [hq] using hir
    have h21 : ¬ 21 ≤ k := by omega
    have hpt : (part 54 uTable (k * 6)).run Tryz.prog w = .ok (.agg (uTable.extract (k * 6) (k * 6 + 6))) w := by
      simp [part, Sem.run_bind, hagg, sizeOf, typeInfo, hq, hs, go_sem]
    simp [Instr.index, run_underlying Tryz.underlying55, asIntOf, hk, Sem.run_bind, sizeOf, typeInfo, hq, hs, hpt, go_sem]
    exact hr
theorem Usages.all {w : World} (h : Usages w) : ∀ j v, uTable.toList[j]? = some v → w.cell? ⟨0, j, none⟩ = some v := by
  intro j v hj
  have hl : j < 126 := by
    have := (List.getElem?_eq_some_iff.1 hj).1
    simpa [uTable_size] using this
  have e : j = (j / 6) * 6 + j % 6 := by omega
  have := h (j / 6) (j % 6) (by omega) (by omega)
  rw [← uTable_at (j / 6) (by omega) (j % 6) (by omega), ← e] at this
  rw [this]; exact hj

theorem isKind_any (k : Int) (w : World) : Calls Tryz.prog 41 #[.int .i64 k] w fun e w' => e = .returned (.bool (decide (1 ≤ k) && decide (k ≤ 20))) ∧ w' = w := by
  cases h1 : decide (1 ≤ k)
  all_goals
    go_enter Tryz.func41, Tryz.ntmps41
    go_wp2
    go_ret
    simp

set_option maxRecDepth 100000 in
set_option maxHeartbeats 2000000 in
theorem parse_run (s : ByteArray) (w0 : ByteArray) (rest : List ByteArray) (n K : Nat) (nv : Value) (o : ByteArray) (kn ki : Int) (t : ByteArray) (ss : ByteArray)
    (w : World) (hu : Usages w) (hm : ∃ m, w.cell? ⟨1, 0, none⟩ = some (.int .i64 m)) (hs : s.size ≤ 1000)
    (hc : Lib.countB s ⟨#[32]⟩ = n + 1) (hsp : Lib.splitB ⟨#[32]⟩ 0 (n + 1) s = w0 :: rest) (hn : n ≤ 1000) (hK1 : 1 ≤ K) (hK2 : K ≤ 20)
    (hw : ∀ k, k < 21 → ((⟨(uWord k).toArray⟩ : ByteArray) = w0 ↔ k = K))
    (hnv : nv = nameVal K o kn ki t)
    (hf : ∀ B W, Usages W → (∃ m, W.cell? ⟨1, 0, none⟩ = some (.int .i64 m)) → (∀ j v, rest[j]? = some v → W.cell? ⟨B, j + 1, none⟩ = some (.string v)) → Calls Tryz.prog 42 #[.int .i64 K, .slice (some ⟨B, 1, none⟩) (n + 1) (n + 1)] W fun e w' => e = .returned nv ∧ Mods [] W w')
    (hst : ∀ W, Usages W → Calls Tryz.prog 16 #[nv] W fun e w' => e = .returned (.string ss) ∧ Mods [] W w') :
    Calls Tryz.prog 15 #[.string s] w fun e w' => e = .returned (if ss = s then .tuple #[nv, .int .i64 0] else .tuple #[nameVal 0 ⟨#[]⟩ 0 0 ⟨#[]⟩, .int .i64 3]) ∧ Mods [] w w' := by
  have hlt := hu.lt
  obtain ⟨m, hm⟩ := hm
  have hml := lt_of_cell hm
  simp only at hml
  have Hu := Lib.hid hu
  have Hm0 := Lib.hid hm
  have Hf := Lib.hid hf
  have Hst := Lib.hid hst
  have Hw := Lib.hid hw
  clear hu hm hf hst hw
  go_enter Tryz.func15, Tryz.ntmps15
  go_wp2_with fail
  have M0 : Mods [] w (w.alloc (.cells #[.int .i64 0, .string ⟨#[]⟩, .int .i64 0, .int .i64 0, .string ⟨#[]⟩] 25)) := (Mods.refl [] w).alloc _
  refine (Tryz.strings_Split s ⟨#[32]⟩ m _ (by omega) (M0.keep Hm0.out) (by decide)).mono ?_
  rintro e W1 ⟨rfl, rfl⟩
  rw [hc, hsp]
  simp only [World.size_alloc]
  have hU1 : Usages ((w.alloc (.cells #[.int .i64 0, .string ⟨#[]⟩, .int .i64 0, .int .i64 0, .string ⟨#[]⟩] 25)).alloc (.cells (List.map Value.string (w0 :: rest)).toArray 9)) := Hu.out.mods (((Mods.refl [] w).alloc _).alloc _) (by simp)
  have hx1 := heap_alloc_old (o := .cells (List.map Value.string (w0 :: rest)).toArray 9) (heap_alloc_new w (.cells #[.int .i64 0, .string ⟨#[]⟩, .int .i64 0, .int .i64 0, .string ⟨#[]⟩] 25))
  have hx2 := heap_alloc_new (w.alloc (.cells #[.int .i64 0, .string ⟨#[]⟩, .int .i64 0, .int .i64 0, .string ⟨#[]⟩] 25)) (.cells (List.map Value.string (w0 :: rest)).toArray 9)
  have M1 : Mods [] w ((w.alloc (.cells #[.int .i64 0, .string ⟨#[]⟩, .int .i64 0, .int .i64 0, .string ⟨#[]⟩] 25)).alloc (.cells (List.map Value.string (w0 :: rest)).toArray 9)) := (((Mods.refl [] w).alloc _).alloc _)
  simp only [World.size_alloc] at hx2
  generalize ((w.alloc _).alloc _) = W1 at hU1 hx1 hx2 M1
  have HU1 := Lib.hid hU1
  have Hx1 := Lib.hid hx1
  have Hx2 := Lib.hid hx2
  have HM1 := Lib.hid M1
  clear hU1 hx1 hx2 M1 M0 hc hsp
  go_wp2_with (refine wpList_load_cells rfl 55 _ rfl 0 rfl uTable _ HU1.out.all Tryz.underlying55 rfl (by kernel_rfl) ?_)
  have Hix := Lib.hid uTable_index
  generalize uTable = T at Hix
  go_loopw [5, 6, 7, 11] (fun _ _ _ i wr => ∃ k : Nat, i = .int .i64 k ∧ k ≤ 21 ∧ Hid (Mods [] W1 wr) ∧ Hid (k ≤ K ∨ ss ≠ s)) (fun _ _ _ i _ => 21 - (intOf i).toNat)
  case atStart => exact ⟨0, rfl, by omega, Mods.refl _ _, .inl (by omega)⟩
  case round =>
    obtain ⟨k, rfl, hk, hm, hq⟩ := hrel
    by_cases hk21 : k < 21
    · have hix := fun W => Hix.out k hk21 W
      have hwk := Hw.out k hk21
      obtain ⟨wd, hwd⟩ : ∃ wd : ByteArray, (⟨(uWord k).toArray⟩ : ByteArray) = wd := ⟨_, rfl⟩
      rw [hwd] at hix hwk
      have i0 := hm.out.keep (cell_of_heap Hx2.out 0)
      simp only [List.map_cons, List.getElem?_toArray, List.getElem?_cons_zero] at i0
      have hwl : w.heap.size + 1 < wr.heap.size := Nat.lt_of_lt_of_le (lt_of_heap Hx2.out) hm.out.size
      have hU := HU1.out.mods hm.out (by simp)
      have HU := Lib.hid hU
      clear hwd hU
      by_cases hk0 : k = 0
      · have hne : Hid (k + 1 ≤ K ∨ ss ≠ s) := by show _ ∨ _; omega
        have Hik : Hid (∀ W, Calls Tryz.prog 41 #[.int .i64 k] W fun e w' => e = .returned (.bool false) ∧ w' = W) := fun W => by
          have := isKind_any k W
          rwa [show (decide (1 ≤ (k : Int)) && decide ((k : Int) ≤ 20)) = false by simp; omega] at this
        clear hwk hk0
        go_wp2_with fail
        go_quiet (first | (go_at_call 41; refine Calls.quiet_of_same (Hik.out _)))
        go_wp2
        go_roundw
        case rel => exact ⟨k + 1, by go_num, by omega, (hm.out.alloc _).drewN _, hne⟩
        case measure => simp [intOf] <;> omega
      have Hik : Hid (∀ W, Calls Tryz.prog 41 #[.int .i64 k] W fun e w' => e = .returned (.bool true) ∧ w' = W) := fun W => by
        have := isKind_any k W
        rwa [show (decide (1 ≤ (k : Int)) && decide ((k : Int) ≤ 20)) = true by simp; omega] at this
      by_cases hkK : k = K
      · have hww := hwk.2 hkK
        clear hwk hk0
        subst hww
        subst hkK
        go_wp2_with fail
        go_quiet (first | (go_at_call 41; refine Calls.quiet_of_same (Hik.out _)))
        go_wp2_with fail
        obtain ⟨W2, hW2, hM2⟩ : ∃ W2, (wr.alloc (.cells #[.string wd, .bool (uOwner k), .bool (uNumber k), .bool (uIndex k), .bool (uText k), .int .i64 (uMost k)] 54)).drewN nq = W2 ∧ Mods [] wr W2 := ⟨_, rfl, ((Mods.refl [] wr).alloc _).drewN _⟩
        rw [hW2]
        clear hW2
        refine (Hf.out (w.heap.size + 1) W2 (HU.out.mods hM2 (by simp)) ⟨m, ((HM1.out.trans' hm.out).trans' hM2).keep Hm0.out⟩ ?_).mono ?_
        · intro j v hj
          have := cell_of_heap Hx2.out (j + 1)
          refine (hm.out.trans' hM2).keep (this.trans ?_)
          simp only [List.map_cons, List.getElem?_toArray, List.getElem?_cons_succ, List.getElem?_map, hj]
          rfl
        rintro e W3 ⟨rfl, hM3⟩
        subst hnv
        unfold nameVal
        have HM3 := Lib.hid (hM2.trans' hM3)
        clear hM2 hM3
        go_wp2_with fail
        obtain ⟨W4, hW4, hM4, hx4⟩ : ∃ W4, W3.alloc (.cells #[.int .i64 k, .string o, .int .i64 kn, .int .i64 ki, .string t] 25) = W4 ∧ Mods [] W3 W4 ∧ W4.heap[W3.heap.size]? = some (.cells #[.int .i64 k, .string o, .int .i64 kn, .int .i64 ki, .string t] 25 (0, 0)) := ⟨_, rfl, (Mods.refl [] W3).alloc _, heap_alloc_new _ _⟩
        rw [hW4]
        clear hW4
        refine (Hst.out W4 ((HU.out.mods HM3.out (by simp)).mods hM4 (by simp))).mono ?_
        rintro e W5 ⟨rfl, hM5⟩
        have hx5 := hM5.heap hx4 (by simp)
        obtain ⟨⟨n0, n1, n2, n3, n4⟩, -⟩ := cells5 hx5
        have hmm := ((HM3.out.trans' hM4).trans' hM5)
        have hr5 := (hm.out.trans' hmm).heap Hx1.out (by simp)
        obtain ⟨⟨r0, r1, r2, r3, r4⟩, ⟨q0, q1, q2, q3, q4⟩⟩ := cells5 hr5
        have hsz : W3.heap.size < W5.heap.size := lt_of_heap hx5
        have Hmm := Lib.hid hmm
        have Hr5 := Lib.hid hr5
        have hMw : Hid (Mods [] w W5) := (HM1.out.trans' hm.out).trans' hmm
        clear hM4 hM5 hx4 hx5 hmm hr5
        by_cases hss : ss = s
        · subst hss
          have hne3 : w.heap.size ≠ W3.heap.size := by have := HM3.out.size; omega
          clear hq
          go_wp2
          obtain ⟨⟨d0, d1, d2, d3, d4⟩, -⟩ := cells5 (set5_heap Hr5.out (.int .i64 k) (.string o) (.int .i64 kn) (.int .i64 ki) (.string t))
          refine bodyPost_ret (v := .tuple #[.agg #[.int .i64 k, .string o, .int .i64 kn, .int .i64 ki, .string t], .int .i64 0]) (by simp [results, Tryz.results15, go_sem, d0, d1, d2, d3, d4]) rfl ⟨by simp [nameVal], mods_set5 hMw.out (by omega) _ _ _ _ _⟩
        · have b1 : (ss.toList == s.toList) = false := by
            simp only [beq_eq_false_iff_ne, ne_eq]
            intro h
            rw [ByteArray.toList_eq, ByteArray.toList_eq, Array.toList_inj] at h
            exact hss (ByteArray.ext h)
          have hne : Hid (k + 1 ≤ k ∨ ss ≠ s) := .inr hss
          go_wp2
          go_roundw
          case rel => exact ⟨k + 1, by go_num, by omega, hm.out.trans' Hmm.out, hne⟩
          case measure => simp [intOf] <;> omega
      · have hne : Hid (k + 1 ≤ K ∨ ss ≠ s) := by
          have := hq.out
          show _ ∨ _
          rcases this with h | h
          · exact .inl (by omega)
          · exact .inr h
        have hww : wd ≠ w0 := fun h => hkK (hwk.1 h)
        have b1 : (wd.toList == w0.toList) = false := by
          simp only [beq_eq_false_iff_ne, ne_eq]
          intro h
          rw [ByteArray.toList_eq, ByteArray.toList_eq, Array.toList_inj] at h
          exact hww (ByteArray.ext h)
        clear hwk hk0 hkK
        go_wp2_with fail
        go_quiet (first | (go_at_call 41; refine Calls.quiet_of_same (Hik.out _)))
        go_wp2
        go_roundw
        case rel => exact ⟨k + 1, by go_num, by omega, (hm.out.alloc _).drewN _, hne⟩
        case measure => simp [intOf] <;> omega
    · have hne : ss ≠ s := by
        rcases hq.out with h | h
        · omega
        · exact h
      have hr5 := hm.out.heap Hx1.out (by simp)
      obtain ⟨⟨r0, r1, r2, r3, r4⟩, ⟨q0, q1, q2, q3, q4⟩⟩ := cells5 hr5
      have Hr5 := Lib.hid hr5
      have hMw : Hid (Mods [] w wr) := HM1.out.trans' hm.out
      have Hne := Lib.hid hne
      clear hr5 hq hne
      go_wp2
      obtain ⟨⟨d0, d1, d2, d3, d4⟩, -⟩ := cells5 (set5_heap Hr5.out (.int .i64 0) (.string ⟨#[]⟩) (.int .i64 0) (.int .i64 0) (.string ⟨#[]⟩))
      refine bodyPost_ret (v := .tuple #[.agg #[.int .i64 0, .string ⟨#[]⟩, .int .i64 0, .int .i64 0, .string ⟨#[]⟩], .int .i64 3]) (by simp [results, Tryz.results15, go_sem, d0, d1, d2, d3, d4]) rfl ⟨by first | rfl | (rw [if_neg Hne.out]; rfl), mods_set5 hMw.out (by omega) _ _ _ _ _⟩

theorem checkV_listing : checkV ⟨10, [], 0, 0, []⟩ = 0 := by decide +kernel
theorem checkV_page : checkV ⟨3, [51, 46, 49], 0, 64, []⟩ ≠ 0 := by decide +kernel
theorem checkV_block : checkV ⟨8, [51, 46, 49], 2, 5, []⟩ = 0 := by decide +kernel
theorem word_listing : ∀ k, k < 21 → ((⟨(uWord k).toArray⟩ : ByteArray) = ⟨#[108, 105, 115, 116, 105, 110, 103]⟩ ↔ k = 10) := by decide +kernel
theorem word_page : ∀ k, k < 21 → ((⟨(uWord k).toArray⟩ : ByteArray) = ⟨#[112, 97, 103, 101]⟩ ↔ k = 3) := by decide +kernel
theorem str_listing : sTail 10 0 (sHead 10 ⟨#[]⟩ 0) = ⟨#[108, 105, 115, 116, 105, 110, 103, 32, 48, 35, 48]⟩ := by decide +kernel
theorem str_block : sTail 8 5 (sHead 8 ⟨#[51, 46, 49]⟩ 2) = ⟨#[98, 108, 111, 99, 107, 32, 51, 46, 49, 35, 50, 32, 53]⟩ := by decide +kernel
theorem enc_block : encV 8 [51, 46, 49] 2 5 [] = [8, 3, 51, 46, 49, 2, 5] := by decide +kernel

theorem parse_listing (w : World) (hu : Usages w) (hm : ∃ m, w.cell? ⟨1, 0, none⟩ = some (.int .i64 m)) :
    Calls Tryz.prog 15 #[.string ⟨#[108, 105, 115, 116, 105, 110, 103, 32, 48, 35, 48]⟩] w fun e w' => e = .returned (.tuple #[nameVal 10 ⟨#[]⟩ 0 0 ⟨#[]⟩, .int .i64 0]) ∧ Mods [] w w' := by
  have h := parse_run ⟨#[108, 105, 115, 116, 105, 110, 103, 32, 48, 35, 48]⟩ ⟨#[108, 105, 115, 116, 105, 110, 103]⟩ [⟨#[48, 35, 48]⟩] 0 10 (nameVal 10 ⟨#[]⟩ 0 0 ⟨#[]⟩) ⟨#[]⟩ 0 0 ⟨#[]⟩
    (sTail 10 0 (sHead 10 ⟨#[]⟩ 0)) w hu hm (by decide) split_listing.1 split_listing.2 (by omega) (by omega) (by omega) word_listing rfl
    (fun B W hU hM hc => fields_listing B W hU hM (hc 0 _ rfl))
    (fun W hU => string_ok 10 ⟨#[]⟩ 0 0 W hU (by decide) (by omega) (by omega) (by omega) (by omega) rfl rfl rfl checkV_listing)
  rwa [if_pos str_listing] at h
theorem parse_page (w : World) (hu : Usages w) (hm : ∃ m, w.cell? ⟨1, 0, none⟩ = some (.int .i64 m)) :
    Calls Tryz.prog 15 #[.string ⟨#[112, 97, 103, 101, 32, 51, 46, 49, 32, 54, 52]⟩] w fun e w' => e = .returned (.tuple #[nameVal 0 ⟨#[]⟩ 0 0 ⟨#[]⟩, .int .i64 3]) ∧ Mods [] w w' := by
  have h := parse_run ⟨#[112, 97, 103, 101, 32, 51, 46, 49, 32, 54, 52]⟩ ⟨#[112, 97, 103, 101]⟩ [⟨#[51, 46, 49]⟩, ⟨#[54, 52]⟩] 1 3 (nameVal 3 ⟨#[51, 46, 49]⟩ 0 64 ⟨#[]⟩) ⟨#[51, 46, 49]⟩ 0 64 ⟨#[]⟩
    ⟨#[]⟩ w hu hm (by decide) split_page.1 split_page.2 (by omega) (by omega) (by omega) word_page rfl
    (fun B W hU hM hc => fields_page B W hU hM (hc 0 _ rfl) (hc 1 _ rfl))
    (fun W hU => string_bad 3 ⟨#[51, 46, 49]⟩ ⟨#[]⟩ 0 64 W hU (by decide) (by decide) checkV_page)
  rwa [if_neg (by decide)] at h
end Go.Proofs.YtedlfmjgbehgkaaGreatDoor
