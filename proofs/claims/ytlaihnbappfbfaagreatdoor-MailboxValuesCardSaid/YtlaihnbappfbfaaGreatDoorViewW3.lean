/- Walks of view: call. -/
import Derived.Test.YtlaihnbappfbfaaGreatDoorA7
import Derived.Deep.AppendLies
import Derived.Deep.RegionLaw
namespace Go.Proofs.YtlaihnbappfbfaaGreatDoor
open Go.RowKit
open Go.Maps (Keyed)

theorem infoChange : (Tryz.prog.info? 93).map (fun i => (i.zero, i.size, i.bytes)) = some (some (.agg #[.int .i64 0, .string ⟨#[]⟩, .int .i64 0, .int .i64 0, .string ⟨#[]⟩, .string ⟨#[]⟩, .bool false]), 7, 80) := by kernel_rfl

theorem view_stored {W w5 : World} {V S mr ml n : Nat} {sv v' : Value} {Dr D : DataW Unit} {l : List ChgB} {c : ChgB} {o : Obj}
    (b1 : W.heap[V]? = some (.cells #[.pointer (some ⟨S, 0, none⟩), .map (some mr), sv, .map (some ml)] 132 (0, 0)))
    (b2 : W.heap[S]? = some (.cells #[.pointer none] 159 (0, 0)))
    (b3 : W.ownsMap Tryz.prog 80 anyElem mr n Dr) (b4 : W.ownsMap Tryz.prog 80 (plainElem Tryz.prog 3) ml (n + 1) D) (b5 : LastIs D (l ++ [c]))
    (b6 : W.ownsRow (V + 1) 93 7 sv l.length (l.flatMap ChgB.cells)) (hown : w5.ownsRow (V + 1) 93 7 v' (l.length + 1) (l.flatMap ChgB.cells ++ c.cells)) (hgr : (W.alloc o).grownBy w5 sv.ownBlock)
    (a7 : S < V) (a8 : mr < V) (a9 : ml < V) (a10 : mr ≠ ml) (a11 : l.length ≤ n) (a12 : (∀ x ∈ l, x.name.fit ∧ x.value.size ≤ 1000000) ∧ V ≤ mr + 2 ∧ V ≤ ml + 2) (hc : c.name.fit ∧ c.value.size ≤ 1000000) :
    ViewIs (w5.setCell ⟨V, 2, none⟩ v') V (n + 1) (l ++ [c]) ∧ Keep (VKeep V) W (w5.setCell ⟨V, 2, none⟩ v') := by
  have hlow : ∀ k, sv.ownBlock = some k → V + 1 ≤ k := fun k hk => (b6.lt k hk).1
  have hblk : ∀ k o', W.heap[k]? = some o' → some k ≠ sv.ownBlock → w5.heap[k]? = some o' := fun k o' hk hne => by
    rw [hgr.block k (by simp; have := lt_of_heap hk; omega) hne]
    exact heap_alloc_old hk
  have hV5 := hblk V _ b1 (fun e => by have := hlow V e.symm; omega)
  have hset : (w5.setCell ⟨V, 2, none⟩ v').heap[V]? = some (.cells #[.pointer (some ⟨S, 0, none⟩), .map (some mr), v', .map (some ml)] 132 (0, 0)) := by
    rw [heap_setCell_same hV5]; rfl
  have hoth : ∀ k o', k ≠ V → w5.heap[k]? = some o' → (w5.setCell ⟨V, 2, none⟩ v').heap[k]? = some o' := fun k o' hk ho => by rw [heap_setCell_ne hk]; exact ho
  have hmap : ∀ {R : Value → Option (DataW Unit × List MemPlace)} {b m : Nat} {E : DataW Unit}, b < V → W.ownsMap Tryz.prog 80 R b m E → m ≤ n + 1 → (w5.setCell ⟨V, 2, none⟩ v').ownsMap Tryz.prog 80 R b (n + 1) E := by
    rintro R b m E hb ⟨es, clock, hh, hF, hs, hD⟩ hm
    exact ⟨es, clock, hoth _ _ (by omega) (hblk _ _ hh (fun e => by have := hlow b e.symm; omega)), hF, by omega, hD⟩
  refine ⟨⟨S, mr, ml, v', Dr, D, hset, hoth _ _ (by omega) (hblk _ _ b2 (fun e => by have := hlow S e.symm; omega)), hmap a8 b3 (by omega), hmap a9 b4 (by omega), b5, ?_, a7, a8, a9, a10, by simp; omega, ?_, a12.2⟩, ?_⟩
  · have e1 : (l ++ [c]).length = l.length + 1 := by simp
    have e2 : (l ++ [c]).flatMap ChgB.cells = l.flatMap ChgB.cells ++ c.cells := by simp
    rw [e1, e2]
    obtain ⟨q1, ⟨e, q2⟩ | ⟨g', cap, cur, e, hB, hh, hn, hm, hc, ht⟩⟩ := hown
    · omega
    · exact ⟨q1, .inr ⟨g', cap, cur, e, hB, hoth _ _ (by omega) hh, hn, hm, hc, ht⟩⟩
  · intro x hx
    rcases List.mem_append.1 hx with h | h
    · exact a12.1 x h
    · obtain rfl := List.mem_singleton.1 h
      exact hc
  · have k1 : Keep (VKeep V) W w5 := ((Keep.refl _ W).alloc o).grown hgr (by
      intro k o' hk ho ⟨_, _, h3⟩
      have h4 := hlow k hk
      obtain ⟨_, ⟨e, _⟩ | ⟨g', cap, cur, e, _, hh, _⟩⟩ := b6
      · rw [e] at hk; simp [Value.ownBlock] at hk
      · rw [e] at hk
        simp only [Value.ownBlock, Option.some.injEq] at hk
        subst hk
        rw [heap_alloc_old hh] at ho
        simp only [Option.some.injEq] at ho
        rcases h3 with h3 | h3
        · omega
        · exact h3 _ ho.symm)
    exact k1.trans ⟨rfl, rfl, rfl, by simp [World.setCell], fun k o' hk hP => hoth _ _ hP.1 hk⟩

set_option maxRecDepth 100000 in
set_option maxHeartbeats 1000000 in
theorem viewCall_any {w : World} {V n : Nat} {l : List ChgB} (h : ViewIs w V n l) (c : ChgB) (hf : c.name.fit) (hv : c.value.size ≤ 1000000) (hn : n < 1000000000) :
    Calls Tryz.prog 72 #[.pointer (some ⟨V, 0, none⟩), .agg #[.int .i64 c.name.k, .string c.name.o, .int .i64 c.name.n, .int .i64 c.name.i, .string c.name.t, .string c.value, .bool c.absent]] w
      fun e w' => e = .returned (.tuple #[]) ∧ ViewIs w' V (n + 1) (l ++ [c]) ∧ Keep (VKeep V) w w' := by
  have hlt := h.lt
  obtain ⟨kl, hkl⟩ := key_ex c.name hf
  have hM1 : Mods [] w (w.alloc (.cells #[.int .i64 c.name.k, .string c.name.o, .int .i64 c.name.n, .int .i64 c.name.i, .string c.name.t, .string c.value, .bool c.absent] 93)) := (Mods.refl _ _).alloc _
  have hW1 := heap_alloc_new w (.cells #[.int .i64 c.name.k, .string c.name.o, .int .i64 c.name.n, .int .i64 c.name.i, .string c.name.t, .string c.value, .bool c.absent] 93)
  have h1 := h.mods hM1
  have hq := fun (W : World) (r : Option Nat) => run_eql_map_nil (P := Tryz.prog) W 130 80 3 r Tryz.underlying130
  obtain ⟨i0, hi, hz0, hz1, hz2⟩ := info_parts infoChange
  have HM := Lib.hid hM1
  have Hlt : Hid (V < w.heap.size) := hlt
  obtain ⟨S, mr, ml, cs, Dr, D, a1, a2, a3, a4, a5, a6, a7, a8, a9, a10, a11, a12⟩ := h1
  obtain ⟨sa, sn, sc, rfl⟩ := owns_shape a6
  have esn : sn = l.length := by
    obtain ⟨_, ⟨e, e2⟩ | ⟨g', cap, cur, e, _⟩⟩ := a6
    · simp only [Value.slice.injEq] at e
      rw [e.2.1, e2]
    · simp only [Value.slice.injEq] at e; exact e.2.1
  subst esn
  have c3 := cell_of_heap a1 3
  have c2 := cell_of_heap a1 2
  simp only [List.getElem?_toArray, List.getElem?_cons_zero, List.getElem?_cons_succ] at c2 c3
  have A1 := Lib.hid a1
  have A2 := Lib.hid a2
  have A3 := Lib.hid a3
  have A4 := Lib.hid a4
  have A5 := Lib.hid a5
  have A6 := Lib.hid a6
  have A12 := Lib.hid a12
  have HF := Lib.hid hf
  have HKL := Lib.hid hkl
  clear h a1 a2 a3 a4 a5 a6 a12 hM1 hkl hf
  go_enter Tryz.func72, Tryz.ntmps72
  go_wp2
  generalize hW7 : w.alloc (.cells #[.int .i64 c.name.k, .string c.name.o, .int .i64 c.name.n, .int .i64 c.name.i, .string c.name.t, .string c.value, .bool c.absent] 93) = W7 at *
  have g0 := cell_of_heap hW1 0
  have g1 := cell_of_heap hW1 1
  have g2 := cell_of_heap hW1 2
  have g3 := cell_of_heap hW1 3
  have g4 := cell_of_heap hW1 4
  have g5 := cell_of_heap hW1 5
  have g6 := cell_of_heap hW1 6
  simp only [List.getElem?_toArray, List.getElem?_cons_zero, List.getElem?_cons_succ] at g0 g1 g2 g3 g4 g5 g6
  have hMd : Mods [] W7 W7.drew := (Mods.refl _ _).drew
  replace g0 := hMd.keep g0
  replace g1 := hMd.keep g1
  replace g2 := hMd.keep g2
  replace g3 := hMd.keep g3
  replace g4 := hMd.keep g4
  replace g5 := hMd.keep g5
  replace g6 := hMd.keep g6
  replace c2 := hMd.keep c2
  replace c3 := hMd.keep c3
  obtain ⟨w2, hrun, hown, hgr⟩ := A4.out.drew.update lawName Tryz.underlying130 (by unfold maxLen; omega) (key := .agg #[.int .i64 c.name.k, .string c.name.o, .int .i64 c.name.n, .int .i64 c.name.i, .string c.name.t]) HKL.out (val := .int .i64 l.length) (R := plainElem (H := Unit) Tryz.prog 3) (plainElem_int Tryz.underlying3 (WalkArith.wf_i64 (by omega)))
  refine wp_region_still_tail 11 (by kernel_rfl) (by kernel_rfl) ?_
  simp only [List.take_succ_cons, List.take_zero, List.drop_succ_cons, List.drop_zero]
  change wpStill _ _ W7.drew _ _ _
  have HR := Lib.hid hrun
  generalize hW8 : W7.drew = W8 at *
  repeat still_step
  try refine wpStill_nil ?_
  go_wp2
  -- the world behind the map's turn
  have hk8 : Keep (fun k _ => k ≠ ml) W8 w2 := ⟨hgr.os, hgr.tape, hgr.output, hgr.size, fun k o hk hP => by rw [hgr.block k (lt_of_heap hk) (by simpa using hP)]; exact hk⟩
  have hcell : ∀ b off v, b ≠ ml → W8.cell? ⟨b, off, none⟩ = some v → w2.cell? ⟨b, off, none⟩ = some v := by
    intro b off v hne hc
    have hlt := lt_of_cell hc
    rw [World.cell?_of_block (w := W8) (w' := w2) (hgr.block b hlt (by simpa using hne))]
    exact hc
  have hne1 : w.heap.size ≠ ml := by have := Hlt.out; omega
  have hne2 : V ≠ ml := by omega
  have hv8 : W8.heap[V]? = some (.cells #[.pointer (some ⟨S, 0, none⟩), .map (some mr), .slice sa l.length sc, .map (some ml)] 132 (0, 0)) := hMd.heap A1.out (by simp)
  have hv2 := hk8.block _ _ hv8 hne2
  have hSm : S ≠ ml := by
    rintro rfl
    obtain ⟨es, ck, hb⟩ := ownsMap_block A4.out
    rw [A2.out] at hb
    cases hb
  have hs2 := hk8.block _ _ (hMd.heap A2.out (by simp)) hSm
  have hr2 : w2.ownsMap Tryz.prog 80 anyElem mr n Dr := by
    obtain ⟨es, ck, hb, hF, hs, hD⟩ := A3.out
    exact ⟨es, ck, hk8.block _ _ (hMd.heap hb (by simp)) a10, hF, hs, hD⟩
  have ho2 : w2.ownsRow (V + 1) 93 7 (.slice sa l.length sc) l.length (l.flatMap ChgB.cells) := by
    obtain ⟨b1, ⟨e, b2⟩ | ⟨g', cap, cur, e, hB, hh, hn, hm, hc, ht⟩⟩ := A6.out
    · exact ⟨b1, .inl ⟨e, b2⟩⟩
    · exact ⟨b1, .inr ⟨g', cap, cur, e, hB, hk8.block _ _ (hMd.heap hh (by simp)) (by omega), hn, hm, hc, ht⟩⟩
  have hK2 : Keep (VKeep V) w w2 := by
    obtain ⟨es, ck, hb⟩ := ownsMap_block (hW8 ▸ A4.out.drew)
    exact (Keep.of_mods (HM.out.trans' hMd) (by simp)).trans (keep_of_map hb hgr A12.out.2.2)
  replace g0 := hcell _ _ _ hne1 g0
  replace g1 := hcell _ _ _ hne1 g1
  replace g2 := hcell _ _ _ hne1 g2
  replace g3 := hcell _ _ _ hne1 g3
  replace g4 := hcell _ _ _ hne1 g4
  replace g5 := hcell _ _ _ hne1 g5
  replace g6 := hcell _ _ _ hne1 g6
  replace c2 := hcell _ _ _ hne2 c2
  have hMd2 : Mods [] w2 w2.drew := (Mods.refl _ _).drew
  replace g0 := hMd2.keep g0
  replace g1 := hMd2.keep g1
  replace g2 := hMd2.keep g2
  replace g3 := hMd2.keep g3
  replace g4 := hMd2.keep g4
  replace g5 := hMd2.keep g5
  replace g6 := hMd2.keep g6
  replace c2 := hMd2.keep c2
  have B1 := Lib.hid (hMd2.heap hv2 (by simp))
  have B2 := Lib.hid (hMd2.heap hs2 (by simp))
  have B3 := Lib.hid hr2.drew
  have B4 := Lib.hid hown.drew
  have B6 : Hid (w2.drew.ownsRow (V + 1) 93 7 (.slice sa l.length sc) l.length (l.flatMap ChgB.cells)) := ho2
  have BK : Hid (Keep (VKeep V) w w2.drew) := hK2.trans (Keep.of_mods hMd2 (by simp))
  have hlt2 : V < w2.drew.heap.size := lt_of_heap B1.out
  clear hk8 hcell hv8 hv2 hs2 hr2 ho2 hK2 hMd hMd2 hgr hown c3 A1 A2 A3 A4 A6 HR
  generalize hW9 : w2.drew = W9 at *
  have hneV : some V ≠ (Value.slice sa l.length sc).ownBlock := fun e => by have := (B6.out.lt V e.symm).1; omega
  have hf0 := frozen_of_heap B1.out 2
  go_region_law (first | (refine step_append_lies _ rfl _ _ 88 rfl (V + 1) 93 i0 _ 7 80 Tryz.underlying88 hi hz0 hz1 hz2 rfl (by decide) _ _ _ rfl (B6.out.alloc _) ⟨_, 0, none⟩ 1 1 c.cells rfl rfl (World.news_of_block (heap_alloc_new _ _)) (by intro u hu; simp [ChgB.cells, NameB.cells] at hu; rcases hu with rfl | rfl | rfl | rfl | rfl | rfl | rfl <;> rfl) (by decide) (by unfold maxLen; omega) (by omega) (by simp; omega) _ rfl ?_; intro g5 cap5 w5 hown5 hgr5 hat5 hlt5; have hc5 : w5.cell? ⟨V, 2, none⟩ = some (.slice sa l.length sc) := (hgr5.cell_far ⟨V, 2, none⟩ (by simp; omega) hneV).trans (Lib.cell?_alloc_some _ c2); have hf5 : w5.frozen? ⟨V, 2, none⟩ = false := (hgr5.frozen_far ⟨V, 2, none⟩ (by simp; omega) hneV).trans ((((Mods.refl [] W9).alloc _).frozen (p := ⟨V, 2, none⟩) hlt2 (by simp)).trans hf0)) | fail)
  all_goals go_wp2
  all_goals go_end0
  all_goals
    obtain ⟨r1, r2⟩ := view_stored B1.out B2.out B3.out B4.out (A5.out.snoc c HKL.out) B6.out hown5 hgr5 a7 a8 a9 a10 a11 A12.out ⟨HF.out, hv⟩
    exact ⟨rfl, r1, BK.out.trans r2⟩
end Go.Proofs.YtlaihnbappfbfaaGreatDoor
