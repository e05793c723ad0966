/- Walks: sha256.Sum of a short text; user.Hash. -/
import Derived.Test.YtlaihnbappfbfaaGreatDoorShaW4
namespace Go.Proofs.YtlaihnbappfbfaaGreatDoor
open Go.RowKit

def zeroHash : List Value := hashL 0 (List.replicate 8 0) (List.replicate 64 0)
theorem cmp_pad {s r : List UInt8} {n : Nat} (h : s.length = n) : padBlk (s ++ r) n = padBlk (s ++ List.replicate (64 - n) 0) n := by
  unfold padBlk
  rw [← h, List.take_left' rfl, List.take_left' rfl]
set_option maxRecDepth 100000 in
theorem shaSum_small (s : ByteArray) (h0 : 0 < s.size) (h1 : s.size < 56) (w : World) (htab : ShaTab w) :
    Calls Tryz.prog 125 #[.string s] w fun e w' => e = .returned (.agg (bcells (shaSmall s.data.toList)).toArray) ∧ Mods [] w w' := by
  have hsl := slen s
  have hw2 : ((w.alloc (.cells #[.int .u8 0, .int .u8 0, .int .u8 0, .int .u8 0, .int .u8 0, .int .u8 0, .int .u8 0, .int .u8 0, .int .u8 0, .int .u8 0, .int .u8 0, .int .u8 0, .int .u8 0, .int .u8 0, .int .u8 0, .int .u8 0, .int .u8 0, .int .u8 0, .int .u8 0, .int .u8 0, .int .u8 0, .int .u8 0, .int .u8 0, .int .u8 0, .int .u8 0, .int .u8 0, .int .u8 0, .int .u8 0, .int .u8 0, .int .u8 0, .int .u8 0, .int .u8 0] 192)).alloc (.cells Tryz.zeroCells222 222)).heap[w.heap.size + 1]? = some (.cells (hashL 0 (List.replicate 8 0) (List.replicate 64 0)).toArray 222 (0, 0)) := heap_alloc2_new w _ _
  have hR2 : ((w.alloc (.cells #[.int .u8 0, .int .u8 0, .int .u8 0, .int .u8 0, .int .u8 0, .int .u8 0, .int .u8 0, .int .u8 0, .int .u8 0, .int .u8 0, .int .u8 0, .int .u8 0, .int .u8 0, .int .u8 0, .int .u8 0, .int .u8 0, .int .u8 0, .int .u8 0, .int .u8 0, .int .u8 0, .int .u8 0, .int .u8 0, .int .u8 0, .int .u8 0, .int .u8 0, .int .u8 0, .int .u8 0, .int .u8 0, .int .u8 0, .int .u8 0, .int .u8 0, .int .u8 0] 192)).alloc (.cells Tryz.zeroCells222 222)).heap[w.heap.size]? = some (.cells (bcells (List.replicate 32 0)).toArray 192 (0, 0)) := heap_alloc_old (heap_alloc_new w _)
  have hM2 : Mods [] w ((w.alloc (.cells #[.int .u8 0, .int .u8 0, .int .u8 0, .int .u8 0, .int .u8 0, .int .u8 0, .int .u8 0, .int .u8 0, .int .u8 0, .int .u8 0, .int .u8 0, .int .u8 0, .int .u8 0, .int .u8 0, .int .u8 0, .int .u8 0, .int .u8 0, .int .u8 0, .int .u8 0, .int .u8 0, .int .u8 0, .int .u8 0, .int .u8 0, .int .u8 0, .int .u8 0, .int .u8 0, .int .u8 0, .int .u8 0, .int .u8 0, .int .u8 0, .int .u8 0, .int .u8 0] 192)).alloc (.cells Tryz.zeroCells222 222)) := ((Mods.refl _ _).alloc _).alloc _
  generalize hW2 : (w.alloc (.cells #[.int .u8 0, .int .u8 0, .int .u8 0, .int .u8 0, .int .u8 0, .int .u8 0, .int .u8 0, .int .u8 0, .int .u8 0, .int .u8 0, .int .u8 0, .int .u8 0, .int .u8 0, .int .u8 0, .int .u8 0, .int .u8 0, .int .u8 0, .int .u8 0, .int .u8 0, .int .u8 0, .int .u8 0, .int .u8 0, .int .u8 0, .int .u8 0, .int .u8 0, .int .u8 0, .int .u8 0, .int .u8 0, .int .u8 0, .int .u8 0, .int .u8 0, .int .u8 0] 192)).alloc (.cells Tryz.zeroCells222 222) = W2 at *
  have hwr := shaWrite_small (st0 := List.replicate 8 0) (rest0 := List.replicate 64 0) (by simp) (by simp) hw2 s h0 (by omega) (htab.keep hM2)
  have hsum := fun (W3 : World) (hm : Mods [w.heap.size + 1] W2 W3) (h : W3.heap[w.heap.size + 1]? = some (.cells (hashL s.size shaI (s.data.toList ++ (List.replicate 64 0).drop s.size)).toArray 222 (0, 0))) =>
    shaSumM_small (n := s.size) (st := shaI) (rest := s.data.toList ++ (List.replicate 64 0).drop s.size) shaI_length (by simp [hsl]; omega) h0 h1 h (htab.keep (hM2.trans hm (fun i hi => by simp at hi; right; omega)))
  have hdig : digN (cmpF (lenBlk (padBlk (s.data.toList ++ (List.replicate 64 0).drop s.size) s.size) (8 * s.size) 8) shaI) 8 = shaSmall s.data.toList := by
    unfold shaSmall
    rw [hsl, cmp_pad hsl]
  simp only [hdig] at hsum
  obtain ⟨dg, hdg⟩ : ∃ dg, shaSmall s.data.toList = dg := ⟨_, rfl⟩
  have hdl : dg.length = 32 := by rw [← hdg]; exact digN_length _ _
  rw [hdg] at hsum ⊢
  have hinf : Hid ((Tryz.prog.info? 192).map (·.size) = some (bcells dg).toArray.size) := by
    show _ = _; rw [List.size_toArray, bcells_length, hdl]; kernel_rfl
  have hdone : Hid ((bcells dg).toArray.all (·.oneCell') = true) := all_oneCell_toArray (bcells_one _)
  have hsz : Hid ((bcells (List.replicate 32 0)).toArray.size = (bcells dg).toArray.size) := by show _ = _; rw [List.size_toArray, List.size_toArray, bcells_length, bcells_length, hdl]; rfl
  have Hwr := Lib.hid hwr
  have Hsum := Lib.hid hsum
  have HR2 := Lib.hid hR2
  have HM2 := Lib.hid hM2
  clear hwr hsum hR2 hM2 hw2 hdig hdg
  go_enter Tryz.func125, Tryz.ntmps125
  go_wp2_with (first | (go_at_call 157; refine Hwr.out.mono ?_; rintro e W3 ⟨rfl, hm3, hh3⟩; have hr3 := hm3.heap HR2.out (by simp); have HM3 := HM2.out.trans hm3 (fun i hi => by simp at hi; right; omega)) | (go_at_call 158; refine (Hsum.out W3 hm3 hh3).mono ?_; rintro e W4 ⟨rfl, hm4⟩; have hr4 := hm4.heap hr3 (by simp); have HM4 := HM3.trans' hm4) | (refine wpList_store_row rfl 192 _ _ rfl w.heap.size _ rfl rfl _ _ hr4 hinf.out hsz.out hdone.out ?_))
  refine bodyPost_ret (results_cell_row Tryz.results125 _ _ w.heap.size _ _ _ _ rfl (setRow_heap _ _ _ _ _ _ hr4) Tryz.underlying192 rfl hinf.out) rfl ⟨rfl, ?_⟩
  exact mods_setRow HM4 (.inr (Nat.le_refl _))

theorem bytes_add (a b : List UInt8) : (⟨a.toArray⟩ : ByteArray) ++ ⟨b.toArray⟩ = ⟨(a ++ b).toArray⟩ := by
  apply ByteArray.ext; simp
set_option maxRecDepth 100000 in
/-- user.Hash of a salt of eight bytes. -/
theorem hash_small (salt : List UInt8) (hs : salt.length = 8) (sec : ByteArray) (h1 : sec.size < 48) (w : World) (htab : ShaTab w) :
    Calls Tryz.prog 98 #[.agg (bcells salt).toArray, .string sec] w fun e w' => e = .returned (.agg (bcells (shaSmall (salt ++ sec.data.toList))).toArray) ∧ Mods [] w w' := by
  have hsl := slen sec
  obtain ⟨S, hS⟩ : ∃ S : ByteArray, (⟨salt.toArray⟩ : ByteArray) ++ sec = S := ⟨_, rfl⟩
  have eS : S.data.toList = salt ++ sec.data.toList := by rw [← hS]; simp
  have sS : S.size = 8 + sec.size := by rw [← slen S, eS, List.length_append, hs, hsl]
  have hb : BytesIn ((w.alloc (.cells (bcells salt).toArray 113)).alloc (.cells #[.int .u8 0, .int .u8 0, .int .u8 0, .int .u8 0, .int .u8 0, .int .u8 0, .int .u8 0, .int .u8 0, .int .u8 0, .int .u8 0, .int .u8 0, .int .u8 0, .int .u8 0, .int .u8 0, .int .u8 0, .int .u8 0, .int .u8 0, .int .u8 0, .int .u8 0, .int .u8 0, .int .u8 0, .int .u8 0, .int .u8 0, .int .u8 0, .int .u8 0, .int .u8 0, .int .u8 0, .int .u8 0, .int .u8 0, .int .u8 0, .int .u8 0, .int .u8 0] 114)) w.heap.size (.slice (some ⟨w.heap.size, 0, none⟩) 8 8) salt := by
    refine ⟨_, 8, by rw [hs], by omega, .inr ⟨0, rfl, fun i hi => ?_⟩⟩
    rw [cell_of_heap (heap_alloc_old (heap_alloc_new w (.cells (bcells salt).toArray 113)))]
    simp [bcells, hi]
  have hcv := hb.run_string
  have hR2 : ((w.alloc (.cells (bcells salt).toArray 113)).alloc (.cells #[.int .u8 0, .int .u8 0, .int .u8 0, .int .u8 0, .int .u8 0, .int .u8 0, .int .u8 0, .int .u8 0, .int .u8 0, .int .u8 0, .int .u8 0, .int .u8 0, .int .u8 0, .int .u8 0, .int .u8 0, .int .u8 0, .int .u8 0, .int .u8 0, .int .u8 0, .int .u8 0, .int .u8 0, .int .u8 0, .int .u8 0, .int .u8 0, .int .u8 0, .int .u8 0, .int .u8 0, .int .u8 0, .int .u8 0, .int .u8 0, .int .u8 0, .int .u8 0] 114)).heap[w.heap.size + 1]? = some (.cells (bcells (List.replicate 32 0)).toArray 114 (0, 0)) := heap_alloc2_new w _ _
  have hM2 : Mods [] w ((w.alloc (.cells (bcells salt).toArray 113)).alloc (.cells #[.int .u8 0, .int .u8 0, .int .u8 0, .int .u8 0, .int .u8 0, .int .u8 0, .int .u8 0, .int .u8 0, .int .u8 0, .int .u8 0, .int .u8 0, .int .u8 0, .int .u8 0, .int .u8 0, .int .u8 0, .int .u8 0, .int .u8 0, .int .u8 0, .int .u8 0, .int .u8 0, .int .u8 0, .int .u8 0, .int .u8 0, .int .u8 0, .int .u8 0, .int .u8 0, .int .u8 0, .int .u8 0, .int .u8 0, .int .u8 0, .int .u8 0, .int .u8 0] 114)) := ((Mods.refl _ _).alloc _).alloc _
  have hsum := shaSum_small S (by omega) (by omega) ((w.alloc (.cells (bcells salt).toArray 113)).alloc (.cells #[.int .u8 0, .int .u8 0, .int .u8 0, .int .u8 0, .int .u8 0, .int .u8 0, .int .u8 0, .int .u8 0, .int .u8 0, .int .u8 0, .int .u8 0, .int .u8 0, .int .u8 0, .int .u8 0, .int .u8 0, .int .u8 0, .int .u8 0, .int .u8 0, .int .u8 0, .int .u8 0, .int .u8 0, .int .u8 0, .int .u8 0, .int .u8 0, .int .u8 0, .int .u8 0, .int .u8 0, .int .u8 0, .int .u8 0, .int .u8 0, .int .u8 0, .int .u8 0] 114)) (htab.keep hM2)
  rw [eS] at hsum
  obtain ⟨dg, hdg⟩ : ∃ dg, shaSmall (salt ++ sec.data.toList) = dg := ⟨_, rfl⟩
  have hdl : dg.length = 32 := by rw [← hdg]; exact digN_length _ _
  rw [hdg] at hsum ⊢
  have hinf : Hid ((Tryz.prog.info? 114).map (·.size) = some (bcells dg).toArray.size) := by
    show _ = _; rw [List.size_toArray, bcells_length, hdl]; kernel_rfl
  have hdone : Hid ((bcells dg).toArray.all (·.oneCell') = true) := all_oneCell_toArray (bcells_one _)
  have hsz : Hid ((bcells (List.replicate 32 0)).toArray.size = (bcells dg).toArray.size) := by show _ = _; rw [List.size_toArray, List.size_toArray, bcells_length, bcells_length, hdl]; rfl
  have HR2 := Lib.hid hR2
  have HM2 := Lib.hid hM2
  have Hsum := Lib.hid hsum
  clear hR2 hM2 hb hsum hdg hsl sS eS
  go_enter Tryz.func98, Tryz.ntmps98
  go_wp2_with (first | (go_at_call 125; refine Hsum.out.mono ?_; rintro e W4 ⟨rfl, hm4⟩; have hr4 := hm4.heap HR2.out (by simp)) | (refine wpList_store_row rfl 114 _ _ rfl (w.heap.size + 1) _ rfl rfl _ _ hr4 hinf.out hsz.out hdone.out ?_))
  refine bodyPost_ret (results_cell_row Tryz.results98 _ _ (w.heap.size + 1) _ _ _ _ rfl (setRow_heap _ _ _ _ _ _ hr4) Tryz.underlying114 rfl hinf.out) rfl ⟨rfl, ?_⟩
  exact mods_setRow (HM2.out.trans' hm4) (.inr (by omega))
end Go.Proofs.YtlaihnbappfbfaaGreatDoor
