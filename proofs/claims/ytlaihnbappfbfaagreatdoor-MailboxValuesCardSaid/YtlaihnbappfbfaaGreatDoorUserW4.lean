/- Walks: Encode of an account. -/
import Derived.Test.YtlaihnbappfbfaaGreatDoorUserW3
import Derived.Test.YtlaihnbappfbfaaGreatDoorShaW5
import Derived.Deep.DeepCutAuto
import Derived.Deep.CutBlock
namespace Go.Proofs.YtlaihnbappfbfaaGreatDoor
open Go.RowKit

/-- The encoding of an account. -/
def encAcc (name : List UInt8) (number : Nat) (groups : List Int) (home salt digest : List UInt8) (lk : Bool) : List UInt8 :=
  encText name ++ encNat number ++ encNat groups.length ++ groups.flatMap (fun g => encNat g.toNat) ++ encText home ++ encText salt ++ encText digest ++ encFlag lk
theorem accCells_length {name : ByteArray} {number : Int} {g : Value} {home : ByteArray} {salt digest : List UInt8} {lk : Bool} (hs : salt.length = 8) (hd : digest.length = 32) : (accCells name number g home salt digest lk).length = 45 := by
  simp [accCells, bcells, hs, hd]
theorem accCells_salt {name : ByteArray} {number : Int} {g : Value} {home : ByteArray} {salt digest : List UInt8} {lk : Bool} (hs : salt.length = 8) (i : Nat) (hi : i < 8) : (accCells name number g home salt digest lk)[4 + i]? = some (.int .u8 (salt[i]'(by omega)).toNat) := by
  unfold accCells
  rw [List.getElem?_append_right (by simp), List.getElem?_append_left (by simp [bcells, hs, hi])]
  simp [bcells, hs, hi]
theorem accCells_digest {name : ByteArray} {number : Int} {g : Value} {home : ByteArray} {salt digest : List UInt8} {lk : Bool} (hs : salt.length = 8) (hd : digest.length = 32) (i : Nat) (hi : i < 32) : (accCells name number g home salt digest lk)[12 + i]? = some (.int .u8 (digest[i]'(by omega)).toNat) := by
  unfold accCells
  rw [List.getElem?_append_right (by simp; omega), List.getElem?_append_right (by simp [bcells, hs]; omega), List.getElem?_append_left (by simp [bcells, hs, hd]; omega)]
  have e : 12 + i - 4 - 8 = i := by omega
  simp [bcells, hs, hd, hi, e]
theorem accCells_lock {name : ByteArray} {number : Int} {g : Value} {home : ByteArray} {salt digest : List UInt8} {lk : Bool} (hs : salt.length = 8) (hd : digest.length = 32) : (accCells name number g home salt digest lk)[44]? = some (.bool lk) := by
  unfold accCells
  rw [List.getElem?_append_right (by simp), List.getElem?_append_right (by simp [bcells, hs]), List.getElem?_append_right (by simp [bcells, hs, hd])]
  simp [bcells, hs, hd]

/-- What holds between two writes. -/
structure AEnc (w wx : World) (b W : Nat) (arr : List Value) (gv : Value) (groups : List Int) (acc : List UInt8) (n : Nat) : Prop where
  a : wx.heap[b]? = some (.cells arr.toArray 116 (0, 0))
  iw : IsWriter wx W acc
  m : Mods [] w wx
  lo : w.heap.size ≤ b
  lt : b < W
  g : IntsAt wx gv groups
  len : acc.length ≤ n * 20000000
theorem mods_wk {w wx wy : World} {W : Nat} (h : Mods [] w wx) (hW : w.heap.size ≤ W) (hk : Keep (WKeep W) wx wy) : Mods [] w wy :=
  ⟨hk.os.trans h.os, hk.tape.trans h.tape, hk.output.trans h.output, Nat.le_trans h.size hk.size, fun i hi _ => by
    have hs : w.heap[i]? = some w.heap[i] := Array.getElem?_eq_getElem hi
    rw [hk.block i _ (h.heap hs (by simp)) ⟨by omega, .inl (by omega)⟩, hs]⟩
theorem encText_len (s : List UInt8) (h : s.length ≤ 16777216) : (encText s).length ≤ 20000000 := by
  have := encNat_length_u64 s.length (by omega)
  simp only [encText, List.length_append]; omega
/-- The groups lie in old memory. -/
theorem IntsAt.old {w wx : World} {gv : Value} {groups : List Int} (h : IntsAt w gv groups) (hm : Mods [] w wx) : IntsAt wx gv groups := h.keep hm
theorem AEnc.step {w wx wy : World} {b W n : Nat} {arr : List Value} {gv : Value} {groups : List Int} {acc add : List UInt8} (h : AEnc w wx b W arr gv groups acc n) (hg : IntsAt w gv groups) (hl : add.length ≤ 20000000) (hw : IsWriter wy W (acc ++ add)) (hk : Keep (WKeep W) wx wy) :
    AEnc w wy b W arr gv groups (acc ++ add) (n + 1) := by
  have hlo := h.lo
  have hlt := h.lt
  have hm := mods_wk h.m (by omega) hk
  refine ⟨hk.block _ _ h.a ⟨by omega, .inl (by omega)⟩, hw, hm, h.lo, h.lt, hg.keep hm, ?_⟩
  have := h.len
  rw [List.length_append]; omega

set_option maxRecDepth 100000 in
set_option maxHeartbeats 4000000 in
theorem accEncode_ok {w : World} (name home : ByteArray) (number : Nat) {g : Value} {groups : List Int} (salt digest : List UInt8) (lk : Bool) (hg : IntsAt w g groups) (hn : name.size ≤ 1000000) (hh : home.size ≤ 1000000) (hs : salt.length = 8) (hd : digest.length = 32)
    (hok : accE name.data.toList number groups home.data.toList = 0) (hnum : number ≤ 65535) (hgl : groups.length ≤ 8) (hgs : ∀ x ∈ groups, 0 ≤ x ∧ x ≤ 65535) :
    Calls Tryz.prog 126 #[accVal name number g home salt digest lk] w fun e w' => e = .returned (.tuple #[.string ⟨(encAcc name.data.toList number groups home.data.toList salt digest lk).toArray⟩, .int .i64 0]) ∧ Mods [] w w' := by
  have hlen := accCells_length (name := name) (number := number) (g := g) (home := home) (lk := lk) hs hd
  have hck := fun W (hW : Mods [] w W) => accCheck_core (W := W) name home number (hg.keep hW) hn hh (accCells name number g home salt digest lk).toArray rfl rfl rfl rfl
  rw [hok] at hck
  unfold accVal
  obtain ⟨arr, harr⟩ : ∃ arr, accCells name number g home salt digest lk = arr := ⟨_, rfl⟩
  have q0 : arr[0]? = some (.string name) := by rw [← harr]; rfl
  have q1 : arr[1]? = some (.int .i64 number) := by rw [← harr]; rfl
  have q2 : arr[2]? = some g := by rw [← harr]; rfl
  have q3 : arr[3]? = some (.string home) := by rw [← harr]; rfl
  have q44 : arr[44]? = some (.bool lk) := by rw [← harr]; exact accCells_lock hs hd
  have qs : ∀ i (hi : i < 8), arr[4 + i]? = some (.int .u8 (salt[i]'(by omega)).toNat) := fun i hi => by rw [← harr]; exact accCells_salt hs i hi
  have qd : ∀ i (hi : i < 32), arr[12 + i]? = some (.int .u8 (digest[i]'(by omega)).toNat) := fun i hi => by rw [← harr]; exact accCells_digest hs hd i hi
  rw [harr] at hlen hck ⊢
  have hsz : Hid ((Tryz.prog.info? 116).map (·.size) = some arr.toArray.size) := by show _ = _; rw [List.size_toArray, hlen]; kernel_rfl
  have HQ : Hid (∀ (wx : World) (b : Nat), wx.heap[b]? = some (.cells arr.toArray 116 (0, 0)) → wx.cell? ⟨b, 0, none⟩ = some (.string name) ∧ wx.cell? ⟨b, 1, none⟩ = some (.int .i64 number) ∧ wx.cell? ⟨b, 2, none⟩ = some g ∧ wx.cell? ⟨b, 3, none⟩ = some (.string home) ∧ wx.cell? ⟨b, 44, none⟩ = some (.bool lk) ∧
      (convert 66 9 (.slice (some ⟨b, 4, none⟩) 8 8)).run Tryz.prog wx = .ok (.string ⟨salt.toArray⟩) wx ∧ (convert 66 9 (.slice (some ⟨b, 12, none⟩) 32 32)).run Tryz.prog wx = .ok (.string ⟨digest.toArray⟩) wx) := by
    show ∀ _, _
    intro wx b h
    refine ⟨(cell_of_heap h 0).trans (by simpa using q0), (cell_of_heap h 1).trans (by simpa using q1), (cell_of_heap h 2).trans (by simpa using q2), (cell_of_heap h 3).trans (by simpa using q3), (cell_of_heap h 44).trans (by simpa using q44), ?_, ?_⟩
    · refine BytesIn.run_string (B := b) ?_
      exact ⟨_, 8, by rw [hs], by omega, .inr ⟨4, rfl, fun i hi => (cell_of_heap h (4 + i)).trans (by rw [List.getElem?_toArray]; exact qs i (by omega))⟩⟩
    · refine BytesIn.run_string (B := b) ?_
      exact ⟨_, 32, by rw [hd], by omega, .inr ⟨12, rfl, fun i hi => (cell_of_heap h (12 + i)).trans (by rw [List.getElem?_toArray]; exact qd i (by omega))⟩⟩
  have HCK := Lib.hid hck
  have HG := Lib.hid hg
  have HGS := Lib.hid hgs
  obtain ⟨gp, gc, ge, hgc, _⟩ := id hg
  subst ge
  clear harr q0 q1 q2 q3 q44 qs qd hck hg hgs hok
  have hM0 : Mods [] w (w.alloc (.cells arr.toArray 116)) := (Mods.refl _ _).alloc _
  have hA0 := heap_alloc_new w (.cells arr.toArray 116)
  have HM0 := Lib.hid hM0
  have HA0 := Lib.hid hA0
  clear hM0 hA0
  go_enter Tryz.func126, Tryz.ntmps126
  have sz8 : (⟨salt.toArray⟩ : ByteArray).size ≤ 16777216 := by simp [ByteArray.size, hs]
  have sz32 : (⟨digest.toArray⟩ : ByteArray).size ≤ 16777216 := by simp [ByteArray.size, hd]
  have szn : name.size ≤ 16777216 := by omega
  have szh : home.size ≤ 16777216 := by omega
  go_wp2_with (first
    | (refine wpList_load_row rfl 116 _ rfl w.heap.size rfl _ _ _ _ HA0.out Tryz.underlying116 rfl hsz.out ?_)
    | (go_at_call 94; refine (HCK.out _ HM0.out).mono ?_; rintro e w1 ⟨rfl, hm1⟩; have hA1 := hm1.heap HA0.out (by simp); have hM1 := HM0.out.trans' hm1; have hL1 := hm1.size; rw [World.size_alloc] at hL1)
    | (go_at_call 49; refine (newWriter_any _).mono ?_; rintro e w2 ⟨rfl, hw2, hm2, _⟩; have I : AEnc w w2 w.heap.size w1.heap.size arr (.slice gp groups.length gc) groups [] 0 := ⟨hm2.heap hA1 (by simp), hw2, hM1.trans' hm2, Nat.le_refl _, hL1, HG.out.keep (hM1.trans' hm2), by simp⟩; obtain ⟨c0, c1, c2, c3, c44, s4, s12⟩ := HQ.out _ _ I.a)
    | (go_at_call 51; refine (writerText_any _ (by assumption) I.iw (by have := I.len; omega)).mono ?_; rintro e w3 ⟨rfl, iw, hk⟩; replace I := I.step HG.out (encText_len _ (by rw [slen]; assumption)) iw hk; clear c0 c1 c2 c3 c44 s4 s12; obtain ⟨c0, c1, c2, c3, c44, s4, s12⟩ := HQ.out _ _ I.a)
    | (go_at_call 50; refine (writerNumber_any _ (by omega) I.iw (by have := I.len; omega)).mono ?_; rintro e w3 ⟨rfl, iw, hk⟩; replace I := I.step HG.out (Nat.le_trans (encNat_length_u64 _ (by omega)) (by omega)) iw hk; clear c0 c1 c2 c3 c44 s4 s12; obtain ⟨c0, c1, c2, c3, c44, s4, s12⟩ := HQ.out _ _ I.a))
  obtain ⟨acc0, hacc0⟩ : ∃ acc0, (([] ++ encText name.data.toList) ++ encNat number) ++ encNat groups.length = acc0 := ⟨_, rfl⟩
  rw [hacc0] at I
  have Hacc0 := Lib.hid hacc0
  have HI := Lib.hid I
  clear hacc0 I c0 c1 c2 c3 c44 s4 s12 iw hk
  go_loopw [7, 32] (fun _ i wr => ∃ k : Nat, i = .int .i64 k ∧ k ≤ groups.length ∧ Hid (AEnc w wr w.heap.size w1.heap.size arr (.slice gp groups.length gc) groups (acc0 ++ (groups.take k).flatMap (fun g => encNat g.toNat)) (3 + k))) (fun _ i _ => groups.length - (intOf i).toNat)
  case atStart => exact ⟨0, rfl, by omega, by show AEnc _ _ _ _ _ _ _ _ _; simpa using HI.out⟩
  case round =>
    clear HI
    obtain ⟨k, rfl, hk, hI⟩ := hrel
    by_cases hlt : k < groups.length
    · obtain ⟨gp', gc', ge', _, _, hgg⟩ := hI.out.g
      simp only [Value.slice.injEq] at ge'
      obtain ⟨rfl, _, rfl⟩ := ge'
      obtain ⟨B, off, rfl, hcell⟩ := hgg.resolve_left (by rintro rfl; simp at hlt)
      have cg := hcell k hlt
      have hx := HGS.out groups[k] (List.getElem_mem hlt)
      obtain ⟨x, hxx⟩ := Int.eq_ofNat_of_zero_le hx.1
      rw [hxx] at cg
      have hkl : (k : Int) < (groups.length : Int) := by omega
      have htk : Hid ((groups.take (k + 1)).flatMap (fun g => encNat g.toNat) = (groups.take k).flatMap (fun g => encNat g.toNat) ++ encNat x) := by
        show _ = _
        rw [List.take_succ_eq_append_getElem hlt, List.flatMap_append, hxx]
        simp
      have hx2 : x ≤ 65535 := by omega
      have hk8 : k ≤ 8 := by omega
      clear hcell hgg hx hxx
      go_wp2_with (go_at_call 50; refine (writerNumber_any _ (by omega) hI.out.iw (by have := hI.out.len; omega)).mono ?_; rintro e w3 ⟨rfl, iw, hkk⟩)
      go_round
      case rel =>
        refine ⟨k + 1, by go_num, by omega, ?_⟩
        have := hI.out.step HG.out (Nat.le_trans (encNat_length_u64 _ (by omega)) (by omega)) iw hkk
        rw [List.append_assoc, ← htk.out] at this
        exact this
      case measure => simp [intOf] <;> omega
    · have hkl : Hid (k = groups.length) := by show k = _; omega
      have I : AEnc w wr w.heap.size w1.heap.size arr (.slice gp groups.length gc) groups (acc0 ++ groups.flatMap (fun g => encNat g.toNat)) 11 := by
        have h := hI.out
        rw [hkl.out, List.take_length] at h
        exact ⟨h.a, h.iw, h.m, h.lo, h.lt, h.g, Nat.le_trans h.len (Nat.mul_le_mul_right _ (by omega))⟩
      have hkn : ¬ (k : Int) < (groups.length : Int) := by omega
      obtain ⟨c0, c1, c2, c3, c44, s4, s12⟩ := HQ.out _ _ I.a
      clear hI hlt
      go_wp2_with (first
        | (go_at_call 51; refine (writerText_any _ (by assumption) I.iw (by have := I.len; omega)).mono ?_; rintro e w3 ⟨rfl, iw, hk⟩; replace I := I.step HG.out (encText_len _ (by rw [slen]; assumption)) iw hk; clear c0 c1 c2 c3 c44 s4 s12; obtain ⟨c0, c1, c2, c3, c44, s4, s12⟩ := HQ.out _ _ I.a)
        | (go_at_call 52; refine (writerFlag_any _ I.iw (by have := I.len; omega)).mono ?_; rintro e w3 ⟨rfl, iw, hk⟩; replace I := I.step HG.out (by simp only [List.length_singleton]; omega) iw hk; clear c0 c1 c2 c3 c44 s4 s12; obtain ⟨c0, c1, c2, c3, c44, s4, s12⟩ := HQ.out _ _ I.a)
        | (go_at_call 53; obtain ⟨accF, hF, IF⟩ : ∃ accF, acc0 ++ groups.flatMap (fun g => encNat g.toNat) ++ encText home.data.toList ++ encText salt ++ encText digest ++ encFlag lk = accF ∧ AEnc w _ w.heap.size w1.heap.size arr (.slice gp groups.length gc) groups accF 15 := ⟨_, rfl, I⟩; have HF := Lib.hid hF; have hne : accF ≠ [] := (by rw [← hF]; simp [encFlag]); clear hF; refine (writerBytes_any IF.iw hne (by have := IF.len; omega)).mono ?_; rintro e w3 ⟨bv, bg, rfl, hb, hb1, hb2, hbm⟩; have hM9 := I.m.trans' hbm; have hrs := hb; obtain ⟨bp, bc, rfl, _, _⟩ := hb; have hcv := hrs.run_string))
      go_ret2
      refine ⟨?_, hM9⟩
      rw [← HF.out, ← Hacc0.out]
      rfl
end Go.Proofs.YtlaihnbappfbfaaGreatDoor
