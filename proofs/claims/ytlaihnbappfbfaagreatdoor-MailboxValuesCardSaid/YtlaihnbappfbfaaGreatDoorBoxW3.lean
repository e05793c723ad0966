/- Walks of mailbox: Encode. -/
import Derived.Test.YtlaihnbappfbfaaGreatDoorB1
import Derived.Test.YtlaihnbappfbfaaGreatDoorUserW4
namespace Go.Proofs.YtlaihnbappfbfaaGreatDoor
open Go.RowKit

/-- What holds between two writes. -/
structure BEnc (w wx : World) (A W : Nat) (T : TypeId) (cs : Array Value) (acc : List UInt8) (n : Nat) : Prop where
  a : wx.heap[A]? = some (.cells cs T (0, 0))
  iw : IsWriter wx W acc
  m : Mods [] w wx
  lo : w.heap.size ≤ A
  lt : A < W
  len : acc.length ≤ n * 20000000
theorem BEnc.step {w wx wy : World} {A W n : Nat} {T : TypeId} {cs : Array Value} {acc add : List UInt8} (h : BEnc w wx A W T cs acc n) (hl : add.length ≤ 20000000) (hw : IsWriter wy W (acc ++ add)) (hk : Keep (WKeep W) wx wy) :
    BEnc w wy A W T cs (acc ++ add) (n + 1) := by
  have hlo := h.lo
  have hlt := h.lt
  have hm := mods_wk h.m (by omega) hk
  refine ⟨hk.block _ _ h.a ⟨by omega, .inl (by omega)⟩, hw, hm, h.lo, h.lt, ?_⟩
  have := h.len
  rw [List.length_append]; omega
theorem BEnc.alloc {w wx : World} {A W n : Nat} {T : TypeId} {cs : Array Value} {acc : List UInt8} (h : BEnc w wx A W T cs acc n) (o : Obj) : BEnc w (wx.alloc o) A W T cs acc n :=
  ⟨heap_alloc_old h.a, h.iw.mods ((Mods.refl [] _).alloc o) (by simp), h.m.alloc o, h.lo, h.lt, h.len⟩
/-- The message's own variable stays. -/
theorem msgBlock_keep {wx wy : World} {W X : Nat} {c : Array Value} (hk : Keep (WKeep W) wx wy) (hX : X ≠ W) (h : wx.heap[X]? = some (.cells c 57 (0, 0))) : wy.heap[X]? = some (.cells c 57 (0, 0)) :=
  hk.block _ _ h ⟨hX, .inr (fun cur e => by simp only [Obj.cells.injEq] at e; exact absurd e.2.1 (by decide))⟩
theorem encNat_len (n : Nat) (h : n < 2 ^ 63) : (encNat n).length ≤ 20000000 := Nat.le_trans (encNat_length_u64 _ (by omega)) (by omega)
theorem encFlag_len (b : Bool) : (encFlag b).length ≤ 20000000 := by simp [encFlag]

theorem enc_acc (A : List UInt8) (num sec : Nat) (snd txt : List UInt8) (seen : Bool) : A ++ encNat num ++ encText snd ++ encNat sec ++ encFlag seen ++ encText txt = A ++ encMsg ⟨num, snd, sec, txt, seen⟩ := by
  simp [encMsg]
/-- What holds between two writes of a message in block X. -/
structure BMsg (w wx : World) (A W X : Nat) (cs mcs : Array Value) (acc : List UInt8) (n : Nat) : Prop where
  e : BEnc w wx A W 34 cs acc n
  x : wx.heap[X]? = some (.cells mcs 57 (0, 0))
  ne : X ≠ W
theorem BMsg.step {w wx wy : World} {A W X n : Nat} {cs mcs : Array Value} {acc add : List UInt8} (h : BMsg w wx A W X cs mcs acc n) (hl : add.length ≤ 20000000) (hw : IsWriter wy W (acc ++ add)) (hk : Keep (WKeep W) wx wy) :
    BMsg w wy A W X cs mcs (acc ++ add) (n + 1) := ⟨h.e.step hl hw hk, msgBlock_keep hk h.ne h.x, h.ne⟩
theorem BMsg.cells {w wx : World} {A W X n : Nat} {cs : Array Value} {a b c d e : Value} {acc : List UInt8} (h : BMsg w wx A W X cs #[a, b, c, d, e] acc n) :
    wx.cell? ⟨X, 0, none⟩ = some a ∧ wx.cell? ⟨X, 1, none⟩ = some b ∧ wx.cell? ⟨X, 2, none⟩ = some c ∧ wx.cell? ⟨X, 3, none⟩ = some d ∧ wx.cell? ⟨X, 4, none⟩ = some e :=
  ⟨cell_of_heap h.x 0, cell_of_heap h.x 1, cell_of_heap h.x 2, cell_of_heap h.x 3, cell_of_heap h.x 4⟩

set_option maxRecDepth 100000 in
set_option maxHeartbeats 4000000 in
theorem boxEncode_ok (next : Int) {l : List MsgB} {v : Value} {w : World} (hv : MsgsAt w v l) (hl : ∀ m ∈ l, m.sender.size ≤ 1000000) (ml : Int) (hm : w.cell? ⟨1, 0, none⟩ = some (.int .i64 ml)) (hok : boxE ⟨next, l.map MsgB.v⟩ = 0) :
    Calls Tryz.prog 21 #[.agg #[.int .i64 next, v]] w fun e w' => e = .returned (.tuple #[.string ⟨(encBox ⟨next, l.map MsgB.v⟩).toArray⟩, .int .i64 0]) ∧ Mods [] w w' := by
  have hck := fun W (h : Mods [] w W) => boxCheck_any next (hv.keep h) hl ml (h.keep hm)
  rw [hok] at hck
  obtain ⟨h1, h2, h3, h4⟩ := boxE_zero hok
  have hmz := msgsE_zero h4
  simp only [List.length_map] at h1 h2 h3
  obtain ⟨nx, hnx⟩ := Int.eq_ofNat_of_zero_le h1
  subst hnx
  obtain ⟨p, cap, rfl, hcap, hln, hat⟩ := id hv
  have hM0 : Mods [] w (w.alloc (.cells #[.int .i64 nx, .slice p l.length cap] 34)) := (Mods.refl _ _).alloc _
  have hA0 := heap_alloc_new w (.cells #[.int .i64 nx, .slice p l.length cap] 34)
  have HM0 := Lib.hid hM0
  have HA0 := Lib.hid hA0
  have HCK := Lib.hid hck
  have HAT := Lib.hid hat
  have HMZ := Lib.hid hmz
  have hnx2 : nx ≤ 1048576 := by omega
  have g0 := cell_of_heap hA0 0
  have g1 := cell_of_heap hA0 1
  simp only [List.getElem?_toArray, List.getElem?_cons_zero, List.getElem?_cons_succ] at g0 g1
  clear hM0 hA0 hck hat hmz h1 h2 h4 hok hv hm
  go_enter Tryz.func21, Tryz.ntmps21
  go_wp2_with (first
    | (go_at_call 23; refine (HCK.out _ HM0.out).mono ?_; rintro e w1 ⟨rfl, hm1⟩; have hA1 := hm1.heap HA0.out (by simp); have hM1 := HM0.out.trans' hm1; have hL1 := hm1.size; rw [World.size_alloc] at hL1)
    | (go_at_call 49; refine (newWriter_any _).mono ?_; rintro e w2 ⟨rfl, hw2, hm2, _⟩; have I : BEnc w w2 w.heap.size w1.heap.size 34 #[.int .i64 nx, .slice p l.length cap] [] 0 := ⟨hm2.heap hA1 (by simp), hw2, hM1.trans' hm2, Nat.le_refl _, hL1, by simp⟩; have c0 : w2.cell? ⟨w.heap.size, 0, none⟩ = some (.int .i64 nx) := cell_of_heap I.a 0; have c1 : w2.cell? ⟨w.heap.size, 1, none⟩ = some (.slice p l.length cap) := cell_of_heap I.a 1)
    | (go_at_call 50; refine (writerNumber_any _ (by omega) I.iw (by have := I.len; omega)).mono ?_; rintro e w3 ⟨rfl, iw, hk⟩; replace I := I.step (encNat_len _ (by omega)) iw hk; clear c0 c1; have c0 : w3.cell? ⟨w.heap.size, 0, none⟩ = some (.int .i64 nx) := cell_of_heap I.a 0; have c1 : w3.cell? ⟨w.heap.size, 1, none⟩ = some (.slice p l.length cap) := cell_of_heap I.a 1))
  obtain ⟨acc0, hacc0⟩ : ∃ acc0, ([] ++ encNat nx) ++ encNat l.length = acc0 := ⟨_, rfl⟩
  rw [hacc0] at I
  have Hacc0 := Lib.hid hacc0
  have HI := Lib.hid I
  clear hacc0 I c0 c1 iw hk
  go_loopw [7, 28] (fun _ i wr => ∃ k : Nat, i = .int .i64 k ∧ k ≤ l.length ∧ Hid (BEnc w wr w.heap.size w1.heap.size 34 #[.int .i64 nx, .slice p l.length cap] (acc0 ++ (l.take k).flatMap (fun m => encMsg m.v)) (2 + 5 * k))) (fun _ i _ => l.length - (intOf i).toNat)
  case atStart => exact ⟨0, rfl, by omega, by show BEnc _ _ _ _ _ _ _ _; simpa using HI.out⟩
  case round =>
    clear HI
    obtain ⟨k, rfl, hk, hI⟩ := hrel
    by_cases hlt : k < l.length
    · obtain ⟨B, off, rfl, hcell⟩ := HAT.out.resolve_left (by rintro rfl; simp at hlt)
      obtain ⟨m, hmk⟩ : ∃ m, l[k] = m := ⟨_, rfl⟩
      have hr := rangeAt_keep hI.out.m (hcell k hlt)
      rw [hmk] at hr
      obtain ⟨c0, c1, c2, c3, c4⟩ := msg_cells hr
      have hmem : m ∈ l := by rw [← hmk]; exact List.getElem_mem hlt
      obtain ⟨z1, z2, z3, z4, z5, z6⟩ := msgE_zero (HMZ.out m.v (List.mem_map_of_mem hmem))
      have hsz := splitF_len z3
      have htk : (l.take (k + 1)).flatMap (fun m => encMsg m.v) = (l.take k).flatMap (fun m => encMsg m.v) ++ encMsg m.v := by
        rw [List.take_succ_eq_append_getElem hlt, List.flatMap_append, hmk]
        simp
      have Htk := Lib.hid htk
      obtain ⟨num, snd, sec, txt, seen⟩ := m
      simp only [MsgB.v] at c0 c1 c2 c3 c4 z1 z2 z4 z5 z6 hsz
      rw [slen] at z6 hsz
      obtain ⟨num, rfl⟩ := Int.eq_ofNat_of_zero_le z1
      obtain ⟨sec, rfl⟩ := Int.eq_ofNat_of_zero_le z4
      have hnum : num < 1048576 := by omega
      have hsec : sec ≤ 1073741824 := by omega
      have hkl : (k : Int) < (l.length : Int) := by omega
      have hk32 : k ≤ 32 := by omega
      clear hr hcell hmk hmem htk z1 z2 z3 z4 z5
      go_wp2_with fail
      obtain ⟨W2, hW2⟩ : ∃ W2, wr.alloc (.cells #[.int .i64 num, .string snd, .int .i64 sec, .string txt, .bool seen] 57) = W2 := ⟨_, rfl⟩
      have J : BMsg w W2 w.heap.size w1.heap.size wr.heap.size #[.int .i64 nx, .slice (some ⟨B, off, none⟩) l.length cap] #[.int .i64 num, .string snd, .int .i64 sec, .string txt, .bool seen] (acc0 ++ (l.take k).flatMap (fun m => encMsg m.v)) (2 + 5 * k) := by
        rw [← hW2]; exact ⟨hI.out.alloc _, heap_alloc_new wr _, by have := hI.out.iw.lt; omega⟩
      rw [hW2]
      obtain ⟨d0, d1, d2, d3, d4⟩ := J.cells
      clear c0 c1 c2 c3 c4 hW2 hI
      have szs : snd.size ≤ 16777216 := by omega
      have szt : txt.size ≤ 16777216 := by omega
      go_wp2_with (first
        | (go_at_call 51; refine (writerText_any _ (by assumption) J.e.iw (by have := J.e.len; omega)).mono ?_; rintro e w3 ⟨rfl, iw, hkk⟩; replace J := J.step (encText_len _ (by rw [slen]; assumption)) iw hkk; clear d0 d1 d2 d3 d4 iw hkk; obtain ⟨d0, d1, d2, d3, d4⟩ := J.cells)
        | (go_at_call 50; refine (writerNumber_any _ (by omega) J.e.iw (by have := J.e.len; omega)).mono ?_; rintro e w3 ⟨rfl, iw, hkk⟩; replace J := J.step (encNat_len _ (by omega)) iw hkk; clear d0 d1 d2 d3 d4 iw hkk; obtain ⟨d0, d1, d2, d3, d4⟩ := J.cells)
        | (go_at_call 52; refine (writerFlag_any _ J.e.iw (by have := J.e.len; omega)).mono ?_; rintro e w3 ⟨rfl, iw, hkk⟩; replace J := J.step (encFlag_len seen) iw hkk; clear d0 d1 d2 d3 d4 iw hkk; obtain ⟨d0, d1, d2, d3, d4⟩ := J.cells))
      go_round
      case rel =>
        refine ⟨k + 1, by go_num, by omega, ?_⟩
        show BEnc _ _ _ _ _ _ _ _
        have := J.e
        rw [enc_acc] at this
        rw [Htk.out, ← List.append_assoc, show 2 + 5 * (k + 1) = 2 + 5 * k + 1 + 1 + 1 + 1 + 1 by omega]
        exact this
      case measure => simp [intOf] <;> omega
    · have hkl : Hid (k = l.length) := by show k = _; omega
      have I : BEnc w wr w.heap.size w1.heap.size 34 #[.int .i64 nx, .slice p l.length cap] (acc0 ++ l.flatMap (fun m => encMsg m.v)) 200 := by
        have h := hI.out
        rw [hkl.out, List.take_length] at h
        exact ⟨h.a, h.iw, h.m, h.lo, h.lt, Nat.le_trans h.len (Nat.mul_le_mul_right _ (by omega))⟩
      have hkn : ¬ (k : Int) < (l.length : Int) := by omega
      clear hI hlt
      obtain ⟨accF, hF⟩ : ∃ accF, acc0 ++ l.flatMap (fun m => encMsg m.v) = accF := ⟨_, rfl⟩
      have hne : accF ≠ [] := by
        rw [← hF, ← Hacc0.out]
        intro e
        have := congrArg List.length e
        have := encNat_length_pos nx
        simp only [List.length_append, List.length_nil] at *
        omega
      rw [hF] at I
      have HF := Lib.hid hF
      clear hF
      go_wp2_with (go_at_call 53; refine (writerBytes_any I.iw hne (by have := I.len; omega)).mono ?_; rintro e w3 ⟨bv, bg, rfl, hb, hb1, hb2, hbm⟩; have hM9 := I.m.trans' hbm; have hrs := hb; obtain ⟨bp, bc, rfl, _, _⟩ := hb; have hcv := hrs.run_string)
      go_ret2
      refine ⟨?_, hM9⟩
      rw [← HF.out, ← Hacc0.out]
      simp only [encBox, List.length_map, List.flatMap_map, List.nil_append, List.append_assoc]
      rfl
end Go.Proofs.YtlaihnbappfbfaaGreatDoor
