/- Walks of mailbox: Encode of what is no valid mailbox; the model's value. Walks of the model: own. Walks of the model: spoil. An argument that is a raw mailbox, opened. -/
import Derived.Test.YtlaihnbappfbfaaGreatDoorBoxW3
import Derived.Test.YtlaihnbappfbfaaGreatDoorB3
import Derived.Test.YtlaihnbappfbfaaGreatDoorB2
import Derived.RegionTactic
import Derived.ChangeAlike
import Derived.BigRegion
import Derived.Test.YtlaihnbappfbfaaGreatDoorEqM
import Derived.Test.YtlaihnbappfbfaaGreatDoorBoxW9
import Derived.Test.YtlaihnbappfbfaaGreatDoorRowK
import Derived.Lib.SmallJoins
import Derived.Deep.Slices
import Derived.Carry
import Derived.Lib.LaidU8
namespace Go.Proofs.YtlaihnbappfbfaaGreatDoor
open Go.RowKit

set_option maxRecDepth 100000 in
set_option maxHeartbeats 1000000 in
theorem boxEncode_err (next : Int) {l : List MsgB} {v : Value} {w : World} (hv : MsgsAt w v l) (hl : ∀ m ∈ l, m.sender.size ≤ 1000000) (ml : Int) (hm : w.cell? ⟨1, 0, none⟩ = some (.int .i64 ml)) (hbad : boxE ⟨next, l.map MsgB.v⟩ ≠ 0) :
    Calls Tryz.prog 21 #[.agg #[.int .i64 next, v]] w fun e w' => e = .returned (.tuple #[.string ⟨#[]⟩, .int .i64 (boxE ⟨next, l.map MsgB.v⟩)]) ∧ Mods [] w w' := by
  have hM0 : Mods [] w (w.alloc (.cells #[.int .i64 next, v] 34)) := (Mods.refl _ _).alloc _
  have hck := boxCheck_any next (hv.keep hM0) hl ml (hM0.keep hm)
  generalize boxE ⟨next, l.map MsgB.v⟩ = E at *
  obtain ⟨p, cap, rfl, _, _, _⟩ := hv
  have hb : (E != 0) = true := by simpa using hbad
  have HM := Lib.hid hM0
  have HCK := Lib.hid hck
  clear hM0 hck hbad hm
  go_enter Tryz.func21, Tryz.ntmps21
  go_wp2_with (go_at_call 23; refine HCK.out.mono ?_; rintro e w1 ⟨rfl, hm1⟩)
  go_ret2
  exact ⟨rfl, HM.out.trans' hm1⟩

set_option maxRecDepth 100000 in
set_option maxHeartbeats 4000000 in
theorem refValue_ok (next : Int) {l : List MsgB} {v : Value} {w : World} (hv : MsgsAt w v l) (hok : boxE ⟨next, l.map MsgB.v⟩ = 0) :
    Calls Tryz.prog 26 #[.agg #[.int .i64 next, v]] w fun e w' => e = .returned (.string ⟨(encBox ⟨next, l.map MsgB.v⟩).toArray⟩) ∧ Mods [] w w' := by
  obtain ⟨h1, h2, h3, h4⟩ := boxE_zero hok
  have hmz := msgsE_zero h4
  simp only [List.length_map] at h1 h2 h3
  obtain ⟨nx, hnx⟩ := Int.eq_ofNat_of_zero_le h1
  subst hnx
  obtain ⟨p, cap, rfl, hcap, hln, hat⟩ := id hv
  have hM0 : Mods [] w (w.alloc (.cells #[.int .i64 nx, .slice p l.length cap] 34)) := (Mods.refl _ _).alloc _
  have hA0 := heap_alloc_new w (.cells #[.int .i64 nx, .slice p l.length cap] 34)
  have HM0 := Lib.hid hM0
  have HA0 := Lib.hid hA0
  have HAT := Lib.hid hat
  have HMZ := Lib.hid hmz
  have hnx2 : nx ≤ 1048576 := by omega
  have g0 := cell_of_heap hA0 0
  have g1 := cell_of_heap hA0 1
  simp only [List.getElem?_toArray, List.getElem?_cons_zero, List.getElem?_cons_succ] at g0 g1
  clear hM0 hA0 hat hmz h1 h2 h4 hok hv
  obtain ⟨W0, hw0⟩ : ∃ W0, (w.alloc (.cells #[.int .i64 nx, .slice p l.length cap] 34)).heap.size = W0 := ⟨_, rfl⟩
  have HW1 := Lib.hid hw0
  have HW0 : Hid (w.heap.size < W0) := by show w.heap.size < W0; rw [← hw0, World.size_alloc]; omega
  clear hw0
  go_enter Tryz.func26, Tryz.ntmps26
  go_wp2_with (first
    | (go_at_call 49; refine (newWriter_any _).mono ?_; rw [HW1.out]; rintro e w2 ⟨rfl, hw2, hm2, _⟩; have I : BEnc w w2 w.heap.size W0 34 #[.int .i64 nx, .slice p l.length cap] [] 0 := ⟨hm2.heap HA0.out (by simp), hw2, HM0.out.trans' hm2, Nat.le_refl _, HW0.out, by simp⟩; have c0 : w2.cell? ⟨w.heap.size, 0, none⟩ = some (.int .i64 nx) := cell_of_heap I.a 0; have c1 : w2.cell? ⟨w.heap.size, 1, none⟩ = some (.slice p l.length cap) := cell_of_heap I.a 1)
    | (go_at_call 50; refine (writerNumber_any _ (by omega) I.iw (by have := I.len; omega)).mono ?_; rintro e w3 ⟨rfl, iw, hk⟩; replace I := I.step (encNat_len _ (by omega)) iw hk; clear c0 c1; have c0 : w3.cell? ⟨w.heap.size, 0, none⟩ = some (.int .i64 nx) := cell_of_heap I.a 0; have c1 : w3.cell? ⟨w.heap.size, 1, none⟩ = some (.slice p l.length cap) := cell_of_heap I.a 1))
  obtain ⟨acc0, hacc0⟩ : ∃ acc0, ([] ++ encNat nx) ++ encNat l.length = acc0 := ⟨_, rfl⟩
  rw [hacc0] at I
  have Hacc0 := Lib.hid hacc0
  have HI := Lib.hid I
  clear hacc0 I c0 c1 iw hk
  go_loopw [4, 5] (fun i _ wr => ∃ k : Nat, i = .int .i64 k ∧ k ≤ l.length ∧ Hid (BEnc w wr w.heap.size W0 34 #[.int .i64 nx, .slice p l.length cap] (acc0 ++ (l.take k).flatMap (fun m => encMsg m.v)) (2 + 5 * k))) (fun i _ _ => l.length - (intOf i).toNat)
  case atStart => exact ⟨0, rfl, by omega, by show BEnc _ _ _ _ _ _ _ _; simpa using HI.out⟩
  case round =>
    clear HI
    obtain ⟨k, rfl, hk, hI⟩ := hrel
    have b1 : wr.cell? ⟨w.heap.size, 1, none⟩ = some (.slice p l.length cap) := cell_of_heap hI.out.a 1
    by_cases hlt : k < l.length
    · obtain ⟨B, off, rfl, hcell⟩ := HAT.out.resolve_left (by rintro rfl; simp at hlt)
      obtain ⟨m, hmk⟩ : ∃ m, l[k] = m := ⟨_, rfl⟩
      have hr := rangeAt_keep hI.out.m (hcell k hlt)
      rw [hmk] at hr
      obtain ⟨c0, c1, c2, c3, c4⟩ := msg_cells hr
      have hmem : m ∈ l := by rw [← hmk]; exact List.getElem_mem hlt
      obtain ⟨z1, z2, z3, z4, z5, z6⟩ := msgE_zero (HMZ.out m.v (List.mem_map_of_mem hmem))
      have hsz := splitF_len z3
      have htk : (l.take (k + 1)).flatMap (fun m => encMsg m.v) = (l.take k).flatMap (fun m => encMsg m.v) ++ encMsg m.v := by
        rw [List.take_succ_eq_append_getElem hlt, List.flatMap_append, hmk]
        simp
      have Htk := Lib.hid htk
      obtain ⟨num, snd, sec, txt, seen⟩ := m
      simp only [MsgB.v] at c0 c1 c2 c3 c4 z1 z2 z4 z5 z6 hsz
      rw [slen] at z6 hsz
      obtain ⟨num, rfl⟩ := Int.eq_ofNat_of_zero_le z1
      obtain ⟨sec, rfl⟩ := Int.eq_ofNat_of_zero_le z4
      have hnum : num < 1048576 := by omega
      have hsec : sec ≤ 1073741824 := by omega
      have hkl : (k : Int) < (l.length : Int) := by omega
      have hk32 : k ≤ 32 := by omega
      clear hr hcell hmk hmem htk z1 z2 z3 z4 z5
      go_wp2_with fail
      obtain ⟨W2, hW2⟩ : ∃ W2, wr.alloc (.cells #[.int .i64 num, .string snd, .int .i64 sec, .string txt, .bool seen] 57) = W2 := ⟨_, rfl⟩
      have J : BMsg w W2 w.heap.size W0 wr.heap.size #[.int .i64 nx, .slice (some ⟨B, off, none⟩) l.length cap] #[.int .i64 num, .string snd, .int .i64 sec, .string txt, .bool seen] (acc0 ++ (l.take k).flatMap (fun m => encMsg m.v)) (2 + 5 * k) := by
        rw [← hW2]; exact ⟨hI.out.alloc _, heap_alloc_new wr _, by have := hI.out.iw.lt; omega⟩
      rw [hW2]
      obtain ⟨d0, d1, d2, d3, d4⟩ := J.cells
      clear c0 c1 c2 c3 c4 hW2 hI
      have szs : snd.size ≤ 16777216 := by omega
      have szt : txt.size ≤ 16777216 := by omega
      go_wp2_with (first
        | (go_at_call 51; refine (writerText_any _ (by assumption) J.e.iw (by have := J.e.len; omega)).mono ?_; rintro e w3 ⟨rfl, iw, hkk⟩; replace J := J.step (encText_len _ (by rw [slen]; assumption)) iw hkk; clear d0 d1 d2 d3 d4 iw hkk; obtain ⟨d0, d1, d2, d3, d4⟩ := J.cells)
        | (go_at_call 50; refine (writerNumber_any _ (by omega) J.e.iw (by have := J.e.len; omega)).mono ?_; rintro e w3 ⟨rfl, iw, hkk⟩; replace J := J.step (encNat_len _ (by omega)) iw hkk; clear d0 d1 d2 d3 d4 iw hkk; obtain ⟨d0, d1, d2, d3, d4⟩ := J.cells)
        | (go_at_call 52; refine (writerFlag_any _ J.e.iw (by have := J.e.len; omega)).mono ?_; rintro e w3 ⟨rfl, iw, hkk⟩; replace J := J.step (encFlag_len seen) iw hkk; clear d0 d1 d2 d3 d4 iw hkk; obtain ⟨d0, d1, d2, d3, d4⟩ := J.cells))
      go_round
      case rel =>
        refine ⟨k + 1, by go_num, by omega, ?_⟩
        show BEnc _ _ _ _ _ _ _ _
        have := J.e
        rw [enc_acc] at this
        rw [Htk.out, ← List.append_assoc, show 2 + 5 * (k + 1) = 2 + 5 * k + 1 + 1 + 1 + 1 + 1 by omega]
        exact this
      case measure => simp [intOf] <;> omega
    · have hkl : Hid (k = l.length) := by show k = _; omega
      have I : BEnc w wr w.heap.size W0 34 #[.int .i64 nx, .slice p l.length cap] (acc0 ++ l.flatMap (fun m => encMsg m.v)) 200 := by
        have h := hI.out
        rw [hkl.out, List.take_length] at h
        exact ⟨h.a, h.iw, h.m, h.lo, h.lt, Nat.le_trans h.len (Nat.mul_le_mul_right _ (by omega))⟩
      have hkn : ¬ (k : Int) < (l.length : Int) := by omega
      clear hI hlt
      obtain ⟨accF, hF⟩ : ∃ accF, acc0 ++ l.flatMap (fun m => encMsg m.v) = accF := ⟨_, rfl⟩
      have hne : accF ≠ [] := by
        rw [← hF, ← Hacc0.out]
        intro e
        have := congrArg List.length e
        have := encNat_length_pos nx
        simp only [List.length_append, List.length_nil] at *
        omega
      rw [hF] at I
      have HF := Lib.hid hF
      clear hF
      go_wp2_with (go_at_call 53; refine (writerBytes_any I.iw hne (by have := I.len; omega)).mono ?_; rintro e w3 ⟨bv, bg, rfl, hb, hb1, hb2, hbm⟩; have hM9 := I.m.trans' hbm; have hrs := hb; obtain ⟨bp, bc, rfl, _, _⟩ := hb; have hcv := hrs.run_string)
      go_ret
      refine ⟨?_, hM9⟩
      rw [← HF.out, ← Hacc0.out]
      simp only [encBox, List.length_map, List.flatMap_map, List.nil_append, List.append_assoc]
      rfl
end Go.Proofs.YtlaihnbappfbfaaGreatDoor

namespace Go.Proofs.YtlaihnbappfbfaaGreatDoor
open Go.RowKit

/-- The slice value v holds the messages l (an argument's, of whatever length). -/
def MsgsArg (w : World) (v : Value) (l : List MsgB) : Prop :=
  ∃ p cap, v = .slice p l.length cap ∧ l.length ≤ cap ∧ l.length ≤ 9223372036854775807 ∧ (l = [] ∨ ∃ B off, p = some ⟨B, off, none⟩ ∧ ∀ i, (h : i < l.length) → w.rangeAt B (off + i * 5) l[i].cells)
theorem MsgsArg.keep {w w' : World} {v : Value} {l : List MsgB} (h : MsgsArg w v l) (hm : Mods [] w w') : MsgsArg w' v l := by
  obtain ⟨p, cap, rfl, hcap, hl, h⟩ := h
  exact ⟨p, cap, rfl, hcap, hl, h.imp id fun ⟨B, off, e, hc⟩ => ⟨B, off, e, fun i hi => rangeAt_keep hm (hc i hi)⟩⟩
/-- A message with its texts cut. -/
def cutMsg (m : MsgB) : MsgB := ⟨m.number, m.sender.extract 0 (min (m.sender.size : Int) 60).toNat, m.second, m.text.extract 0 (min (m.text.size : Int) 1100).toNat, m.seen⟩
def ownL (l : List MsgB) : List MsgB := (l.take 40).map cutMsg
/-- What holds between two rounds. -/
structure OwI (w wx : World) (P Rb Bb : Nat) (nx : Int) (xv v : Value) (l : List MsgB) : Prop where
  p : wx.heap[P]? = some (.cells #[.int .i64 nx, xv] 33 (0, 0))
  rb : ∃ z, wx.heap[Rb]? = some (.cells z 34 (0, 0)) ∧ z.size = 2
  b : wx.heap[Bb]? = some (.cells #[.int .i64 nx, v] 34 (0, 0))
  own : MsgsOwn wx (Bb + 1) v l
  m : Mods [] w wx
  o1 : w.heap.size ≤ P
  o2 : P < Rb
  o3 : Rb < Bb
theorem OwI.keep {w wx wy : World} {P Rb Bb : Nat} {nx : Int} {xv v : Value} {l : List MsgB} (h : OwI w wx P Rb Bb nx xv v l) (hm : Mods [] wx wy) : OwI w wy P Rb Bb nx xv v l := by
  obtain ⟨z, hz, hzs⟩ := h.rb
  exact ⟨hm.heap h.p (by simp), ⟨z, hm.heap hz (by simp), hzs⟩, hm.heap h.b (by simp), h.own.mods hm (by simp), h.m.trans' hm, h.o1, h.o2, h.o3⟩
theorem OwI.add {w wx wy : World} {P Rb Bb : Nat} {nx : Int} {xv v v' : Value} {l : List MsgB} {m : MsgB} (h : OwI w wx P Rb Bb nx xv v l) {o : Obj}
    (hown : wy.ownsRow (Bb + 1) 57 5 v' (l.length + 1) (l.flatMap MsgB.cells ++ m.cells)) (hg : (wx.alloc o).grownBy wy v.ownBlock) : OwI w (wy.setCell ⟨Bb, 1, none⟩ v') P Rb Bb nx xv v' (l ++ [m]) := by
  have h1 := h.o1
  have h2 := h.o2
  have h3 := h.o3
  have hlow : ∀ k, v.ownBlock = some k → Bb + 1 ≤ k := fun k hk => (h.own.lt k hk).1
  have hmy : Mods v.ownBlock.toList wx wy := ((Mods.refl _ wx).alloc o).grown hg (fun k hk => .inl (by rw [hk]; simp))
  have hno : ∀ k, k < Bb + 1 → k ∉ v.ownBlock.toList := fun k hk hc => by
    have : v.ownBlock = some k := by simpa [eq_comm] using hc
    have := hlow k this
    omega
  obtain ⟨z, hz, hzs⟩ := h.rb
  have hby := hmy.heap h.b (hno _ (by omega))
  have hm2 : Mods [Bb] wy (wy.setCell ⟨Bb, 1, none⟩ v') := (Mods.refl _ _).setCell (.inl (by simp)) _
  refine ⟨hm2.heap (hmy.heap h.p (hno _ (by omega))) (by simp; omega), ⟨z, hm2.heap (hmy.heap hz (hno _ (by omega))) (by simp; omega), hzs⟩, ?_, ?_, ?_, h1, h2, h3⟩
  · rw [heap_setCell_same hby]; rfl
  · have hown' : MsgsOwn wy (Bb + 1) v' (l ++ [m]) := by
      unfold MsgsOwn
      rw [List.length_append, List.flatMap_append]
      simpa using hown
    exact hown'.mods hm2 (fun k hk => by
      obtain rfl := List.mem_singleton.1 hk
      exact fun e => by have := (hown'.lt _ e).1; omega)
  · exact (h.m.trans hmy (fun i hi => .inr (by
      have : v.ownBlock = some i := by simpa [eq_comm] using hi
      have := hlow i this
      omega))).setCell (.inr (by show w.heap.size ≤ Bb; omega)) _

set_option maxRecDepth 100000 in
set_option maxHeartbeats 4000000 in
theorem own_any {w : World} (nx : Int) {xv : Value} {l : List MsgB} (hv : MsgsArg w xv l) (hsz : ∀ m ∈ l, m.sender.size ≤ 9223372036854775807 ∧ m.text.size ≤ 9223372036854775807) :
    Calls Tryz.prog 19 #[.agg #[.int .i64 nx, xv]] w fun e w' => ∃ v, e = .returned (.agg #[.int .i64 nx, v]) ∧ MsgsOwn w' w.heap.size v (ownL l) ∧ Mods [] w w' := by
  obtain ⟨p, cap, rfl, hcap, hln, hat⟩ := id hv
  have HAT := Lib.hid hat
  have HSZ := Lib.hid hsz
  obtain ⟨i0, hi, hz0, hz1, hz2⟩ := info_parts infoMsg
  have hI : OwI w (((w.alloc (.cells #[.int .i64 nx, .slice p l.length cap] 33)).alloc (.cells #[.int .i64 0, .slice none 0 0] 34)).alloc (.cells #[.int .i64 nx, .slice none 0 0] 34)) w.heap.size (w.heap.size + 1) (w.heap.size + 1 + 1) nx (.slice p l.length cap) (.slice none 0 0) [] := by
    have e1 := heap_alloc_new (w.alloc (.cells #[.int .i64 nx, .slice p l.length cap] 33)) (.cells #[.int .i64 0, .slice none 0 0] 34)
    have e2 := heap_alloc_new ((w.alloc (.cells #[.int .i64 nx, .slice p l.length cap] 33)).alloc (.cells #[.int .i64 0, .slice none 0 0] 34)) (.cells #[.int .i64 nx, .slice none 0 0] 34)
    simp only [World.size_alloc] at e1 e2
    exact ⟨heap_alloc_old (heap_alloc_old (heap_alloc_new w _)), ⟨_, heap_alloc_old e1, rfl⟩, e2, World.ownsRow_nil _ _ _ _, (((Mods.refl [] w).alloc _).alloc _).alloc _, by omega, by omega, by omega⟩
  have HI := Lib.hid hI
  clear hv hat hI hsz
  go_enter Tryz.func19, Tryz.ntmps19
  go_wp2
  go_loopw [4, 5] (fun i _ wr => ∃ (k : Nat) (v : Value), i = .int .i64 k ∧ k ≤ 40 ∧ k ≤ l.length ∧ Hid (OwI w wr w.heap.size (w.heap.size + 1) (w.heap.size + 1 + 1) nx (.slice p l.length cap) v ((l.take k).map cutMsg))) (fun i _ _ => 40 - (intOf i).toNat)
  case atStart => exact ⟨0, _, rfl, by omega, by omega, HI.out⟩
  case round =>
    clear HI
    obtain ⟨k, v, rfl, hk, hkl, hI⟩ := hrel
    have hll : ((l.take k).map cutMsg).length = k := by rw [List.length_map, List.length_take]; omega
    have hfin : k = l.length ∨ k = 40 → Hid ((l.take k).map cutMsg = ownL l) := by
      intro h
      show _ = _
      unfold ownL
      rcases h with rfl | rfl
      · rw [List.take_of_length_le (Nat.le_refl _), List.take_of_length_le hk]
      · rfl
    have htk0 : ∀ h : k < l.length, Hid ((l.take (k + 1)).map cutMsg = (l.take k).map cutMsg ++ [cutMsg l[k]]) := by
      intro h; show _ = _; rw [List.take_succ_eq_append_getElem h, List.map_append]; rfl
    generalize (l.take k).map cutMsg = L0 at *
    obtain ⟨va, vn, vc, rfl⟩ := owns_shape hI.out.own
    have q0 := cell_of_heap hI.out.p 0
    have q1 := cell_of_heap hI.out.p 1
    have b0 := cell_of_heap hI.out.b 0
    have b1 := cell_of_heap hI.out.b 1
    try simp only [List.getElem?_toArray, List.getElem?_cons_zero, List.getElem?_cons_succ] at q0 q1 b0 b1
    by_cases hlt : k < l.length ∧ k < 40
    · obtain ⟨hlt, h40⟩ := hlt
      obtain ⟨B, off, rfl, hcell⟩ := HAT.out.resolve_left (by rintro rfl; simp at hlt)
      obtain ⟨m, hmk⟩ : ∃ m, l[k] = m := ⟨_, rfl⟩
      have hr := rangeAt_keep hI.out.m (hcell k hlt)
      rw [hmk] at hr
      obtain ⟨c0, c1, c2, c3, c4⟩ := msg_cells hr
      have hmem : m ∈ l := by rw [← hmk]; exact List.getElem_mem hlt
      obtain ⟨hs1, hs2⟩ := HSZ.out m hmem
      have htk := htk0 hlt
      rw [hmk] at htk
      have hcut : Hid (cutMsg m = ⟨m.number, m.sender.extract 0 (min (m.sender.size : Int) 60).toNat, m.second, m.text.extract 0 (min (m.text.size : Int) 1100).toNat, m.seen⟩) := rfl
      obtain ⟨num, snd, sec, txt, seen⟩ := m
      simp only at c0 c1 c2 c3 c4 hs1 hs2 hcut
      have hkl1 : (k : Int) < (l.length : Int) := by omega
      have hkl2 : (k : Int) < 40 := by omega
      clear hr hcell hmk hmem hfin htk0
      go_wp2
      go_region
      have hM2 : Mods [] wr (wr.alloc (.cells #[.int .i64 num, .string (snd.extract 0 (min (snd.size : Int) 60).toNat), .int .i64 sec, .string (txt.extract 0 (min (txt.size : Int) 1100).toNat), .bool seen] 57)).drew := ((Mods.refl _ _).alloc _).drew
      have hX : (wr.alloc (.cells #[.int .i64 num, .string (snd.extract 0 (min (snd.size : Int) 60).toNat), .int .i64 sec, .string (txt.extract 0 (min (txt.size : Int) 1100).toNat), .bool seen] 57)).drew.heap[wr.heap.size]? = some (.cells #[.int .i64 num, .string (snd.extract 0 (min (snd.size : Int) 60).toNat), .int .i64 sec, .string (txt.extract 0 (min (txt.size : Int) 1100).toNat), .bool seen] 57 (0, 0)) := heap_alloc_new wr _
      generalize (wr.alloc (.cells #[.int .i64 num, .string (snd.extract 0 (min (snd.size : Int) 60).toNat), .int .i64 sec, .string (txt.extract 0 (min (txt.size : Int) 1100).toNat), .bool seen] 57)).drew = W2 at *
      generalize snd.extract 0 (min (snd.size : Int) 60).toNat = snd2 at *
      generalize txt.extract 0 (min (txt.size : Int) 1100).toNat = txt2 at *
      have I2 := hI.out.keep hM2
      have e0 := cell_of_heap hX 0
      have e1 := cell_of_heap hX 1
      have e2 := cell_of_heap hX 2
      have e3 := cell_of_heap hX 3
      have e4 := cell_of_heap hX 4
      try simp only [List.getElem?_toArray, List.getElem?_cons_zero, List.getElem?_cons_succ] at e0 e1 e2 e3 e4
      replace b0 := hM2.keep b0
      replace b1 := hM2.keep b1
      have kf := frozen_of_heap I2.b 1
      have Bl : w.heap.size + 1 + 1 < W2.heap.size := lt_of_heap I2.b
      have hne : some (w.heap.size + 1 + 1) ≠ (Value.slice va vn vc).ownBlock := fun e => by have := (I2.own.lt _ e.symm).1; omega
      have HLL := Lib.hid hll
      have HJ := Lib.hid I2
      clear q0 q1 c0 c1 c2 c3 c4 hI I2 hX hM2 hll
      go_wp2_with (at_builtin; refine wpList_append_own _ rfl _ _ 31 rfl (w.heap.size + 1 + 1 + 1) 57 i0 _ 5 56 Tryz.underlying31 hi hz0 hz1 hz2 rfl (by decide) _ _ _ rfl (World.ownsRow.alloc HJ.out.own _) ⟨W2.heap.size, 0, none⟩ 1 1 [_, _, _, _, _] rfl rfl (World.news_of_block (heap_alloc_new W2 (.cells #[_, _, _, _, _] _))) ?c1 ?c2 ?c3 ?c4 ?_)
      case c1 => intro u hu; simp at hu; rcases hu with rfl | rfl | rfl | rfl | rfl <;> rfl
      case c2 => rw [HLL.out]; unfold maxLen; omega
      case c3 => rw [HLL.out]; omega
      case c4 => simp; omega
      intro v' w10 hown hgr _
      have kc : w10.cell? ⟨w.heap.size + 1 + 1, 1, none⟩ = some (.slice va vn vc) := (hgr.cell_far ⟨w.heap.size + 1 + 1, 1, none⟩ (by simp; omega) hne).trans (Lib.cell?_alloc_some _ b1)
      have kfr : w10.frozen? ⟨w.heap.size + 1 + 1, 1, none⟩ = false := (hgr.frozen_far ⟨w.heap.size + 1 + 1, 1, none⟩ (by simp; omega) hne).trans ((((Mods.refl [] W2).alloc _).frozen (p := ⟨w.heap.size + 1 + 1, 1, none⟩) Bl (by simp)).trans kf)
      obtain ⟨va', vn', vc', rfl⟩ := owns_shape hown
      have HA := Lib.hid (HJ.out.add (m := ⟨num, snd2, sec, txt2, seen⟩) hown hgr)
      clear hown hgr e0 e1 e2 e3 e4 b0 b1 kf HJ
      go_wp2
      go_round
      case rel =>
        refine ⟨k + 1, .slice va' vn' vc', by go_num, by omega, by omega, ?_⟩
        show OwI _ _ _ _ _ _ _ _ _
        rw [htk.out, hcut.out]
        exact HA.out
      case measure => simp [intOf] <;> omega
    · have hfn := hfin (by omega)
      obtain ⟨z, hz, hzs⟩ := hI.out.rb
      have HZ := Lib.hid hz
      have HZS := Lib.hid hzs
      have hbs : Hid ((Tryz.prog.info? 34).map (·.size) = some 2) := by show _ = _; kernel_rfl
      have hor : l.length ≤ k ∨ (k < l.length ∧ 40 ≤ k) := by omega
      clear hlt hz hzs hfin htk0 hll
      rcases hor with h1 | ⟨h1, h2⟩
      · have h1' : ¬ (k : Int) < (l.length : Int) := by omega
        go_wp2_with (refine wpList_store_row rfl 34 _ _ rfl (w.heap.size + 1) #[.int .i64 nx, .slice va vn vc] rfl rfl _ _ HZ.out hbs.out HZS.out (box_one _ _ _ _) ?_)
        refine bodyPost_ret (results_cell_row Tryz.results19 _ _ (w.heap.size + 1) _ #[.int .i64 nx, .slice va vn vc] _ _ rfl (setRow_heap _ _ _ _ _ _ HZ.out) Tryz.underlying34 rfl hbs.out) rfl ?_
        refine ⟨_, rfl, ?_, mods_setRow hI.out.m (.inr (by omega))⟩
        rw [← hfn.out]
        exact World.ownsRow.mono (own_setRow hI.out.own HZ.out (by decide)) (by omega)
      · have h1' : (k : Int) < (l.length : Int) := by omega
        have h2' : ¬ (k : Int) < 40 := by omega
        go_wp2_with (refine wpList_store_row rfl 34 _ _ rfl (w.heap.size + 1) #[.int .i64 nx, .slice va vn vc] rfl rfl _ _ HZ.out hbs.out HZS.out (box_one _ _ _ _) ?_)
        refine bodyPost_ret (results_cell_row Tryz.results19 _ _ (w.heap.size + 1) _ #[.int .i64 nx, .slice va vn vc] _ _ rfl (setRow_heap _ _ _ _ _ _ HZ.out) Tryz.underlying34 rfl hbs.out) rfl ?_
        refine ⟨_, rfl, ?_, mods_setRow hI.out.m (.inr (by omega))⟩
        rw [← hfn.out]
        exact World.ownsRow.mono (own_setRow hI.out.own HZ.out (by decide)) (by omega)
end Go.Proofs.YtlaihnbappfbfaaGreatDoor

namespace Go.Proofs.YtlaihnbappfbfaaGreatDoor
open Go.RowKit

theorem flat_set (q : List MsgB) (i j : Nat) (hj : j < 5) (u : Value) (m m' : MsgB) (hq : q[i]? = some m) (hm : m.cells.set j u = m'.cells) : (q.flatMap MsgB.cells).set (i * 5 + j) u = (q.set i m').flatMap MsgB.cells := by
  induction q generalizing i with
  | nil => simp at hq
  | cons x r ih =>
    have hx : x.cells.length = 5 := rfl
    cases i with
    | zero =>
      simp only [List.getElem?_cons_zero, Option.some.injEq] at hq
      subst hq
      simp only [List.set_cons_zero, List.flatMap_cons]
      rw [Nat.zero_mul, Nat.zero_add, List.set_append_left _ _ (by omega), hm]
    | succ i =>
      simp only [List.getElem?_cons_succ] at hq
      simp only [List.set_cons_succ, List.flatMap_cons]
      rw [List.set_append_right (h := by omega), hx, show (i + 1) * 5 + j - 5 = i * 5 + j by omega, ih i hq]
theorem eqMsgs_set {q : List MsgB} {i : Nat} {m m' : MsgB} (hq : q[i]? = some m) (h : m' ≠ m) : eqMsgs q (q.set i m') = false := by
  cases he : eqMsgs q (q.set i m') with
  | false => rfl
  | true =>
    have e := (eqMsgs_iff _ _).1 he
    have hi : i < q.length := (List.getElem?_eq_some_iff.1 hq).1
    have : (q.set i m')[i]? = some m := by rw [← e]; exact hq
    rw [List.getElem?_set_self hi] at this
    exact absurd (Option.some.inj this) h
/-- What spoil leaves. -/
def SpoilPost (C : Nat) (n : Int) (v : Value) (L : List MsgB) (w : World) (e : Ending) (w' : World) : Prop :=
  ∃ d n' v' l', e = .returned (.bool d) ∧ w'.heap[C]? = some (.cells #[.int .i64 n', v'] 34 (0, 0)) ∧ MsgsAt w' v' l' ∧ (n == n' && eqMsgs L l') = !d ∧ Mods (C :: v.ownBlock.toList) w w'

theorem wrap64_ne (x : Int) : wrap64 (x + 1) ≠ x := by unfold wrap64; omega
theorem beq_wrap (x : Int) : (x == wrap64 (x + 1)) = false := by
  have := wrap64_ne x
  simp only [beq_eq_false_iff_ne, ne_eq]
  exact fun e => this e.symm
theorem more_ne (s : ByteArray) : s ++ (⟨#[120]⟩ : ByteArray) ≠ s := by
  intro e
  have := congrArg ByteArray.size e
  rw [ByteArray.size_append] at this
  have h : (⟨#[120]⟩ : ByteArray).size = 1 := rfl
  omega
/-- The first message is cut off. -/
theorem spoil_tail {w : World} {C base g cap nq : Nat} {a : Option Addr} {n : Int} {L : List MsgB} {c2 : Nat} (hC : w.heap[C]? = some (.cells #[.int .i64 n, .slice (some ⟨g, 0, none⟩) L.length cap] 34 (0, 0))) (ho : MsgsOwn w base (.slice (some ⟨g, 0, none⟩) L.length cap) L) (hL : L.length ≤ 40) (hL0 : 0 < L.length)
    (ha : L.length = 1 ∨ a = some ⟨g, 5, none⟩) (hc2 : L.length - 1 ≤ c2) : SpoilPost C n (.slice (some ⟨g, 0, none⟩) L.length cap) L w (.returned (.bool true)) ((w.drewN nq).setCell ⟨C, 1, none⟩ (.slice a (L.length - 1) c2)) := by
  have hd : Mods [] w (w.drewN nq) := (Mods.refl _ _).drewN _
  have hm : Mods [C] (w.drewN nq) ((w.drewN nq).setCell ⟨C, 1, none⟩ (.slice a (L.length - 1) c2)) := (Mods.refl _ _).setCell (.inl (by simp)) _
  have ho2 := (ho.mods hd (by simp)).mods hm (fun k hk => by
    obtain rfl := List.mem_singleton.1 hk
    exact own_ne ho hC)
  obtain ⟨p, cp, e, _, _, hat⟩ := ho2.at (by omega)
  simp only [Value.slice.injEq] at e
  obtain ⟨rfl, _, rfl⟩ := e
  obtain ⟨B, off, e, hcell⟩ := hat.resolve_left (by rintro rfl; simp at hL0)
  simp only [Option.some.injEq, Addr.mk.injEq, and_true] at e
  obtain ⟨rfl, rfl⟩ := e
  refine ⟨true, n, _, L.tail, rfl, ?_, ⟨a, c2, by rw [List.length_tail], by rw [List.length_tail]; omega, by rw [List.length_tail]; omega, ?_⟩, ?_, (hd.weaken (by simp)).trans hm (by simp)⟩
  · rw [heap_setCell_same (hd.heap hC (by simp))]; rfl
  · rcases ha with h1 | rfl
    · exact .inl (List.length_eq_zero_iff.1 (by rw [List.length_tail]; omega))
    · refine .inr ⟨g, 5, rfl, fun i hi => ?_⟩
      rw [List.length_tail] at hi
      have := hcell (i + 1) (by omega)
      rw [List.getElem_tail]
      rw [show 5 + i * 5 = 0 + (i + 1) * 5 by omega]
      exact this
  · rw [eqMsgs_ne (by rw [List.length_tail]; omega)]; simp
/-- One field of one message was changed. -/
theorem spoil_done {w : World} {C base g cap i j nq : Nat} {n : Int} {L : List MsgB} {u : Value} {m m' : MsgB} (hC : w.heap[C]? = some (.cells #[.int .i64 n, .slice (some ⟨g, 0, none⟩) L.length cap] 34 (0, 0))) (ho : MsgsOwn w base (.slice (some ⟨g, 0, none⟩) L.length cap) L) (hL : L.length ≤ 40)
    (hj : j < 5) (hq : L[i]? = some m) (hm : m.cells.set j u = m'.cells) (hne : m' ≠ m) : SpoilPost C n (.slice (some ⟨g, 0, none⟩) L.length cap) L w (.returned (.bool true)) ((w.drewN nq).setCell ⟨g, i * 5 + j, none⟩ u) := by
  have hd : Mods [] w (w.drewN nq) := (Mods.refl _ _).drewN _
  have hgC : g ≠ C := fun e => own_ne ho hC (by rw [← e]; rfl)
  have ho2 := ho.mods hd (by simp)
  have hs := (World.ownsRow.stored ho2 (i * 5 + j) u).1
  rw [flat_set L i j hj u m m' hq hm] at hs
  have ho3 : MsgsOwn ((w.drewN nq).setCell ⟨g, i * 5 + j, none⟩ u) base (.slice (some ⟨g, 0, none⟩) L.length cap) (L.set i m') := by
    unfold MsgsOwn
    rw [List.length_set]
    exact hs
  refine ⟨true, n, _, L.set i m', rfl, ?_, ho3.at (by rw [List.length_set]; omega), ?_, ?_⟩
  · rw [heap_setCell_ne (fun e => hgC e.symm)]; exact hd.heap hC (by simp)
  · rw [eqMsgs_set hq hne]; simp
  · exact (hd.weaken (by simp)).setCell (.inl (by simp [Value.ownBlock])) _

set_option maxRecDepth 100000 in
set_option maxHeartbeats 1000000 in
theorem spoil_1 {w : World} {C base : Nat} {n : Int} {v : Value} {L : List MsgB} (hC : w.heap[C]? = some (.cells #[.int .i64 n, v] 34 (0, 0))) (ho : MsgsOwn w base v L) (hL : L.length ≤ 40) (c : Nat) (hc : c < 256) (hr : c % 8 = 1) :
    Calls Tryz.prog 22 #[.pointer (some ⟨C, 0, none⟩), .int .u8 c] w (SpoilPost C n v L w) := by
  have hr1 : (c : Int) % 8 = 1 := by omega
  have c0 := cell_of_heap hC 0
  have f0 := frozen_of_heap hC 0
  try simp only [List.getElem?_toArray, List.getElem?_cons_zero] at c0
  have HC := Lib.hid hC
  have HO := Lib.hid ho
  clear hr hC ho
  go_enter Tryz.func22, Tryz.ntmps22
  go_wp2
  go_ret
  have hm : Mods [C] w (w.setCell ⟨C, 0, none⟩ (.int .i64 (wrap64 (n + 1)))) := (Mods.refl _ _).setCell (.inl (by simp)) _
  refine ⟨true, wrap64 (n + 1), v, L, rfl, ?_, (HO.out.mods hm ?_).at (by omega), ?_, hm.weaken (by simp)⟩
  · rw [heap_setCell_same HC.out]; rfl
  · intro k hk
    obtain rfl := List.mem_singleton.1 hk
    exact own_ne HO.out HC.out
  · rw [beq_wrap]; rfl

set_option maxRecDepth 100000 in
set_option maxHeartbeats 1000000 in
theorem spoil_nil {w : World} {C base : Nat} {n : Int} {v : Value} (hC : w.heap[C]? = some (.cells #[.int .i64 n, v] 34 (0, 0))) (ho : MsgsOwn w base v []) (c : Nat) (hc : c < 256) (hr : c % 8 ≠ 1) :
    Calls Tryz.prog 22 #[.pointer (some ⟨C, 0, none⟩), .int .u8 c] w (SpoilPost C n v [] w) := by
  have hr1 : ((c : Int) % 8 == 1) = false := by simp; omega
  obtain ⟨va, vn, vc, rfl⟩ := owns_shape ho
  obtain rfl : vn = 0 := own_len ho
  have c1 := cell_of_heap hC 1
  try simp only [List.getElem?_toArray, List.getElem?_cons_zero, List.getElem?_cons_succ] at c1
  have HC := Lib.hid hC
  have HO := Lib.hid ho
  clear hr hC ho
  go_enter Tryz.func22, Tryz.ntmps22
  go_wp2
  go_ret
  exact ⟨false, n, _, [], rfl, HC.out, HO.out.at (by simp), by simp [eqMsgs], (Mods.refl [] w).weaken (by simp)⟩

set_option maxRecDepth 100000 in
set_option maxHeartbeats 1000000 in
theorem spoil_2 {w : World} {C base : Nat} {n : Int} {v : Value} {L : List MsgB} (hC : w.heap[C]? = some (.cells #[.int .i64 n, v] 34 (0, 0))) (ho : MsgsOwn w base v L) (hL : L.length ≤ 40) (hL0 : 0 < L.length) (hsz : ∀ m ∈ L, m.sender.size ≤ 60 ∧ m.text.size ≤ 1100) (c : Nat) (hc : c < 256) (hr : c % 8 = 2) :
    Calls Tryz.prog 22 #[.pointer (some ⟨C, 0, none⟩), .int .u8 c] w (SpoilPost C n v L w) := by
  have hr1 : (c : Int) % 8 = 2 := by omega
  have c1 := cell_of_heap hC 1
  have f1 := frozen_of_heap hC 1
  try simp only [List.getElem?_toArray, List.getElem?_cons_zero, List.getElem?_cons_succ] at c1
  obtain ⟨g, cap, rfl⟩ : ∃ g cap, v = .slice (some ⟨g, 0, none⟩) L.length cap := by
    obtain ⟨_, ⟨e, e2⟩ | ⟨g', cap, cur, e, _⟩⟩ := id ho
    · omega
    · exact ⟨g', cap, e⟩
  obtain ⟨i, hi⟩ : ∃ i, c / 8 % L.length = i := ⟨_, rfl⟩
  have hil : i < L.length := by rw [← hi]; exact Nat.mod_lt _ hL0
  have hil' : (i : Int) < (L.length : Int) := by omega
  have hL0' : ((L.length : Int) == 0) = false := by simp; rintro rfl; simp at hL0
  have hLp : (0 : Int) < (L.length : Int) := by omega
  have hq : L[i]? = some L[i] := List.getElem?_eq_getElem hil
  obtain ⟨m, hm⟩ : ∃ m, L[i] = m := ⟨_, rfl⟩
  rw [hm] at hq
  obtain ⟨hz1, hz2⟩ := hsz m (by rw [← hm]; exact List.getElem_mem hil)
  have hcell := fun j (hj : j < 5) => (World.ownsRow.cellAt ho (i * 5 + j) (by omega)).trans (flat5 _ i j hj hq)
  have hcap := ho.2.resolve_left (by rintro ⟨e, _⟩; cases e)
  have hix : (c : Int) / 8 % (L.length : Int) = (i : Int) := by rw [← hi]; simp
  have rj := hcell 0 (by omega)
  have fr := own_frozen ho (i * 5 + 0)
  simp only [MsgB.cells, List.getElem?_cons_zero, Nat.add_zero] at rj
  simp only [Nat.add_zero] at fr
  have HC := Lib.hid hC
  have HO := Lib.hid ho
  have HQ := Lib.hid hq
  clear hr hC ho hi hcell hm hq hcap hsz
  go_enter Tryz.func22, Tryz.ntmps22
  go_wp2
  go_quiet (fail)
  go_wp2
  go_ret
  exact spoil_done (j := 0) (u := .int .i64 (wrap64 (m.number + 1))) (m' := ⟨wrap64 (m.number + 1), m.sender, m.second, m.text, m.seen⟩) HC.out HO.out hL (by omega) HQ.out rfl (fun e => wrap64_ne _ (congrArg MsgB.number e))

set_option maxRecDepth 100000 in
set_option maxHeartbeats 1000000 in
theorem spoil_3 {w : World} {C base : Nat} {n : Int} {v : Value} {L : List MsgB} (hC : w.heap[C]? = some (.cells #[.int .i64 n, v] 34 (0, 0))) (ho : MsgsOwn w base v L) (hL : L.length ≤ 40) (hL0 : 0 < L.length) (hsz : ∀ m ∈ L, m.sender.size ≤ 60 ∧ m.text.size ≤ 1100) (c : Nat) (hc : c < 256) (hr : c % 8 = 3) :
    Calls Tryz.prog 22 #[.pointer (some ⟨C, 0, none⟩), .int .u8 c] w (SpoilPost C n v L w) := by
  have hr1 : (c : Int) % 8 = 3 := by omega
  have c1 := cell_of_heap hC 1
  have f1 := frozen_of_heap hC 1
  try simp only [List.getElem?_toArray, List.getElem?_cons_zero, List.getElem?_cons_succ] at c1
  obtain ⟨g, cap, rfl⟩ : ∃ g cap, v = .slice (some ⟨g, 0, none⟩) L.length cap := by
    obtain ⟨_, ⟨e, e2⟩ | ⟨g', cap, cur, e, _⟩⟩ := id ho
    · omega
    · exact ⟨g', cap, e⟩
  obtain ⟨i, hi⟩ : ∃ i, c / 8 % L.length = i := ⟨_, rfl⟩
  have hil : i < L.length := by rw [← hi]; exact Nat.mod_lt _ hL0
  have hil' : (i : Int) < (L.length : Int) := by omega
  have hL0' : ((L.length : Int) == 0) = false := by simp; rintro rfl; simp at hL0
  have hLp : (0 : Int) < (L.length : Int) := by omega
  have hq : L[i]? = some L[i] := List.getElem?_eq_getElem hil
  obtain ⟨m, hm⟩ : ∃ m, L[i] = m := ⟨_, rfl⟩
  rw [hm] at hq
  obtain ⟨hz1, hz2⟩ := hsz m (by rw [← hm]; exact List.getElem_mem hil)
  have hcell := fun j (hj : j < 5) => (World.ownsRow.cellAt ho (i * 5 + j) (by omega)).trans (flat5 _ i j hj hq)
  have hcap := ho.2.resolve_left (by rintro ⟨e, _⟩; cases e)
  have hix : (c : Int) / 8 % (L.length : Int) = (i : Int) := by rw [← hi]; simp
  have rj := hcell 1 (by omega)
  have fr := own_frozen ho (i * 5 + 1)
  simp only [MsgB.cells, List.getElem?_cons_zero, List.getElem?_cons_succ] at rj
  skip
  have HC := Lib.hid hC
  have HO := Lib.hid ho
  have HQ := Lib.hid hq
  clear hr hC ho hi hcell hm hq hcap hsz
  go_enter Tryz.func22, Tryz.ntmps22
  go_wp2
  go_quiet (fail)
  go_wp2
  go_ret
  exact spoil_done (j := 1) (u := .string (m.sender ++ ⟨#[120]⟩)) (m' := ⟨m.number, m.sender ++ ⟨#[120]⟩, m.second, m.text, m.seen⟩) HC.out HO.out hL (by omega) HQ.out rfl (fun e => more_ne _ (congrArg MsgB.sender e))

set_option maxRecDepth 100000 in
set_option maxHeartbeats 1000000 in
theorem spoil_4 {w : World} {C base : Nat} {n : Int} {v : Value} {L : List MsgB} (hC : w.heap[C]? = some (.cells #[.int .i64 n, v] 34 (0, 0))) (ho : MsgsOwn w base v L) (hL : L.length ≤ 40) (hL0 : 0 < L.length) (hsz : ∀ m ∈ L, m.sender.size ≤ 60 ∧ m.text.size ≤ 1100) (c : Nat) (hc : c < 256) (hr : c % 8 = 4) :
    Calls Tryz.prog 22 #[.pointer (some ⟨C, 0, none⟩), .int .u8 c] w (SpoilPost C n v L w) := by
  have hr1 : (c : Int) % 8 = 4 := by omega
  have c1 := cell_of_heap hC 1
  have f1 := frozen_of_heap hC 1
  try simp only [List.getElem?_toArray, List.getElem?_cons_zero, List.getElem?_cons_succ] at c1
  obtain ⟨g, cap, rfl⟩ : ∃ g cap, v = .slice (some ⟨g, 0, none⟩) L.length cap := by
    obtain ⟨_, ⟨e, e2⟩ | ⟨g', cap, cur, e, _⟩⟩ := id ho
    · omega
    · exact ⟨g', cap, e⟩
  obtain ⟨i, hi⟩ : ∃ i, c / 8 % L.length = i := ⟨_, rfl⟩
  have hil : i < L.length := by rw [← hi]; exact Nat.mod_lt _ hL0
  have hil' : (i : Int) < (L.length : Int) := by omega
  have hL0' : ((L.length : Int) == 0) = false := by simp; rintro rfl; simp at hL0
  have hLp : (0 : Int) < (L.length : Int) := by omega
  have hq : L[i]? = some L[i] := List.getElem?_eq_getElem hil
  obtain ⟨m, hm⟩ : ∃ m, L[i] = m := ⟨_, rfl⟩
  rw [hm] at hq
  obtain ⟨hz1, hz2⟩ := hsz m (by rw [← hm]; exact List.getElem_mem hil)
  have hcell := fun j (hj : j < 5) => (World.ownsRow.cellAt ho (i * 5 + j) (by omega)).trans (flat5 _ i j hj hq)
  have hcap := ho.2.resolve_left (by rintro ⟨e, _⟩; cases e)
  have hix : (c : Int) / 8 % (L.length : Int) = (i : Int) := by rw [← hi]; simp
  have rj := hcell 2 (by omega)
  have fr := own_frozen ho (i * 5 + 2)
  simp only [MsgB.cells, List.getElem?_cons_zero, List.getElem?_cons_succ] at rj
  skip
  have HC := Lib.hid hC
  have HO := Lib.hid ho
  have HQ := Lib.hid hq
  clear hr hC ho hi hcell hm hq hcap hsz
  go_enter Tryz.func22, Tryz.ntmps22
  go_wp2
  go_quiet (fail)
  go_wp2
  go_ret
  exact spoil_done (j := 2) (u := .int .i64 (wrap64 (m.second + 1))) (m' := ⟨m.number, m.sender, wrap64 (m.second + 1), m.text, m.seen⟩) HC.out HO.out hL (by omega) HQ.out rfl (fun e => wrap64_ne _ (congrArg MsgB.second e))

set_option maxRecDepth 100000 in
set_option maxHeartbeats 1000000 in
theorem spoil_5 {w : World} {C base : Nat} {n : Int} {v : Value} {L : List MsgB} (hC : w.heap[C]? = some (.cells #[.int .i64 n, v] 34 (0, 0))) (ho : MsgsOwn w base v L) (hL : L.length ≤ 40) (hL0 : 0 < L.length) (hsz : ∀ m ∈ L, m.sender.size ≤ 60 ∧ m.text.size ≤ 1100) (c : Nat) (hc : c < 256) (hr : c % 8 = 5) :
    Calls Tryz.prog 22 #[.pointer (some ⟨C, 0, none⟩), .int .u8 c] w (SpoilPost C n v L w) := by
  have hr1 : (c : Int) % 8 = 5 := by omega
  have c1 := cell_of_heap hC 1
  have f1 := frozen_of_heap hC 1
  try simp only [List.getElem?_toArray, List.getElem?_cons_zero, List.getElem?_cons_succ] at c1
  obtain ⟨g, cap, rfl⟩ : ∃ g cap, v = .slice (some ⟨g, 0, none⟩) L.length cap := by
    obtain ⟨_, ⟨e, e2⟩ | ⟨g', cap, cur, e, _⟩⟩ := id ho
    · omega
    · exact ⟨g', cap, e⟩
  obtain ⟨i, hi⟩ : ∃ i, c / 8 % L.length = i := ⟨_, rfl⟩
  have hil : i < L.length := by rw [← hi]; exact Nat.mod_lt _ hL0
  have hil' : (i : Int) < (L.length : Int) := by omega
  have hL0' : ((L.length : Int) == 0) = false := by simp; rintro rfl; simp at hL0
  have hLp : (0 : Int) < (L.length : Int) := by omega
  have hq : L[i]? = some L[i] := List.getElem?_eq_getElem hil
  obtain ⟨m, hm⟩ : ∃ m, L[i] = m := ⟨_, rfl⟩
  rw [hm] at hq
  obtain ⟨hz1, hz2⟩ := hsz m (by rw [← hm]; exact List.getElem_mem hil)
  have hcell := fun j (hj : j < 5) => (World.ownsRow.cellAt ho (i * 5 + j) (by omega)).trans (flat5 _ i j hj hq)
  have hcap := ho.2.resolve_left (by rintro ⟨e, _⟩; cases e)
  have hix : (c : Int) / 8 % (L.length : Int) = (i : Int) := by rw [← hi]; simp
  have rj := hcell 3 (by omega)
  have fr := own_frozen ho (i * 5 + 3)
  simp only [MsgB.cells, List.getElem?_cons_zero, List.getElem?_cons_succ] at rj
  skip
  have HC := Lib.hid hC
  have HO := Lib.hid ho
  have HQ := Lib.hid hq
  clear hr hC ho hi hcell hm hq hcap hsz
  go_enter Tryz.func22, Tryz.ntmps22
  go_wp2
  go_quiet (fail)
  go_wp2
  go_ret
  exact spoil_done (j := 3) (u := .string (m.text ++ ⟨#[120]⟩)) (m' := ⟨m.number, m.sender, m.second, m.text ++ ⟨#[120]⟩, m.seen⟩) HC.out HO.out hL (by omega) HQ.out rfl (fun e => more_ne _ (congrArg MsgB.text e))

set_option maxRecDepth 100000 in
set_option maxHeartbeats 1000000 in
theorem spoil_6 {w : World} {C base : Nat} {n : Int} {v : Value} {L : List MsgB} (hC : w.heap[C]? = some (.cells #[.int .i64 n, v] 34 (0, 0))) (ho : MsgsOwn w base v L) (hL : L.length ≤ 40) (hL0 : 0 < L.length) (hsz : ∀ m ∈ L, m.sender.size ≤ 60 ∧ m.text.size ≤ 1100) (c : Nat) (hc : c < 256) (hr : c % 8 = 6) :
    Calls Tryz.prog 22 #[.pointer (some ⟨C, 0, none⟩), .int .u8 c] w (SpoilPost C n v L w) := by
  have hr1 : (c : Int) % 8 = 6 := by omega
  have c1 := cell_of_heap hC 1
  have f1 := frozen_of_heap hC 1
  try simp only [List.getElem?_toArray, List.getElem?_cons_zero, List.getElem?_cons_succ] at c1
  obtain ⟨g, cap, rfl⟩ : ∃ g cap, v = .slice (some ⟨g, 0, none⟩) L.length cap := by
    obtain ⟨_, ⟨e, e2⟩ | ⟨g', cap, cur, e, _⟩⟩ := id ho
    · omega
    · exact ⟨g', cap, e⟩
  obtain ⟨i, hi⟩ : ∃ i, c / 8 % L.length = i := ⟨_, rfl⟩
  have hil : i < L.length := by rw [← hi]; exact Nat.mod_lt _ hL0
  have hil' : (i : Int) < (L.length : Int) := by omega
  have hL0' : ((L.length : Int) == 0) = false := by simp; rintro rfl; simp at hL0
  have hLp : (0 : Int) < (L.length : Int) := by omega
  have hq : L[i]? = some L[i] := List.getElem?_eq_getElem hil
  obtain ⟨m, hm⟩ : ∃ m, L[i] = m := ⟨_, rfl⟩
  rw [hm] at hq
  obtain ⟨hz1, hz2⟩ := hsz m (by rw [← hm]; exact List.getElem_mem hil)
  have hcell := fun j (hj : j < 5) => (World.ownsRow.cellAt ho (i * 5 + j) (by omega)).trans (flat5 _ i j hj hq)
  have hcap := ho.2.resolve_left (by rintro ⟨e, _⟩; cases e)
  have hix : (c : Int) / 8 % (L.length : Int) = (i : Int) := by rw [← hi]; simp
  have rj := hcell 4 (by omega)
  have fr := own_frozen ho (i * 5 + 4)
  simp only [MsgB.cells, List.getElem?_cons_zero, List.getElem?_cons_succ] at rj
  skip
  have HC := Lib.hid hC
  have HO := Lib.hid ho
  have HQ := Lib.hid hq
  clear hr hC ho hi hcell hm hq hcap hsz
  go_enter Tryz.func22, Tryz.ntmps22
  go_wp2
  go_quiet (fail)
  go_wp2
  go_ret
  exact spoil_done (j := 4) (u := .bool (!m.seen)) (m' := ⟨m.number, m.sender, m.second, m.text, !m.seen⟩) HC.out HO.out hL (by omega) HQ.out rfl (fun e => by have := congrArg MsgB.seen e; simp at this)

set_option maxRecDepth 100000 in
set_option maxHeartbeats 1000000 in
theorem spoil_0 {w : World} {C base : Nat} {n : Int} {v : Value} {L : List MsgB} (hC : w.heap[C]? = some (.cells #[.int .i64 n, v] 34 (0, 0))) (ho : MsgsOwn w base v L) (hL : L.length ≤ 40) (hL0 : 0 < L.length) (hsz : ∀ m ∈ L, m.sender.size ≤ 60 ∧ m.text.size ≤ 1100) (c : Nat) (hc : c < 256) (hr : c % 8 = 0) :
    Calls Tryz.prog 22 #[.pointer (some ⟨C, 0, none⟩), .int .u8 c] w (SpoilPost C n v L w) := by
  have hr1 : (c : Int) % 8 = 0 := by omega
  have c1 := cell_of_heap hC 1
  have f1 := frozen_of_heap hC 1
  try simp only [List.getElem?_toArray, List.getElem?_cons_zero, List.getElem?_cons_succ] at c1
  obtain ⟨g, cap, rfl⟩ : ∃ g cap, v = .slice (some ⟨g, 0, none⟩) L.length cap := by
    obtain ⟨_, ⟨e, e2⟩ | ⟨g', cap, cur, e, _⟩⟩ := id ho
    · omega
    · exact ⟨g', cap, e⟩
  obtain ⟨i, hi⟩ : ∃ i, c / 8 % L.length = i := ⟨_, rfl⟩
  have hil : i < L.length := by rw [← hi]; exact Nat.mod_lt _ hL0
  have hil' : (i : Int) < (L.length : Int) := by omega
  have hL0' : ((L.length : Int) == 0) = false := by simp; rintro rfl; simp at hL0
  have hLp : (0 : Int) < (L.length : Int) := by omega
  have hq : L[i]? = some L[i] := List.getElem?_eq_getElem hil
  obtain ⟨m, hm⟩ : ∃ m, L[i] = m := ⟨_, rfl⟩
  rw [hm] at hq
  obtain ⟨hz1, hz2⟩ := hsz m (by rw [← hm]; exact List.getElem_mem hil)
  have hcell := fun j (hj : j < 5) => (World.ownsRow.cellAt ho (i * 5 + j) (by omega)).trans (flat5 _ i j hj hq)
  have hcap := ho.2.resolve_left (by rintro ⟨e, _⟩; cases e)
  have hix : (c : Int) / 8 % (L.length : Int) = (i : Int) := by rw [← hi]; simp
  have HC := Lib.hid hC
  have HO := Lib.hid ho
  clear hr hC ho hi hcell hm hq hcap hsz
  go_enter Tryz.func22, Tryz.ntmps22
  go_wp2
  go_quiet (fail)
  go_wp2
  go_ret
  have hd : Mods [] w (w.drewN nq) := (Mods.refl _ _).drewN _
  exact ⟨false, n, _, L, rfl, hd.heap HC.out (by simp), (HO.out.mods hd (by simp)).at (by omega), by rw [(eqMsgs_iff _ _).2 rfl]; simp, hd.weaken (by simp)⟩

set_option maxRecDepth 100000 in
set_option maxHeartbeats 1000000 in
theorem spoil_7 {w : World} {C base : Nat} {n : Int} {v : Value} {L : List MsgB} (hC : w.heap[C]? = some (.cells #[.int .i64 n, v] 34 (0, 0))) (ho : MsgsOwn w base v L) (hL : L.length ≤ 40) (hL0 : 0 < L.length) (hsz : ∀ m ∈ L, m.sender.size ≤ 60 ∧ m.text.size ≤ 1100) (c : Nat) (hc : c < 256) (hr : c % 8 = 7) :
    Calls Tryz.prog 22 #[.pointer (some ⟨C, 0, none⟩), .int .u8 c] w (SpoilPost C n v L w) := by
  have hr1 : (c : Int) % 8 = 7 := by omega
  have c1 := cell_of_heap hC 1
  have f1 := frozen_of_heap hC 1
  try simp only [List.getElem?_toArray, List.getElem?_cons_zero, List.getElem?_cons_succ] at c1
  obtain ⟨g, cap, rfl⟩ : ∃ g cap, v = .slice (some ⟨g, 0, none⟩) L.length cap := by
    obtain ⟨_, ⟨e, e2⟩ | ⟨g', cap, cur, e, _⟩⟩ := id ho
    · omega
    · exact ⟨g', cap, e⟩
  obtain ⟨i, hi⟩ : ∃ i, c / 8 % L.length = i := ⟨_, rfl⟩
  have hil : i < L.length := by rw [← hi]; exact Nat.mod_lt _ hL0
  have hil' : (i : Int) < (L.length : Int) := by omega
  have hL0' : ((L.length : Int) == 0) = false := by simp; rintro rfl; simp at hL0
  have hLp : (0 : Int) < (L.length : Int) := by omega
  have hq : L[i]? = some L[i] := List.getElem?_eq_getElem hil
  obtain ⟨m, hm⟩ : ∃ m, L[i] = m := ⟨_, rfl⟩
  rw [hm] at hq
  obtain ⟨hz1, hz2⟩ := hsz m (by rw [← hm]; exact List.getElem_mem hil)
  have hcell := fun j (hj : j < 5) => (World.ownsRow.cellAt ho (i * 5 + j) (by omega)).trans (flat5 _ i j hj hq)
  have hcap := ho.2.resolve_left (by rintro ⟨e, _⟩; cases e)
  have hix : (c : Int) / 8 % (L.length : Int) = (i : Int) := by rw [← hi]; simp
  obtain ⟨g2, cap2, cur, e2, hB, hh, hn, _⟩ := hcap
  simp only [Value.slice.injEq, Option.some.injEq, Addr.mk.injEq, and_true, true_and] at e2
  obtain ⟨rfl, rfl⟩ := e2
  have HC := Lib.hid hC
  have HO := Lib.hid ho
  have hLc : (1 : Int) ≤ (L.length : Int) := by omega
  have hcc : (L.length : Int) ≤ (cap : Int) := by omega
  clear hr hC ho hi hcell hm hq hsz hh
  by_cases hk : cap = 1
  · subst hk
    have hL1 : L.length = 1 := by omega
    have HL1 := Lib.hid hL1
    clear hL1
    go_enter Tryz.func22, Tryz.ntmps22
    go_wp2
    go_quiet (fail)
    go_wp2
    go_ret
    have h9 := spoil_tail (a := some ⟨g, 0, none⟩) (c2 := 0) (nq := nq) HC.out HO.out hL hL0 (.inl HL1.out) (by omega)
    rw [show L.length - 1 = 0 by have := HL1.out; omega] at h9
    exact h9
  · have hk' : 1 < cap := by omega
    have hk'' : (1 : Int) < (cap : Int) := by omega
    go_enter Tryz.func22, Tryz.ntmps22
    go_wp2
    go_quiet (fail)
    go_wp2
    go_ret
    exact spoil_tail HC.out HO.out hL hL0 (.inr rfl) (by omega)

theorem spoil_any {w : World} {C base : Nat} {n : Int} {v : Value} {L : List MsgB} (hC : w.heap[C]? = some (.cells #[.int .i64 n, v] 34 (0, 0))) (ho : MsgsOwn w base v L) (hL : L.length ≤ 40) (hsz : ∀ m ∈ L, m.sender.size ≤ 60 ∧ m.text.size ≤ 1100) (c : Nat) (hc : c < 256) :
    Calls Tryz.prog 22 #[.pointer (some ⟨C, 0, none⟩), .int .u8 c] w (SpoilPost C n v L w) := by
  by_cases h1 : c % 8 = 1
  · exact spoil_1 hC ho hL c hc h1
  by_cases h0 : L.length = 0
  · obtain rfl := List.length_eq_zero_iff.1 h0
    exact spoil_nil hC ho c hc h1
  have hp : 0 < L.length := by omega
  have h8 : c % 8 < 8 := Nat.mod_lt _ (by omega)
  rcases (by omega : c % 8 = 0 ∨ c % 8 = 2 ∨ c % 8 = 3 ∨ c % 8 = 4 ∨ c % 8 = 5 ∨ c % 8 = 6 ∨ c % 8 = 7) with h | h | h | h | h | h | h
  · exact spoil_0 hC ho hL hp hsz c hc h
  · exact spoil_2 hC ho hL hp hsz c hc h
  · exact spoil_3 hC ho hL hp hsz c hc h
  · exact spoil_4 hC ho hL hp hsz c hc h
  · exact spoil_5 hC ho hL hp hsz c hc h
  · exact spoil_6 hC ho hL hp hsz c hc h
  · exact spoil_7 hC ho hL hp hsz c hc h
end Go.Proofs.YtlaihnbappfbfaaGreatDoor

namespace Go.Proofs.YtlaihnbappfbfaaGreatDoor
open Go.Joins Go.ChangeShapes Go.WideShapes Go.RowKit Go.Deep

theorem exists_msgs (len : Nat) (Q : Nat → MsgB → Prop) (h : ∀ i, i < len → ∃ m, Q i m) : ∃ l : List MsgB, l.length = len ∧ ∀ i, (hi : i < l.length) → Q i l[i] := by
  induction len with
  | zero => exact ⟨[], rfl, fun i hi => by simp at hi⟩
  | succ n ih =>
    obtain ⟨l, h1, h2⟩ := ih (fun i hi => h i (by omega))
    obtain ⟨m, hm⟩ := h n (by omega)
    refine ⟨l ++ [m], by simp [h1], fun i hi => ?_⟩
    by_cases hl : i < l.length
    · rw [List.getElem_append_left hl]; exact h2 i hl
    · rw [List.getElem_append_right (by omega)]
      have : i = n := by simp at hi; omega
      subst this
      simp only [h1, Nat.sub_self, List.getElem_cons_zero]
      exact hm
theorem cMsg : Tryz.prog.cellsOf 57 = 5 := by kernel_rfl
theorem cI : Tryz.prog.cellsOf 3 = 1 := by kernel_rfl
theorem cS : Tryz.prog.cellsOf 9 = 1 := by kernel_rfl
theorem cB : Tryz.prog.cellsOf 4 = 1 := by kernel_rfl
set_option maxRecDepth 100000 in
/-- A message, cell for cell. -/
theorem msg_of_trod {H : Type} {w : World} {enc : TypeId × Value → H} {base : Nat} {sp : Nat → Bool} {held : Bool} {fuel : Nat} {cs : List Value} {x : DataW H × List MemPlace}
    (h : DataW.trod enc Tryz.prog w base sp held fuel 57 cs = some x) : ∃ m : MsgB, cs = m.cells ∧ m.sender.size ≤ maxLen ∧ m.text.size ≤ maxLen := by
  obtain ⟨xs, n, rfl, hx, hl, hn, hel⟩ := DataW.trod_struct Tryz.underlying57 h
  rw [cMsg] at hl
  have h0 : DataW.trod enc Tryz.prog w base sp held n 3 ((cs.drop 0).take (Tryz.prog.cellsOf 3)) = xs[0]? := hel 0 _ rfl
  rw [cI] at h0
  have h1 : DataW.trod enc Tryz.prog w base sp held n 9 ((cs.drop 1).take (Tryz.prog.cellsOf 9)) = xs[1]? := hel 1 _ rfl
  rw [cS] at h1
  have h2 : DataW.trod enc Tryz.prog w base sp held n 3 ((cs.drop 2).take (Tryz.prog.cellsOf 3)) = xs[2]? := hel 2 _ rfl
  rw [cI] at h2
  have h3 : DataW.trod enc Tryz.prog w base sp held n 9 ((cs.drop 3).take (Tryz.prog.cellsOf 9)) = xs[3]? := hel 3 _ rfl
  rw [cS] at h3
  have h4 : DataW.trod enc Tryz.prog w base sp held n 4 ((cs.drop 4).take (Tryz.prog.cellsOf 4)) = xs[4]? := hel 4 _ rfl
  rw [cB] at h4
  clear hel hx
  match cs, hl with
  | [a0, a1, a2, a3, a4], _ =>
    match xs, hn with
    | [y0, y1, y2, y3, y4], _ =>
      obtain ⟨z0, q0, _, _⟩ := DataW.trod_int Tryz.underlying3 (show DataW.trod enc Tryz.prog w base sp held n 3 [a0] = some y0 from h0)
      obtain ⟨s1, q1, _, w1⟩ := DataW.trod_string Tryz.underlying9 (show DataW.trod enc Tryz.prog w base sp held n 9 [a1] = some y1 from h1)
      obtain ⟨z2, q2, _, _⟩ := DataW.trod_int Tryz.underlying3 (show DataW.trod enc Tryz.prog w base sp held n 3 [a2] = some y2 from h2)
      obtain ⟨s3, q3, _, w3⟩ := DataW.trod_string Tryz.underlying9 (show DataW.trod enc Tryz.prog w base sp held n 9 [a3] = some y3 from h3)
      obtain ⟨b4, q4, _⟩ := DataW.trod_bool Tryz.underlying4 (show DataW.trod enc Tryz.prog w base sp held n 4 [a4] = some y4 from h4)
      simp at q0 q1 q2 q3 q4
      subst q0 q1 q2 q3 q4
      exact ⟨⟨z0, s1, z2, s3, b4⟩, rfl, w1, w3⟩

set_option maxRecDepth 100000 in
theorem raw_open {H : Type} {enc : TypeId × Value → H} {W : World} {r : Reach} {b0 : Nat} {v : Value} {d : DataW H} {p : List MemPlace} (hv : Value.okWide Tryz.prog W r b0 33 v) (h : DataW.Trod enc Tryz.prog W 0 (fun _ => true) true 33 v d p) :
    ∃ (n : Int) (xv : Value) (l : List MsgB), v = .agg #[.int .i64 n, xv] ∧ MsgsArg W xv l ∧ ∀ m ∈ l, m.sender.size ≤ 9223372036854775807 ∧ m.text.size ≤ 9223372036854775807 := by
  obtain ⟨v0, v1, y0, y1, n, rfl, rfl, rfl, h0, h1⟩ := open_agg2 Tryz.underlying33 (by kernel_rfl) (by kernel_rfl) hv h
  obtain ⟨z, e0, _, _⟩ := DataW.trod_int Tryz.underlying3 h0
  simp at e0
  subst e0
  rcases open_slice Tryz.underlying31 h1 with ⟨e, _⟩ | ⟨a, len, cap, m, nf, D, Pl, e, hb, hl, hmx, hm, hx, hi⟩
  · simp at e
    subst e
    exact ⟨z, _, [], rfl, ⟨none, 0, rfl, by simp, by simp, .inl rfl⟩, by simp⟩
  · simp at e
    subst e
    simp only [if_true] at hm
    subst hm
    have hex : ∀ i, i < len → ∃ mb : MsgB, (∀ j u, mb.cells[j]? = some u → W.cell? (a.add (i * 5 + j)) = some u) ∧ mb.sender.size ≤ maxLen ∧ mb.text.size ≤ maxLen := by
      intro i hil
      obtain ⟨cs', hc, ht⟩ := hi i (by omega)
      rw [cMsg] at hc
      obtain ⟨mb, rfl, s1, s2⟩ := msg_of_trod ht
      obtain ⟨_, _, hat⟩ := World.cells?_some hc
      refine ⟨mb, fun j u hj => ?_, s1, s2⟩
      have hj5 : j < 5 := (List.getElem?_eq_some_iff.1 hj).1
      have := hat j hj5
      rw [hj, Go.Deep.add_add] at this
      exact this
    obtain ⟨l, hll, hlq⟩ := exists_msgs len _ hex
    subst hll
    refine ⟨z, _, l, rfl, ⟨some a, m, rfl, by omega, by unfold maxLen at hmx; omega, ?_⟩, fun mb hmb => ?_⟩
    · by_cases h0 : l = []
      · exact .inl h0
      · right
        have hp : 0 < l.length := List.length_pos_iff.2 h0
        obtain ⟨B, off, spot⟩ := a
        have hc0 := (hlq 0 hp).1 0 _ rfl
        obtain rfl : spot = none := cell_spot hc0
        refine ⟨B, off, rfl, fun i hi j u hj => ?_⟩
        have := (hlq i hi).1 j u hj
        rw [Addr.add_lit] at this
        rw [show off + i * 5 + j = off + (i * 5 + j) by omega]
        exact this
    · obtain ⟨i, hi, rfl⟩ := List.mem_iff_getElem.1 hmb
      have := (hlq i hi).2
      unfold maxLen at this
      exact ⟨by omega, by omega⟩
end Go.Proofs.YtlaihnbappfbfaaGreatDoor
