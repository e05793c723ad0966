/- Walks of mailbox: messages in memory; Check of a message. Walks of mailbox: lists of messages in memory; Check of a mailbox. Plain: mailboxes: how long a value gets; reading one message more; messages as they lie in memory. -/
import Derived.Test.YtlaihnbappfbfaaGreatDoorA4
import Derived.Test.YtlaihnbappfbfaaGreatDoorMailW2
import Derived.Test.YtlaihnbappfbfaaGreatDoorUserW2
import Derived.Deep.MidRow
namespace Go.Proofs.YtlaihnbappfbfaaGreatDoor
open Go.RowKit

/-- A message. -/
structure MsgB where
  number : Int
  sender : ByteArray
  second : Int
  text : ByteArray
  seen : Bool
def MsgB.cells (m : MsgB) : List Value := [.int .i64 m.number, .string m.sender, .int .i64 m.second, .string m.text, .bool m.seen]
def MsgB.val (m : MsgB) : Value := .agg m.cells.toArray
def MsgB.v (m : MsgB) : MsgV := ⟨m.number, m.sender.data.toList, m.second, m.text.data.toList, m.seen⟩
def isSecB (n : Int) : Bool := decide (0 ≤ n) && decide (n ≤ 1073741824)

theorem isSecond_any (n : Int) (w : World) : Calls Tryz.prog 85 #[.int .i64 n] w fun e w' => e = .returned (.bool (isSecB n)) ∧ w = w' := by
  by_cases h1 : 0 ≤ n
  · have hw : Hid (isSecB n = decide (n ≤ 1073741824)) := by show _ = _; simp [isSecB, h1]
    go_enter Tryz.func85, Tryz.ntmps85
    go_wp2
    go_ret
    rw [hw.out]; exact ⟨rfl, rfl⟩
  · have hw : Hid (isSecB n = false) := by show _ = _; simp [isSecB, h1]
    go_enter Tryz.func85, Tryz.ntmps85
    go_wp2
    go_ret
    rw [hw.out]; exact ⟨rfl, rfl⟩

set_option maxRecDepth 100000 in
set_option maxHeartbeats 1000000 in
theorem msgCheck_any (m : MsgB) (ml : Int) (w : World) (hs : m.sender.size ≤ 1000000) (hm : w.cell? ⟨1, 0, none⟩ = some (.int .i64 ml)) :
    Calls Tryz.prog 54 #[m.val] w fun e w' => e = .returned (.int .i64 (msgE m.v)) ∧ Mods [] w w' := by
  obtain ⟨num, snd, sec, txt, seen⟩ := m
  simp only at hs
  have hsp := fun W (h : Mods [] w W) => split_any snd ml W hs (h.keep hm)
  have hic := fun W => isSecond_any sec W
  have hE : Hid (msgE (MsgB.v ⟨num, snd, sec, txt, seen⟩) = if num < 0 ∨ 1048576 ≤ num then 2 else if (splitF snd.data.toList).2.2 ≠ 0 then (splitF snd.data.toList).2.2 else if sec < 0 ∨ 1073741824 < sec then 2 else if 1024 < txt.data.toList.length then 5 else 0) := rfl
  unfold splitVal at hsp
  generalize (splitF snd.data.toList).1 = sp1 at *
  generalize (splitF snd.data.toList).2.1 = sp2 at *
  generalize (splitF snd.data.toList).2.2 = se at *
  have hM0 : Mods [] w (w.alloc (.cells #[.int .i64 num, .string snd, .int .i64 sec, .string txt, .bool seen] 57)) := (Mods.refl _ _).alloc _
  have htl : txt.data.toList.length = txt.size := slen txt
  rw [htl] at hE
  unfold MsgB.val MsgB.cells
  generalize msgE (MsgB.v ⟨num, snd, sec, txt, seen⟩) = E at *
  have HM := Lib.hid hM0
  have HSP := Lib.hid hsp
  clear hM0 hsp htl hm
  by_cases h1 : num < 0
  · have hR : Hid (E = 2) := by show _ = _; rw [hE.out, if_pos (.inl h1)]
    clear hE
    go_enter Tryz.func54, Tryz.ntmps54
    go_wp2
    go_ret
    rw [hR.out]; exact ⟨rfl, HM.out⟩
  by_cases h2 : 1048576 ≤ num
  · have hR : Hid (E = 2) := by show _ = _; rw [hE.out, if_pos (.inr h2)]
    clear hE
    go_enter Tryz.func54, Tryz.ntmps54
    go_wp2
    go_ret
    rw [hR.out]; exact ⟨rfl, HM.out⟩
  have hE2 : Hid (E = if se ≠ 0 then se else if sec < 0 ∨ 1073741824 < sec then 2 else if 1024 < txt.size then 5 else 0) := by
    show _ = _; rw [hE.out, if_neg (by omega)]
  clear hE
  have hsecB : isSecB sec = !(decide (sec < 0 ∨ 1073741824 < sec)) := by
    unfold isSecB
    by_cases a : sec < 0
    · simp [a, show ¬ (0 ≤ sec) by omega]
    · by_cases b : 1073741824 < sec
      · simp [b, show ¬ (sec ≤ 1073741824) by omega]
      · simp [show 0 ≤ sec by omega, show sec ≤ 1073741824 by omega]
  rw [hsecB] at hic
  generalize hsv : decide (sec < 0 ∨ 1073741824 < sec) = sv at *
  have hE3 : Hid (E = if se ≠ 0 then se else if sv = true then 2 else if 1024 < txt.size then 5 else 0) := by
    show _ = _; rw [hE2.out, ← hsv]; simp
  clear hE2 hsv hsecB
  have fin : ∀ r : Int, E = r → Hid (E = r) := fun _ h => h
  by_cases h3 : se = 0
  · subst h3
    cases sv
    · by_cases h5 : 1024 < txt.size
      · have hR : Hid (E = 5) := fin _ (by rw [hE3.out]; simp [h5])
        have h5' : (1024 : Int) < (txt.size : Int) := by omega
        clear hE3 h5 fin
        go_enter Tryz.func54, Tryz.ntmps54
        go_wp2_with (first
          | (go_at_call 13; refine (HSP.out _ HM.out).mono ?_; rintro e W8 ⟨rfl, k8, rfl⟩)
          | (go_at_call 85; refine (hic _).mono ?_; rintro e W9 ⟨rfl, rfl⟩))
        go_ret
        rw [hR.out]; exact ⟨rfl, HM.out.drewN _⟩
      · have hR : Hid (E = 0) := fin _ (by rw [hE3.out]; simp [h5])
        have h5' : ¬ (1024 : Int) < (txt.size : Int) := by omega
        clear hE3 h5 fin
        go_enter Tryz.func54, Tryz.ntmps54
        go_wp2_with (first
          | (go_at_call 13; refine (HSP.out _ HM.out).mono ?_; rintro e W8 ⟨rfl, k8, rfl⟩)
          | (go_at_call 85; refine (hic _).mono ?_; rintro e W9 ⟨rfl, rfl⟩))
        go_ret
        rw [hR.out]; exact ⟨rfl, HM.out.drewN _⟩
    · have hR : Hid (E = 2) := fin _ (by rw [hE3.out]; simp)
      clear hE3 fin
      go_enter Tryz.func54, Tryz.ntmps54
      go_wp2_with (first
        | (go_at_call 13; refine (HSP.out _ HM.out).mono ?_; rintro e W8 ⟨rfl, k8, rfl⟩)
        | (go_at_call 85; refine (hic _).mono ?_; rintro e W9 ⟨rfl, rfl⟩))
      go_ret
      rw [hR.out]; exact ⟨rfl, HM.out.drewN _⟩
  · have hR : Hid (E = se) := fin _ (by rw [hE3.out]; simp [h3])
    clear hE3 fin
    go_enter Tryz.func54, Tryz.ntmps54
    go_wp2_with (first
      | (go_at_call 13; refine (HSP.out _ HM.out).mono ?_; rintro e W8 ⟨rfl, k8, rfl⟩)
      | (go_at_call 85; refine (hic _).mono ?_; rintro e W9 ⟨rfl, rfl⟩))
    go_ret
    rw [hR.out]; exact ⟨rfl, HM.out.drewN _⟩
end Go.Proofs.YtlaihnbappfbfaaGreatDoor

namespace Go.Proofs.YtlaihnbappfbfaaGreatDoor
open Go.RowKit

/-- The slice value v holds the messages l. -/
def MsgsAt (w : World) (v : Value) (l : List MsgB) : Prop :=
  ∃ p cap, v = .slice p l.length cap ∧ l.length ≤ cap ∧ l.length ≤ 1000000000 ∧ (l = [] ∨ ∃ B off, p = some ⟨B, off, none⟩ ∧ ∀ i, (h : i < l.length) → w.rangeAt B (off + i * 5) l[i].cells)
theorem MsgsAt.nil (w : World) : MsgsAt w (.slice none 0 0) [] := ⟨none, 0, rfl, by simp, by simp, .inl rfl⟩
theorem rangeAt_keep {w w' : World} (hm : Mods [] w w') {B o : Nat} {cs : List Value} (h : w.rangeAt B o cs) : w'.rangeAt B o cs := fun j v hj => hm.keep (h j v hj)
theorem MsgsAt.keep {w w' : World} {v : Value} {l : List MsgB} (h : MsgsAt w v l) (hm : Mods [] w w') : MsgsAt w' v l := by
  obtain ⟨p, cap, rfl, hcap, hl, h⟩ := h
  exact ⟨p, cap, rfl, hcap, hl, h.imp id fun ⟨B, off, e, hc⟩ => ⟨B, off, e, fun i hi => rangeAt_keep hm (hc i hi)⟩⟩
/-- The cells of message k. -/
theorem msg_cells {w : World} {B o : Nat} {m : MsgB} (h : w.rangeAt B o m.cells) :
    w.cell? ⟨B, o, none⟩ = some (.int .i64 m.number) ∧ w.cell? ⟨B, o + 1, none⟩ = some (.string m.sender) ∧ w.cell? ⟨B, o + 2, none⟩ = some (.int .i64 m.second) ∧ w.cell? ⟨B, o + 3, none⟩ = some (.string m.text) ∧ w.cell? ⟨B, o + 4, none⟩ = some (.bool m.seen) :=
  ⟨h 0 _ rfl, h 1 _ rfl, h 2 _ rfl, h 3 _ rfl, h 4 _ rfl⟩

set_option maxRecDepth 100000 in
set_option maxHeartbeats 1000000 in
theorem boxCheck_any (next : Int) {l : List MsgB} {v : Value} {w : World} (hv : MsgsAt w v l) (hl : ∀ m ∈ l, m.sender.size ≤ 1000000) (ml : Int) (hm : w.cell? ⟨1, 0, none⟩ = some (.int .i64 ml)) :
    Calls Tryz.prog 23 #[.agg #[.int .i64 next, v]] w fun e w' => e = .returned (.int .i64 (boxE ⟨next, l.map MsgB.v⟩)) ∧ Mods [] w w' := by
  have hck := fun W (h : Mods [] w W) m (hm' : m ∈ l) => msgCheck_any m ml W (hl m hm') (h.keep hm)
  have hE : Hid (boxE ⟨next, l.map MsgB.v⟩ = if next < 0 ∨ 1048576 < next then 2 else if 32 < l.length then 9 else msgsE next (-1) (l.map MsgB.v)) := by
    show _ = _; unfold boxE; simp only [List.length_map]
  generalize boxE ⟨next, l.map MsgB.v⟩ = E at *
  have hM0 : Mods [] w (w.alloc (.cells #[.int .i64 next, v] 34)) := (Mods.refl _ _).alloc _
  have hA0 := heap_alloc_new w (.cells #[.int .i64 next, v] 34)
  obtain ⟨p, cap, rfl, hcap, hln, hat⟩ := id hv
  have HM := Lib.hid hM0
  have HCK := Lib.hid hck
  have HAT := Lib.hid hat
  clear hM0 hck hm hv hat
  by_cases h1 : next < 0
  · have hR : Hid (E = 2) := by show _ = _; rw [hE.out, if_pos (.inl h1)]
    clear hE
    go_enter Tryz.func23, Tryz.ntmps23
    go_wp2
    go_ret
    rw [hR.out]; exact ⟨rfl, HM.out⟩
  by_cases h2 : 1048576 < next
  · have hR : Hid (E = 2) := by show _ = _; rw [hE.out, if_pos (.inr h2)]
    clear hE
    go_enter Tryz.func23, Tryz.ntmps23
    go_wp2
    go_ret
    rw [hR.out]; exact ⟨rfl, HM.out⟩
  by_cases h3 : 32 < l.length
  · have hR : Hid (E = 9) := by show _ = _; rw [hE.out, if_neg (by omega), if_pos h3]
    have h3' : (32 : Int) < (l.length : Int) := by omega
    clear hE
    go_enter Tryz.func23, Tryz.ntmps23
    go_wp2
    go_ret
    rw [hR.out]; exact ⟨rfl, HM.out⟩
  have hR : Hid (E = msgsE next (-1) (l.map MsgB.v)) := by show _ = _; rw [hE.out, if_neg (by omega), if_neg h3]
  have h3' : ¬ (32 : Int) < (l.length : Int) := by omega
  clear hE
  go_enter Tryz.func23, Tryz.ntmps23
  go_wp2
  go_loopw [3, 5, 6, 22] (fun last _ _ i wr => ∃ (k : Nat) (la : Int), i = .int .i64 k ∧ last = .int .i64 la ∧ k ≤ l.length ∧ Hid (Mods [] (w.alloc (.cells #[.int .i64 next, .slice p l.length cap] 34)) wr) ∧ Hid (E = msgsE next la ((l.drop k).map MsgB.v))) (fun _ _ _ i _ => l.length - (intOf i).toNat)
  case atStart => exact ⟨0, -1, rfl, rfl, by omega, Lib.hid (Mods.refl _ _), by simpa using hR⟩
  case round =>
    clear hR
    obtain ⟨k, la, rfl, rfl, hk, hMw, hRk⟩ := hrel
    have hMk := HM.out.trans' hMw.out
    have cn : wr.cell? ⟨w.heap.size, 0, none⟩ = some (.int .i64 next) := hMw.out.keep (cell_of_heap hA0 0)
    by_cases hlt : k < l.length
    · obtain ⟨B, off, rfl, hcell⟩ := HAT.out.resolve_left (by rintro rfl; simp at hlt)
      obtain ⟨m, hmk⟩ : ∃ m, l[k] = m := ⟨_, rfl⟩
      have hr := rangeAt_keep hMk (hcell k hlt)
      rw [hmk] at hr
      obtain ⟨c0, c1, c2, c3, c4⟩ := msg_cells hr
      have hmem : m ∈ l := by rw [← hmk]; exact List.getElem_mem hlt
      have hdr : (l.drop k).map MsgB.v = m.v :: (l.drop (k + 1)).map MsgB.v := by rw [List.drop_eq_getElem_cons hlt, hmk]; rfl
      have hRk' : Hid (E = if msgE m.v ≠ 0 then msgE m.v else if m.number ≤ la then 32 else if next ≤ m.number then 10 else msgsE next m.number ((l.drop (k + 1)).map MsgB.v)) := by
        show _ = _; rw [hRk.out, hdr]; rfl
      have HCM := Lib.hid (fun W h => HCK.out W h m hmem)
      unfold MsgB.val MsgB.cells at HCM
      generalize msgE m.v = me at *
      obtain ⟨num, snd, sec, txt, seen⟩ := m
      simp only at c0 c1 c2 c3 c4 HCM hRk'
      have hkl : (k : Int) < (l.length : Int) := by omega
      clear hr hcell hmk hmem hdr hRk
      have HMk := Lib.hid hMk
      clear hMk
      have hx : (0 : Int) ≤ (k : Int) := by omega
      have hF : ∀ r : Int, E = r → Hid (E = r) := fun _ h => h
      go_wp2_with fail
      obtain ⟨W1, hW1⟩ : ∃ W1, wr.alloc (.cells #[.int .i64 num, .string snd, .int .i64 sec, .string txt, .bool seen] 57) = W1 := ⟨_, rfl⟩
      have hm1 : Mods [] wr W1 := by rw [← hW1]; exact (Mods.refl _ _).alloc _
      have d0 : W1.cell? ⟨wr.heap.size, 0, none⟩ = some (.int .i64 num) := by rw [← hW1]; exact cell_of_heap (heap_alloc_new wr _) 0
      rw [hW1]
      refine (HCM.out _ (HMk.out.trans' hm1)).mono ?_
      rintro e W8 ⟨rfl, hm8⟩
      replace d0 := hm8.keep d0
      replace cn := hm8.keep (hm1.keep cn)
      have hM8 := (HMk.out.trans' hm1).trans' hm8
      have hM8' := (hMw.out.trans' hm1).trans' hm8
      have HM8 := Lib.hid hM8
      have HM8' := Lib.hid hM8'
      clear hm8 hm1 hW1 hM8 hM8' c0 c1 c2 c3 c4 HCM HMk
      by_cases k1 : me = 0
      · subst k1
        by_cases k2 : num ≤ la
        · have hR9 := hF 32 (by rw [hRk'.out]; simp [k2])
          clear hRk' hF
          go_wp2
          go_ret
          rw [hR9.out]; exact ⟨rfl, HM8.out⟩
        by_cases k3 : next ≤ num
        · have hR9 := hF 10 (by rw [hRk'.out]; simp [k2, k3])
          clear hRk' hF
          go_wp2
          go_ret
          rw [hR9.out]; exact ⟨rfl, HM8.out⟩
        have hR9 := hF (msgsE next num ((l.drop (k + 1)).map MsgB.v)) (by rw [hRk'.out]; simp [k2, k3])
        clear hRk' hF
        go_wp2
        go_round
        case rel => exact ⟨k + 1, num, by go_num, rfl, by omega, HM8', hR9⟩
        case measure => simp [intOf] <;> omega
      · have hR9 := hF me (by rw [hRk'.out]; simp [k1])
        clear hRk' hF
        go_wp2
        go_ret
        rw [hR9.out]; exact ⟨rfl, HM8.out⟩
    · have hkl : k = l.length := by omega
      have hR0 : Hid (E = 0) := by show _ = _; rw [hRk.out, hkl, List.drop_length]; rfl
      have hkn : ¬ (k : Int) < (l.length : Int) := by omega
      clear hRk
      go_wp2
      go_ret
      rw [hR0.out]; exact ⟨rfl, hMk⟩
end Go.Proofs.YtlaihnbappfbfaaGreatDoor

namespace Go.Proofs.YtlaihnbappfbfaaGreatDoor

theorem encMsg_len {m : MsgV} (h : msgE m = 0) : (encMsg m).length ≤ 1200 := by
  obtain ⟨h1, h2, h3, h4, h5, h6⟩ := msgE_zero h
  have hl := splitF_len h3
  have e1 := encNat_length_u64 m.number.toNat (by omega)
  have e2 := encNat_length_u64 m.sender.length (by omega)
  have e3 := encNat_length_u64 m.second.toNat (by omega)
  have e4 := encNat_length_u64 m.text.length (by omega)
  simp only [encMsg, encText, encFlag, List.length_append, List.length_singleton]
  omega
theorem encMsgs_len {l : List MsgV} (h : ∀ m ∈ l, msgE m = 0) : (l.flatMap encMsg).length ≤ l.length * 1200 := by
  induction l with
  | nil => simp
  | cons m l ih =>
    have h1 := encMsg_len (h m (by simp))
    have h2 := ih (fun x hx => h x (by simp [hx]))
    simp only [List.flatMap_cons, List.length_append, List.length_cons]
    omega
theorem encBox_len {b : BoxV} (h : boxE b = 0) : (encBox b).length ≤ 40000 := by
  obtain ⟨h1, h2, h3, h4⟩ := boxE_zero h
  have hm := encMsgs_len (msgsE_zero h4)
  have e1 := encNat_length_u64 b.next.toNat (by omega)
  have e2 := encNat_length_u64 b.msgs.length (by omega)
  simp only [encBox, List.length_append]
  omega
/-- One message more. -/
theorem rdMsgs_snoc (a c : Int) (n : Nat) (st : RS) : rdMsgs a c (n + 1) st = ((rdMsgs a c n st).1 ++ [(rdMsg a c (rdMsgs a c n st).2).1], (rdMsg a c (rdMsgs a c n st).2).2) := by
  induction n generalizing st with
  | zero => rfl
  | succ n ih =>
    have e : rdMsgs a c (n + 1 + 1) st = ((rdMsg a c st).1 :: (rdMsgs a c (n + 1) (rdMsg a c st).2).1, (rdMsgs a c (n + 1) (rdMsg a c st).2).2) := rfl
    rw [e, ih]
    rfl
theorem rdMsgs_length (a c : Int) (n : Nat) (st : RS) : (rdMsgs a c n st).1.length = n := by
  induction n generalizing st with
  | zero => rfl
  | succ n ih => simp [rdMsgs, ih]
theorem pText_most (most : Int) (h0 : 0 ≤ most) (b : List UInt8) : ((pText most b).1.length : Int) ≤ most := by
  unfold pText
  split
  · simpa using h0
  split
  · simpa using h0
  split
  · simpa using h0
  · simp only [List.length_take]
    omega
theorem rtext_most (most : Int) (h0 : 0 ≤ most) (st : RS) : ((rstep [] (pText most) st).1.length : Int) ≤ most := by
  unfold rstep
  split
  · simpa using h0
  split
  · simpa using h0
  · exact pText_most most h0 _
theorem rnum_most (most : Int) (h0 : 0 ≤ most) (st : RS) : ((rstep 0 (pNum most) st).1 : Int) ≤ most := by
  unfold rstep
  split
  · simpa using h0
  split
  · simpa using h0
  · rename_i h1 h2
    have h3 : (pNum most st.rest).2.2 = 0 := by simpa using h2
    unfold pNum at h3 ⊢
    split
    · rename_i h4
      rw [if_pos h4] at h3
      simp at h3
    · rename_i h4
      rw [if_neg h4] at h3
      have := fun h => h4 ⟨h3, h⟩
      omega
theorem rdMsgs_sender (a c : Int) (hc : 0 ≤ c) (n : Nat) (st : RS) : ∀ m ∈ (rdMsgs a c n st).1, (m.sender.length : Int) ≤ c := by
  induction n generalizing st with
  | zero => intro m hm; cases hm
  | succ n ih =>
    intro m hm
    unfold rdMsgs at hm
    rcases List.mem_cons.1 hm with rfl | hm
    · exact rtext_most c hc _
    · exact ih _ m hm
/-- A message as it lies in memory. -/
def MsgV.b (m : MsgV) : MsgB := ⟨m.number, ⟨m.sender.toArray⟩, m.second, ⟨m.text.toArray⟩, m.seen⟩
theorem MsgV.b_v (m : MsgV) : m.b.v = m := rfl
theorem MsgB.v_b (m : MsgB) : m.v.b = m := rfl
theorem map_b_v (l : List MsgV) : (l.map MsgV.b).map MsgB.v = l := by
  rw [List.map_map]
  exact List.map_id'' (fun m => rfl) l
theorem map_v_b (l : List MsgB) : (l.map MsgB.v).map MsgV.b = l := by
  rw [List.map_map]
  exact List.map_id'' (fun m => rfl) l
end Go.Proofs.YtlaihnbappfbfaaGreatDoor
