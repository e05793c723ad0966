/- Walks of the model: check of a mailbox. Walks of the model: parse. -/
import Derived.Test.YtlaihnbappfbfaaGreatDoorB1
import Derived.Deep.QuietTactic
import Derived.BigQuiet
import Derived.IntWalk
import Derived.Test.YtlaihnbappfbfaaGreatDoorBoxW4
namespace Go.Proofs.YtlaihnbappfbfaaGreatDoor
open Go.RowKit

/-- The number of the message ahead. -/
def PrevIs (l : List MsgB) (k : Nat) (la : Int) : Prop := (k = 0 ∧ la = -1) ∨ (0 < k ∧ ∃ h : k - 1 < l.length, l[k - 1].number = la)

set_option maxRecDepth 100000 in
set_option maxHeartbeats 4000000 in
theorem refBoxCheck_any (next : Int) {l : List MsgB} {v : Value} {w : World} (hv : MsgsAt w v l) (hl : ∀ m ∈ l, m.sender.size ≤ 1000000) :
    Calls Tryz.prog 20 #[.agg #[.int .i64 next, v]] w fun e w' => e = .returned (.int .i64 (boxE ⟨next, l.map MsgB.v⟩)) ∧ Mods [] w w' := by
  have hE : Hid (boxE ⟨next, l.map MsgB.v⟩ = if next < 0 ∨ 1048576 < next then 2 else if 32 < l.length then 9 else msgsE next (-1) (l.map MsgB.v)) := by
    show _ = _; unfold boxE; simp only [List.length_map]
  generalize boxE ⟨next, l.map MsgB.v⟩ = E at *
  have hM0 : Mods [] w (w.alloc (.cells #[.int .i64 next, v] 34)) := (Mods.refl _ _).alloc _
  have hA0 := heap_alloc_new w (.cells #[.int .i64 next, v] 34)
  obtain ⟨p, cap, rfl, hcap, hln, hat⟩ := id hv
  have HM := Lib.hid hM0
  have HAT := Lib.hid hat
  have HL := Lib.hid hl
  clear hM0 hv hat hl
  by_cases h1 : next < 0
  · have hR : Hid (E = 2) := by show _ = _; rw [hE.out, if_pos (.inl h1)]
    clear hE
    go_enter Tryz.func20, Tryz.ntmps20
    go_wp2
    go_ret
    rw [hR.out]; exact ⟨rfl, HM.out⟩
  by_cases h2 : 1048576 < next
  · have hR : Hid (E = 2) := by show _ = _; rw [hE.out, if_pos (.inr h2)]
    clear hE
    go_enter Tryz.func20, Tryz.ntmps20
    go_wp2
    go_ret
    rw [hR.out]; exact ⟨rfl, HM.out⟩
  by_cases h3 : 32 < l.length
  · have hR : Hid (E = 9) := by show _ = _; rw [hE.out, if_neg (by omega), if_pos h3]
    have h3' : (32 : Int) < (l.length : Int) := by omega
    clear hE
    go_enter Tryz.func20, Tryz.ntmps20
    go_wp2
    go_ret
    rw [hR.out]; exact ⟨rfl, HM.out⟩
  have hR : Hid (E = msgsE next (-1) (l.map MsgB.v)) := by show _ = _; rw [hE.out, if_neg (by omega), if_neg h3]
  have h3' : ¬ (32 : Int) < (l.length : Int) := by omega
  clear hE
  go_enter Tryz.func20, Tryz.ntmps20
  go_wp2
  go_loopw [3, 4, 5, 6, 7] (fun i _ _ _ _ wr => ∃ (k : Nat) (la : Int), i = .int .i64 k ∧ k ≤ l.length ∧ Hid (PrevIs l k la) ∧ Hid (Mods [] (w.alloc (.cells #[.int .i64 next, .slice p l.length cap] 34)) wr) ∧ Hid (E = msgsE next la ((l.drop k).map MsgB.v))) (fun i _ _ _ _ _ => l.length - (intOf i).toNat)
  case atStart => exact ⟨0, -1, rfl, by omega, .inl ⟨rfl, rfl⟩, Lib.hid (Mods.refl _ _), by simpa using hR⟩
  case round =>
    clear hR
    obtain ⟨k, la, rfl, hk, hPv, hMw, hRk⟩ := hrel
    have hMk := HM.out.trans' hMw.out
    have cn : wr.cell? ⟨w.heap.size, 0, none⟩ = some (.int .i64 next) := hMw.out.keep (cell_of_heap hA0 0)
    have cn1 : wr.cell? ⟨w.heap.size, 1, none⟩ = some (.slice p l.length cap) := hMw.out.keep (cell_of_heap hA0 1)
    by_cases hlt : k < l.length
    · obtain ⟨B, off, rfl, hcell⟩ := HAT.out.resolve_left (by rintro rfl; simp at hlt)
      obtain ⟨m, hmk⟩ : ∃ m, l[k] = m := ⟨_, rfl⟩
      have hr := rangeAt_keep hMk (hcell k hlt)
      rw [hmk] at hr
      obtain ⟨c0, c1, c2, c3, c4⟩ := msg_cells hr
      have hmem : m ∈ l := by rw [← hmk]; exact List.getElem_mem hlt
      have hdr : (l.drop k).map MsgB.v = m.v :: (l.drop (k + 1)).map MsgB.v := by rw [List.drop_eq_getElem_cons hlt, hmk]; rfl
      have hRk' : Hid (E = if msgE m.v ≠ 0 then msgE m.v else if m.number ≤ la then 32 else if next ≤ m.number then 10 else msgsE next m.number ((l.drop (k + 1)).map MsgB.v)) := by
        show _ = _; rw [hRk.out, hdr]; rfl
      have hPn : Hid (PrevIs l (k + 1) m.number) := .inr ⟨by omega, by simpa using hlt, by simpa using congrArg MsgB.number hmk⟩
      have hsz := HL.out m hmem
      have hsp := fun W => refSplit_any m.sender W hsz
      have hme : Hid (msgE m.v = if m.number < 0 ∨ 1048576 ≤ m.number then 2 else if (splitF m.sender.data.toList).2.2 ≠ 0 then (splitF m.sender.data.toList).2.2 else if m.second < 0 ∨ 1073741824 < m.second then 2 else if 1024 < m.text.size then 5 else 0) := by
        show _ = _; unfold msgE; simp only [MsgB.v, slen]
      unfold splitVal at hsp
      generalize (splitF m.sender.data.toList).1 = sp1 at *
      generalize (splitF m.sender.data.toList).2.1 = sp2 at *
      generalize (splitF m.sender.data.toList).2.2 = se at *
      generalize msgE m.v = me at *
      obtain ⟨num, snd, sec, txt, seen⟩ := m
      simp only at c0 c1 c2 c3 c4 hRk' hsp hme hPn
      have hkl : (k : Int) < (l.length : Int) := by omega
      have HMk := Lib.hid hMk
      have HSP := Lib.hid hsp
      have hbl : w.heap.size < wr.heap.size := lt_of_cell cn
      have hbB : B < wr.heap.size := lt_of_cell c0
      clear hr hmk hmem hdr hRk hMk hsp hsz
      have hF : ∀ r : Int, E = r → Hid (E = r) := fun _ h => h
      by_cases k1 : num < 0
      · have hR9 := hF 2 (by rw [hRk'.out, hme.out]; simp [k1])
        clear hRk' hF hme hcell
        go_wp2
        go_ret
        rw [hR9.out]; exact ⟨rfl, HMk.out.alloc _⟩
      by_cases k2 : 1048576 ≤ num
      · have hR9 := hF 2 (by rw [hRk'.out, hme.out]; simp [k2])
        clear hRk' hF hme hcell
        go_wp2
        go_ret
        rw [hR9.out]; exact ⟨rfl, HMk.out.alloc _⟩
      have hm2 : Hid (me = if se ≠ 0 then se else if sec < 0 ∨ 1073741824 < sec then 2 else if 1024 < txt.size then 5 else 0) := by show _ = _; rw [hme.out, if_neg (by omega)]
      clear hme
      by_cases k3 : se = 0
      · subst k3
        have hm3 : Hid (me = if sec < 0 ∨ 1073741824 < sec then 2 else if 1024 < txt.size then 5 else 0) := by show _ = _; rw [hm2.out]; simp
        clear hm2
        by_cases k4 : sec < 0
        · have hR9 := hF 2 (by rw [hRk'.out, hm3.out]; simp [k4])
          clear hRk' hF hm3 hcell
          go_wp2_with (go_at_call 14; refine (HSP.out _).mono ?_; rintro e W8 ⟨rfl, k8, rfl⟩)
          go_ret
          rw [hR9.out]; exact ⟨rfl, (HMk.out.alloc _).drewN _⟩
        by_cases k5 : 1073741824 < sec
        · have hR9 := hF 2 (by rw [hRk'.out, hm3.out]; simp [k5])
          clear hRk' hF hm3 hcell
          go_wp2_with (go_at_call 14; refine (HSP.out _).mono ?_; rintro e W8 ⟨rfl, k8, rfl⟩)
          go_ret
          rw [hR9.out]; exact ⟨rfl, (HMk.out.alloc _).drewN _⟩
        by_cases k6 : 1024 < txt.size
        · have hR9 := hF 5 (by rw [hRk'.out, hm3.out]; simp [k4, k5, k6])
          have k6' : (1024 : Int) < (txt.size : Int) := by omega
          clear hRk' hF hm3 hcell
          go_wp2_with (go_at_call 14; refine (HSP.out _).mono ?_; rintro e W8 ⟨rfl, k8, rfl⟩)
          go_ret
          rw [hR9.out]; exact ⟨rfl, (HMk.out.alloc _).drewN _⟩
        have k6' : ¬ (1024 : Int) < (txt.size : Int) := by omega
        have hm0 : me = 0 := by rw [hm3.out]; simp [k4, k5, k6]
        subst hm0
        have hR2 := hF (if num ≤ la then 32 else if next ≤ num then 10 else msgsE next num ((l.drop (k + 1)).map MsgB.v)) (by rw [hRk'.out]; simp)
        clear hRk' hm3
        by_cases hk0 : k = 0
        · have hla : la = -1 := by
            rcases hPv.out with ⟨_, h⟩ | ⟨h, _⟩
            · exact h
            · omega
          have hg : decide (0 < k) = false := by simp [hk0]
          have hg2 : ¬ 0 < k := by omega
          clear hcell hk0
          by_cases k7 : next ≤ num
          · have hR9 := hF 10 (by rw [hR2.out, if_neg (by omega), if_pos k7])
            clear hR2 hF
            go_wp2_with (go_at_call 14; refine (HSP.out _).mono ?_; rintro e W8 ⟨rfl, k8, rfl⟩)
            go_quiet (fail)
            go_wp2
            go_ret
            rw [hR9.out]; exact ⟨rfl, by first | exact (HMk.out.alloc _).drewN _ | exact ((HMk.out.alloc _).drewN _).drewN _⟩
          · have hR9 := hF (msgsE next num ((l.drop (k + 1)).map MsgB.v)) (by rw [hR2.out, if_neg (by omega), if_neg k7])
            clear hR2 hF
            go_wp2_with (go_at_call 14; refine (HSP.out _).mono ?_; rintro e W8 ⟨rfl, k8, rfl⟩)
            go_quiet (fail)
            go_wp2
            go_round
            case rel => exact ⟨k + 1, num, by go_num, by omega, hPn, Lib.hid (by first | exact (hMw.out.alloc _).drewN _ | exact ((hMw.out.alloc _).drewN _).drewN _), hR9⟩
            case measure => simp [intOf] <;> omega
        · obtain ⟨hjl, hla⟩ : ∃ h : k - 1 < l.length, l[k - 1].number = la := by
            rcases hPv.out with ⟨h, _⟩ | ⟨_, h, h2⟩
            · omega
            · exact ⟨h, h2⟩
          have cp : wr.cell? ⟨B, off + (k - 1) * 5, none⟩ = some (.int .i64 la) := by
            rw [← hla]
            exact (msg_cells (rangeAt_keep HMk.out (hcell (k - 1) hjl))).1
          have hg : decide (0 < k) = true := by simp; omega
          have hg2 : 0 < k := by omega
          have hq1 : (0 : Int) ≤ (k : Int) - 1 := by omega
          have hq2 : (k : Int) - 1 < (l.length : Int) := by omega
          have hq3 : ((k : Int) - 1).toNat = k - 1 := by omega
          have hq4 : IntKind.i64.wrap ((k : Int) - 1) = (k : Int) - 1 := IntWalk.i64_in _ (by omega)
          clear hcell hla
          by_cases k9 : num ≤ la
          · have hR9 := hF 32 (by rw [hR2.out, if_pos k9])
            clear hR2 hF
            go_wp2_with (go_at_call 14; refine (HSP.out _).mono ?_; rintro e W8 ⟨rfl, k8, rfl⟩)
            go_quiet (fail)
            go_wp2
            go_ret
            rw [hR9.out]; exact ⟨rfl, by first | exact (HMk.out.alloc _).drewN _ | exact ((HMk.out.alloc _).drewN _).drewN _⟩
          by_cases k7 : next ≤ num
          · have hR9 := hF 10 (by rw [hR2.out, if_neg k9, if_pos k7])
            clear hR2 hF
            go_wp2_with (go_at_call 14; refine (HSP.out _).mono ?_; rintro e W8 ⟨rfl, k8, rfl⟩)
            go_quiet (fail)
            go_wp2
            go_ret
            rw [hR9.out]; exact ⟨rfl, by first | exact (HMk.out.alloc _).drewN _ | exact ((HMk.out.alloc _).drewN _).drewN _⟩
          · have hR9 := hF (msgsE next num ((l.drop (k + 1)).map MsgB.v)) (by rw [hR2.out, if_neg k9, if_neg k7])
            clear hR2 hF
            go_wp2_with (go_at_call 14; refine (HSP.out _).mono ?_; rintro e W8 ⟨rfl, k8, rfl⟩)
            go_quiet (fail)
            go_wp2
            go_round
            case rel => exact ⟨k + 1, num, by go_num, by omega, hPn, Lib.hid (by first | exact (hMw.out.alloc _).drewN _ | exact ((hMw.out.alloc _).drewN _).drewN _), hR9⟩
            case measure => simp [intOf] <;> omega
      · have k3' : (se != 0) = true := by simpa using k3
        have hR9 := hF se (by rw [hRk'.out, hm2.out]; simp [k3])
        clear hRk' hF hm2 hcell
        go_wp2_with (go_at_call 14; refine (HSP.out _).mono ?_; rintro e W8 ⟨rfl, k8, rfl⟩)
        go_ret
        rw [hR9.out]; exact ⟨rfl, (HMk.out.alloc _).drewN _⟩
    · have hkl : k = l.length := by omega
      have hR0 : Hid (E = 0) := by show _ = _; rw [hRk.out, hkl, List.drop_length]; rfl
      have hkn : ¬ (k : Int) < (l.length : Int) := by omega
      clear hRk
      go_wp2
      go_ret
      rw [hR0.out]; exact ⟨rfl, hMk⟩
end Go.Proofs.YtlaihnbappfbfaaGreatDoor

namespace Go.Proofs.YtlaihnbappfbfaaGreatDoor
open Go.RowKit

/-- What parse answers. -/
def RefParsePost (w : World) (x : Option BoxV) (e : Ending) (w' : World) : Prop :=
  match x with
  | none => e = .returned (.tuple #[.agg #[.int .i64 0, .slice none 0 0], .bool false]) ∧ Mods [] w w'
  | some b => ∃ v, e = .returned (.tuple #[.agg #[.int .i64 b.next, v], .bool true]) ∧ MsgsOwn w' w.heap.size v (b.msgs.map MsgV.b) ∧ Mods [] w w'

set_option maxRecDepth 100000 in
set_option maxHeartbeats 4000000 in
theorem refParse_any {w : World} (s : ByteArray) (hs : s.size ≤ 1000000) :
    Calls Tryz.prog 27 #[.string s] w (RefParsePost w (decBox 1048576 65536 s.data.toList)) := by
  have kc := fun W => run_bytes W s
  have HD : Hid (decBox 1048576 65536 s.data.toList = if rclose (rdBox 1048576 65536 s.data.toList).2 = 0 ∧ boxE (rdBox 1048576 65536 s.data.toList).1 = 0 then some (rdBox 1048576 65536 s.data.toList).1 else none) := rfl
  have HB : Hid (rdBox 1048576 65536 s.data.toList = (⟨(rstep 0 (pNum 1048576) ⟨s.data.toList, 0⟩).1, (rdMsgs 1048576 65536 (rstep 0 (pNum 32) (rstep 0 (pNum 1048576) ⟨s.data.toList, 0⟩).2).1 (rstep 0 (pNum 32) (rstep 0 (pNum 1048576) ⟨s.data.toList, 0⟩).2).2).1⟩, (rdMsgs 1048576 65536 (rstep 0 (pNum 32) (rstep 0 (pNum 1048576) ⟨s.data.toList, 0⟩).2).1 (rstep 0 (pNum 32) (rstep 0 (pNum 1048576) ⟨s.data.toList, 0⟩).2).2).2)) := rfl
  have Hs := slen s
  generalize decBox 1048576 65536 s.data.toList = res at *
  generalize rdBox 1048576 65536 s.data.toList = rd at *
  go_enter Tryz.func27, Tryz.ntmps27
  go_wp2_with fail
  obtain ⟨W0, hW0⟩ : ∃ W0, w.alloc (.cells #[.int .i64 0, .slice none 0 0] 34) = W0 := ⟨_, rfl⟩
  have hm0 : Mods [] w W0 := by rw [← hW0]; exact (Mods.refl _ _).alloc _
  have hz0 : ∃ z, W0.heap[w.heap.size]? = some (.cells z 34 (0, 0)) ∧ z.size = 2 := by rw [← hW0]; exact ⟨_, heap_alloc_new w _, rfl⟩
  have hs0 : W0.heap.size = w.heap.size + 1 := by rw [← hW0]; simp
  rw [hW0]
  have hb1 := bwOf_bytes W0 s
  have hmb := bwOf_mods W0 s
  have hzz := bwOf_size W0 s
  refine (newReader_any hb1 (by omega)).mono ?_
  rintro e w1 ⟨R, B, rfl, hr, hg, hgR, hR, hm⟩
  have hM1 : Mods [] w w1 := (hm0.trans' hmb).trans' hm
  have hz1 : ∃ z, w1.heap[w.heap.size]? = some (.cells z 34 (0, 0)) ∧ z.size = 2 := by
    obtain ⟨z, h1, h2⟩ := hz0
    exact ⟨z, hm.heap (hmb.heap h1 (by simp)) (by simp), h2⟩
  rw [hzz, hs0] at hg
  have Hr := Lib.hid hr
  have HM1 := Lib.hid hM1
  have Hz1 := Lib.hid hz1
  clear hb1 hmb hzz hr hm hM1 kc hm0 hz0 hs0 hz1 Hs hW0
  go_wp2_with fail
  refine (readerNumber_any 1048576 Hr.out).mono ?_
  obtain ⟨nx, st0, hn0⟩ : ∃ nx st, rstep 0 (pNum 1048576) ⟨s.data.toList, 0⟩ = (nx, st) := ⟨_, _, rfl⟩
  rw [hn0]
  rw [hn0] at HB
  rintro e w3 ⟨rfl, hr3, hm3⟩
  have hs3 := hm3.size
  go_wp2_with fail
  have I : BDec w (w3.alloc (.cells #[.int .i64 nx, .slice none 0 0] 34)) w.heap.size w3.heap.size R B nx (.slice none 0 0) [] st0 := by
    obtain ⟨z, h1, h2⟩ := Hz1.out
    exact ⟨⟨z, heap_alloc_old (hm3.heap h1 (by simp; omega)), h2⟩, heap_alloc_new w3 _, World.ownsRow_nil _ _ _ _, hr3.mods ((Mods.refl [] w3).alloc _) (by simp) (by simp), (HM1.out.trans hm3 (fun i hi => by simp at hi; right; omega)).alloc _, Nat.le_refl _, by omega, hgR, by omega⟩
  obtain ⟨Bb, hBb⟩ : ∃ Bb, w3.heap.size = Bb := ⟨_, rfl⟩
  rw [hBb] at I ⊢
  obtain ⟨W2, hW2⟩ : ∃ W2, w3.alloc (.cells #[.int .i64 nx, .slice none 0 0] 34) = W2 := ⟨_, rfl⟩
  rw [hW2] at I ⊢
  clear hBb hW2 hg hgR hR Hr hr3 hm3 hn0
  refine (readerNumber_any 32 I.ir).mono ?_
  obtain ⟨n, st1, hn1⟩ : ∃ nx st, rstep 0 (pNum 32) st0 = (nx, st) := ⟨_, _, rfl⟩
  rw [hn1]
  rw [hn1] at HB
  have hn32 : n ≤ 32 := by
    have := rnum_most 32 (by omega) st0
    rw [hn1] at this
    simp only at this
    omega
  rintro e w4 ⟨rfl, hr4, hm4⟩
  replace I := I.read hr4 hm4
  clear hr4 hm4 hn1
  have HI := Lib.hid I
  clear I
  go_wp2_with fail
  obtain ⟨i0, hi, hz0, hz1, hz2⟩ := info_parts infoMsg
  go_loopw [7, 8] (fun i _ wr => ∃ (k : Nat) (v : Value), i = .int .i64 k ∧ k ≤ n ∧ Hid (BDec w wr w.heap.size Bb R B nx v ((rdMsgs 1048576 65536 k st1).1.map MsgV.b) (rdMsgs 1048576 65536 k st1).2)) (fun i _ _ => n - (intOf i).toNat)
  case atStart => exact ⟨0, _, rfl, by omega, HI.out⟩
  case round =>
    clear HI
    obtain ⟨k, v, rfl, hk, hI⟩ := hrel
    by_cases hlt : k < n
    · have hrl := rdMsgs_length 1048576 65536 k st1
      have hnx := rdMsgs_snoc 1048576 65536 k st1
      obtain ⟨ls, sk, hls⟩ : ∃ ls sk, rdMsgs 1048576 65536 k st1 = (ls, sk) := ⟨_, _, rfl⟩
      rw [hls] at hI hnx hrl
      try simp only at hI hnx hrl
      obtain ⟨a0, s1, h1⟩ : ∃ a s, rstep 0 (pNum 1048576) sk = (a, s) := ⟨_, _, rfl⟩
      obtain ⟨a1, s2, h2⟩ : ∃ a s, rstep [] (pText 65536) s1 = (a, s) := ⟨_, _, rfl⟩
      obtain ⟨a2, s3, h3⟩ : ∃ a s, rstep 0 (pNum 1073741824) s2 = (a, s) := ⟨_, _, rfl⟩
      obtain ⟨a3, s4, h4⟩ : ∃ a s, rstep false pFlag s3 = (a, s) := ⟨_, _, rfl⟩
      obtain ⟨a4, s5, h5⟩ : ∃ a s, rstep [] (pText 1024) s4 = (a, s) := ⟨_, _, rfl⟩
      have hrm : rdMsg 1048576 65536 sk = (⟨a0, a1, a2, a4, a3⟩, s5) := by
        unfold rdMsg
        simp only [h1, h2, h3, h4, h5]
      rw [hrm] at hnx
      have HNX := Lib.hid hnx
      have HRL := Lib.hid hrl
      have H1 := Lib.hid h1
      have H2 := Lib.hid h2
      have H3 := Lib.hid h3
      have H4 := Lib.hid h4
      have H5 := Lib.hid h5
      obtain ⟨va, vn, vc, rfl⟩ := owns_shape hI.out.own
      have hll : (ls.map MsgV.b).length = k := by rw [List.length_map]; exact hrl
      have HLL := Lib.hid hll
      have hkn : (k : Int) < (n : Int) := by omega
      clear hnx hrl h1 h2 h3 h4 h5 hrm hls hll
      go_wp2_with fail
      refine (readerNumber_any 1048576 hI.out.ir).mono ?_
      rw [H1.out]
      rintro e w5 ⟨rfl, hr5, hm5⟩
      have I5 := hI.out.read hr5 hm5
      clear hr5 hm5
      go_wp2_with fail
      have J : MDec w (w5.alloc (.cells #[.int .i64 a0, .string ⟨#[]⟩, .int .i64 0, .string ⟨#[]⟩, .bool false] 57)) w.heap.size Bb R B w5.heap.size nx (.slice va vn vc) (ls.map MsgV.b) s1 ⟨a0, ⟨#[]⟩, 0, ⟨#[]⟩, false⟩ :=
        ⟨I5.keep ((Mods.refl [] w5).alloc _), heap_alloc_new w5 _, fun e => by have := (I5.own.lt _ e).2; omega, lt_of_heap I5.b⟩
      obtain ⟨X, hX⟩ : ∃ X, w5.heap.size = X := ⟨_, rfl⟩
      rw [hX] at J ⊢
      obtain ⟨W2, hW2⟩ : ∃ W2, w5.alloc (.cells #[.int .i64 a0, .string ⟨#[]⟩, .int .i64 0, .string ⟨#[]⟩, .bool false] 57) = W2 := ⟨_, rfl⟩
      rw [hW2] at J ⊢
      clear hX hW2 hI I5
      refine (readerText_any 65536 J.d.ir).mono ?_
      rw [H2.out]
      rintro e w6 ⟨rfl, hr5, hm5⟩
      replace J := J.read hr5 hm5
      obtain ⟨⟨d0, d1, d2, d3, d4⟩, hf⟩ := J.cells
      have f0 := hf 1
      replace J := J.set 1 (.string ⟨a1.toArray⟩) ⟨a0, ⟨a1.toArray⟩, 0, ⟨#[]⟩, false⟩ rfl
      clear hr5 hm5 hf
      go_wp2_with fail
      clear d0 d1 d2 d3 d4 f0
      refine (readerNumber_any 1073741824 J.d.ir).mono ?_
      rw [H3.out]
      rintro e w7 ⟨rfl, hr5, hm5⟩
      replace J := J.read hr5 hm5
      obtain ⟨⟨d0, d1, d2, d3, d4⟩, hf⟩ := J.cells
      have f0 := hf 2
      replace J := J.set 2 (.int .i64 a2) ⟨a0, ⟨a1.toArray⟩, a2, ⟨#[]⟩, false⟩ rfl
      clear hr5 hm5 hf
      go_wp2_with fail
      clear d0 d1 d2 d3 d4 f0
      refine (readerFlag_any J.d.ir).mono ?_
      rw [H4.out]
      rintro e w8 ⟨rfl, hr5, hm5⟩
      replace J := J.read hr5 hm5
      obtain ⟨⟨d0, d1, d2, d3, d4⟩, hf⟩ := J.cells
      have f0 := hf 4
      replace J := J.set 4 (.bool a3) ⟨a0, ⟨a1.toArray⟩, a2, ⟨#[]⟩, a3⟩ rfl
      clear hr5 hm5 hf
      go_wp2_with fail
      clear d0 d1 d2 d3 d4 f0
      refine (readerText_any 1024 J.d.ir).mono ?_
      rw [H5.out]
      rintro e w9 ⟨rfl, hr5, hm5⟩
      replace J := J.read hr5 hm5
      obtain ⟨⟨d0, d1, d2, d3, d4⟩, hf⟩ := J.cells
      have f0 := hf 3
      replace J := J.set 3 (.string ⟨a4.toArray⟩) ⟨a0, ⟨a1.toArray⟩, a2, ⟨a4.toArray⟩, a3⟩ rfl
      clear hr5 hm5 hf
      obtain ⟨W9, hW9⟩ : ∃ W9, w9.setCell ⟨X, 3, none⟩ (.string ⟨a4.toArray⟩) = W9 := ⟨_, rfl⟩
      rw [hW9] at J
      have k1 := cell_of_heap J.d.b 1
      simp only [List.getElem?_toArray, List.getElem?_cons_zero, List.getElem?_cons_succ] at k1
      have kf := frozen_of_heap J.d.b 1
      have Bl : Bb < W9.heap.size := lt_of_heap J.d.b
      obtain ⟨⟨e0, e1, e2, e3, e4⟩, _⟩ := J.cells
      try simp only at e0 e1 e2 e3 e4
      have hne : some Bb ≠ (Value.slice va vn vc).ownBlock := fun e => by have := (J.d.own.lt Bb e.symm).1; omega
      have HJ := Lib.hid J
      clear J
      clear d0 d1 d2 d4
      go_wp2_with (at_builtin; refine wpList_append_own _ rfl _ _ 31 rfl (Bb + 1) 57 i0 _ 5 56 Tryz.underlying31 hi hz0 hz1 hz2 rfl (by decide) _ _ _ rfl (World.ownsRow.alloc HJ.out.d.own _) ⟨W9.heap.size, 0, none⟩ 1 1 [_, _, _, _, _] rfl rfl (World.news_of_block (heap_alloc_new W9 (.cells #[_, _, _, _, _] _))) ?c1 ?c2 ?c3 ?c4 ?_)
      case c1 => intro u hu; simp at hu; rcases hu with rfl | rfl | rfl | rfl | rfl <;> rfl
      case c2 => rw [HLL.out]; unfold maxLen; omega
      case c3 => rw [HLL.out]; omega
      case c4 => simp; omega
      intro v' w10 hown hgr _
      have kc : w10.cell? ⟨Bb, 1, none⟩ = some (.slice va vn vc) := (hgr.cell_far ⟨Bb, 1, none⟩ (by simp; omega) hne).trans (Lib.cell?_alloc_some _ k1)
      have kfr : w10.frozen? ⟨Bb, 1, none⟩ = false := (hgr.frozen_far ⟨Bb, 1, none⟩ (by simp; omega) hne).trans ((((Mods.refl [] W9).alloc _).frozen (p := ⟨Bb, 1, none⟩) Bl (by simp)).trans kf)
      have HA := Lib.hid (HJ.out.add (by rw [List.length_map]; exact hown) hgr)
      obtain ⟨va', vn', vc', rfl⟩ := owns_shape hown
      clear hown hgr e0 e1 e2 e3 e4 k1 kf HJ d3 f0 hW9
      go_wp2
      go_round
      case rel =>
        refine ⟨k + 1, .slice va' vn' vc', by go_num, by omega, ?_⟩
        show BDec _ _ _ _ _ _ _ _ _ _
        rw [HNX.out, List.map_append]
        exact HA.out
      case measure => simp [intOf] <;> omega
    · obtain rfl : k = n := by omega
      have hkn : ¬ (k : Int) < (k : Int) := by omega
      rw [HB.out] at HD
      have hsnd := rdMsgs_sender 1048576 65536 (by omega) k st1
      have hrl := rdMsgs_length 1048576 65536 k st1
      obtain ⟨ls, sk, hls⟩ : ∃ ls sk, rdMsgs 1048576 65536 k st1 = (ls, sk) := ⟨_, _, rfl⟩
      rw [hls] at hI HD hsnd hrl
      try simp only at hI HD hsnd hrl
      have hll : (ls.map MsgV.b).length = k := by rw [List.length_map]; exact hrl
      have hcl := readerClose_any hI.out.ir
      have hck := fun W (h : Mods [] wr W) => refBoxCheck_any nx (w := W) ((hI.out.keep h).own.at (by omega)) (fun m hm => by
        obtain ⟨x, hx, rfl⟩ := List.mem_map.1 hm
        have := hsnd x hx
        show x.sender.toArray.size ≤ _
        rw [List.size_toArray]; omega)
      rw [map_b_v] at hck
      obtain ⟨va, vn, vc, rfl⟩ := owns_shape hI.out.own
      have hck' := hck wr (Mods.refl _ _)
      obtain ⟨x, hx⟩ : ∃ x, rclose sk = x := ⟨_, rfl⟩
      obtain ⟨y, hy⟩ : ∃ y, boxE ⟨nx, ls⟩ = y := ⟨_, rfl⟩
      rw [hx] at hcl HD
      rw [hy] at hck' HD
      have g0 := cell_of_heap hI.out.b 0
      have g1 := cell_of_heap hI.out.b 1
      simp only [List.getElem?_toArray, List.getElem?_cons_zero, List.getElem?_cons_succ] at g0 g1
      have HCK := Lib.hid hck'
      clear hck hck' hx hy hsnd hrl hls hll hlt
      have hsz : Hid ((Tryz.prog.info? 34).map (·.size) = some 2) := by show _ = _; kernel_rfl
      by_cases hx0 : x = 0
      · subst hx0
        by_cases hy0 : y = 0
        · subst hy0
          rw [if_pos ⟨rfl, rfl⟩] at HD
          go_wp2_with (first
            | (go_at_call 60; refine hcl.mono ?_; rintro e w5 ⟨rfl, rfl⟩)
            | (go_at_call 20; refine HCK.out.mono ?_; rintro e w6 ⟨rfl, hm6⟩; have HJ := Lib.hid (hI.out.keep hm6); have k0 := hm6.keep g0; have k1 := hm6.keep g1; clear hm6; obtain ⟨z, hz, hzs⟩ := HJ.out.rb; have HZ := Lib.hid hz; have HZS := Lib.hid hzs; clear hz hzs)
            | (refine wpList_store_row rfl 34 _ _ rfl w.heap.size #[.int .i64 nx, .slice va vn vc] rfl rfl _ _ HZ.out hsz.out HZS.out (box_one _ _ _ _) ?_))
          refine bodyPost_ret (results_cell_tmp Tryz.results27 _ _ w.heap.size _ #[.int .i64 nx, .slice va vn vc] _ _ rfl (setRow_heap _ _ _ _ _ _ HZ.out) Tryz.underlying34 rfl hsz.out) rfl ?_
          rw [HD.out]
          refine ⟨_, rfl, ?_, mods_setRow HJ.out.m (.inr (Nat.le_refl _))⟩
          have h2 := HJ.out.o2
          have h3 := HJ.out.o3
          have h4 := HJ.out.o4
          exact World.ownsRow.mono (HJ.out.own.mods (S := [w.heap.size]) (mods_setRow (Mods.refl _ _) (.inl (by simp))) (fun q hq => by
            obtain rfl := List.mem_singleton.1 hq
            exact fun e => by have := (HJ.out.own.lt _ e).1; omega)) (by omega)
        · rw [if_neg (fun h => hy0 h.2)] at HD
          have hy1 : (y != 0) = true := by simpa using hy0
          go_wp2_with (first
            | (go_at_call 60; refine hcl.mono ?_; rintro e w5 ⟨rfl, rfl⟩)
            | (go_at_call 20; refine HCK.out.mono ?_; rintro e w6 ⟨rfl, hm6⟩; have HJ := Lib.hid (hI.out.keep hm6); clear hm6; obtain ⟨z, hz, hzs⟩ := HJ.out.rb; have HZ := Lib.hid hz; have HZS := Lib.hid hzs; clear hz hzs)
            | (refine wpList_store_row rfl 34 _ _ rfl w.heap.size #[.int .i64 0, .slice none 0 0] rfl rfl _ _ HZ.out hsz.out HZS.out (box_one _ _ _ _) ?_))
          refine bodyPost_ret (results_cell_tmp Tryz.results27 _ _ w.heap.size _ #[.int .i64 0, .slice none 0 0] _ _ rfl (setRow_heap _ _ _ _ _ _ HZ.out) Tryz.underlying34 rfl hsz.out) rfl ?_
          rw [HD.out]
          exact ⟨rfl, mods_setRow HJ.out.m (.inr (Nat.le_refl _))⟩
      · rw [if_neg (fun h => hx0 h.1)] at HD
        have hx1 : (x != 0) = true := by simpa using hx0
        have HJ := hI
        obtain ⟨z, hz, hzs⟩ := HJ.out.rb
        have HZ := Lib.hid hz
        have HZS := Lib.hid hzs
        clear hz hzs
        go_wp2_with (first
          | (go_at_call 60; refine hcl.mono ?_; rintro e w5 ⟨rfl, rfl⟩)
          | (refine wpList_store_row rfl 34 _ _ rfl w.heap.size #[.int .i64 0, .slice none 0 0] rfl rfl _ _ HZ.out hsz.out HZS.out (box_one _ _ _ _) ?_))
        refine bodyPost_ret (results_cell_tmp Tryz.results27 _ _ w.heap.size _ #[.int .i64 0, .slice none 0 0] _ _ rfl (setRow_heap _ _ _ _ _ _ HZ.out) Tryz.underlying34 rfl hsz.out) rfl ?_
        rw [HD.out]
        exact ⟨rfl, mods_setRow HJ.out.m (.inr (Nat.le_refl _))⟩
end Go.Proofs.YtlaihnbappfbfaaGreatDoor
