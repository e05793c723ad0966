/- Walks of mailbox: Read. -/
import Derived.Test.YtlaihnbappfbfaaGreatDoorBoxW8
namespace Go.Proofs.YtlaihnbappfbfaaGreatDoor
open Go.RowKit

def MsgV.see (m : MsgV) : MsgV := ⟨m.number, m.sender, m.second, m.text, true⟩
def MsgB.see (m : MsgB) : MsgB := ⟨m.number, m.sender, m.second, m.text, true⟩
theorem MsgB.see_v (m : MsgB) : m.see.v = m.v.see := rfl
/-- The mailbox in which message i is seen. -/
def markSeen (b : BoxV) (i : Nat) : BoxV := ⟨b.next, b.msgs.modify i MsgV.see⟩
theorem msgsE_see (next : Int) (l : List MsgV) (i : Nat) (last : Int) : msgsE next last (l.modify i MsgV.see) = msgsE next last l := by
  induction l generalizing i last with
  | nil => simp
  | cons m r ih =>
    cases i with
    | zero => simp only [List.modify_zero_cons]; rfl
    | succ i =>
      simp only [List.modify_succ_cons]
      unfold msgsE
      rw [ih]
theorem boxE_see (b : BoxV) (i : Nat) : boxE (markSeen b i) = boxE b := by
  unfold boxE markSeen
  simp only [List.length_modify, msgsE_see]
theorem flat_see (q : List MsgB) (i : Nat) : (q.flatMap MsgB.cells).set (i * 5 + 4) (.bool true) = (q.modify i MsgB.see).flatMap MsgB.cells := by
  induction q generalizing i with
  | nil => simp
  | cons x r ih =>
    cases i with
    | zero => simp only [List.modify_zero_cons, List.flatMap_cons]; rfl
    | succ i =>
      simp only [List.modify_succ_cons, List.flatMap_cons]
      have hx : x.cells.length = 5 := rfl
      rw [List.set_append_right (h := by omega), hx, show (i + 1) * 5 + 4 - 5 = i * 5 + 4 by omega, ih]
theorem modify_map_v (q : List MsgB) (i : Nat) : (q.modify i MsgB.see).map MsgB.v = (q.map MsgB.v).modify i MsgV.see := by
  induction q generalizing i with
  | nil => simp
  | cons x r ih =>
    cases i with
    | zero => simp [MsgB.see_v]
    | succ i => simp [ih]
/-- A message of the mailbox is seen. -/
theorem BxI.see {w wx : World} {A V n base g cap : Nat} {ml : Int} {l : List ChgB} {next : Int} {q : List MsgB} (h : BxI w wx A V n base ml l next (.slice (some ⟨g, 0, none⟩) q.length cap) q) (i : Nat) :
    BxI w (wx.setCell ⟨g, i * 5 + 4, none⟩ (.bool true)) A V n base ml l next (.slice (some ⟨g, 0, none⟩) (q.modify i MsgB.see).length cap) (q.modify i MsgB.see) := by
  obtain ⟨hB, cur, hc⟩ := h.own.block (g := g) rfl
  obtain ⟨h1, h2⟩ := World.ownsRow.stored h.own (i * 5 + 4) (.bool true)
  have hne : A ≠ g := fun e => h.ga (by rw [e]; rfl)
  have hm : Mods [g] wx (wx.setCell ⟨g, i * 5 + 4, none⟩ (.bool true)) := (Mods.refl _ _).setCell (.inl (by simp)) _
  have := h.vb
  have := h.lb
  refine ⟨by rw [List.length_modify]; exact hm.heap h.a (by simpa using hne), ?_, h.vi.high (by omega) hc (by decide) hm, h.g.high (by omega) hm, h.k.fresh hm (by omega), h.lb, h.la, h.va, h.vb, h.ga⟩
  unfold MsgsOwn
  rw [← flat_see]
  simpa using h1

theorem BxI.see' {w wx : World} {A V n base g cap L : Nat} {ml : Int} {l : List ChgB} {next : Int} {q : List MsgB} (h : BxI w wx A V n base ml l next (.slice (some ⟨g, 0, none⟩) L cap) q) (i : Nat) :
    BxI w (wx.setCell ⟨g, i * 5 + 4, none⟩ (.bool true)) A V n base ml l next (.slice (some ⟨g, 0, none⟩) L cap) (q.modify i MsgB.see) := by
  obtain rfl := own_len h.own
  have := h.see i
  rw [List.length_modify] at this
  exact this
theorem own_frozen {w : World} {base g L cap : Nat} {q : List MsgB} (h : MsgsOwn w base (.slice (some ⟨g, 0, none⟩) L cap) q) (j : Nat) : w.frozen? ⟨g, j, none⟩ = false := by
  obtain rfl := own_len h
  exact World.ownsRow.frozenAt h j
/-- What Read answers. -/
def readRes (nm : ByteArray) (l : List ChgB) (x : Option BoxV × Int) (number : Int) : MsgV × Int × Nat × List ChgB :=
  match x.1 with
  | none => (⟨0, [], 0, [], false⟩, x.2, 1, l)
  | some b => if idxF number b.msgs 0 = -1 then (⟨0, [], 0, [], false⟩, 8, 1, l)
    else match b.msgs[(idxF number b.msgs 0).toNat]? with
      | none => (⟨0, [], 0, [], false⟩, 8, 1, l)
      | some m => if m.seen = true then (m, 0, 1, l) else (m, 0, 2, l ++ [⟨boxN nm, ⟨(encBox (markSeen b (idxF number b.msgs 0).toNat)).toArray⟩, false⟩])
def ReadMPost (w : World) (V n : Nat) (r : MsgV × Int × Nat × List ChgB) (e : Ending) (w' : World) : Prop :=
  e = .returned (.tuple #[r.1.b.val, .int .i64 r.2.1]) ∧ ViewIs w' V (n + r.2.2.1) r.2.2.2 ∧ Keep (VKeep V) w w'

theorem msg_one (m : MsgB) : m.cells.toArray.all (·.oneCell') = true :=
  all_oneCell_toArray (cs := m.cells) (by intro v hv; simp [MsgB.cells] at hv; rcases hv with rfl | rfl | rfl | rfl | rfl <;> rfl)
theorem GeI.out2 {w wx : World} {R V n sz : Nat} {T : TypeId} {l : List ChgB} (h : GeI w wx R V n T sz l) (c : Array Value) (v : Value) (base : Nat) (q : List MsgB) (ho : MsgsOwn wx base v q) (hb : R < base) : MsgsOwn (wx.setRow R c) base v q :=
  ho.mods (S := [R]) (mods_setRow (Mods.refl _ _) (.inl (by simp))) (fun k hk => by
    obtain rfl := List.mem_singleton.1 hk
    exact fun e => by have := (ho.lt _ e).1; omega)

set_option maxRecDepth 100000 in
set_option maxHeartbeats 2000000 in
theorem boxReadM_any {w : World} {V n : Nat} {l : List ChgB} {ml : Int} (h : ViewIs w V n l) (G : Glob w V ml) (hn : n < 10000000) (nm : ByteArray) (hsz : nm.size ≤ 1000000) (number : Int) (hbe : ∀ b, (boxGet l nm).1 = some b → boxE b = 0) (hwd : (boxGet l nm).1 ≠ none → nm.size ≤ 100 ∧ wordOK nm.data.toList = true) :
    Calls Tryz.prog 39 #[.pointer (some ⟨V, 0, none⟩), .string nm, .int .i64 number] w (ReadMPost w V n (readRes nm l (boxGet l nm) number)) := by
  have hm1 : Mods [] w (w.alloc (.cells #[.int .i64 0, .string ⟨#[]⟩, .int .i64 0, .string ⟨#[]⟩, .bool false] 57)) := (Mods.refl _ _).alloc _
  have hI : GeI w (w.alloc (.cells #[.int .i64 0, .string ⟨#[]⟩, .int .i64 0, .string ⟨#[]⟩, .bool false] 57)) w.heap.size V n 57 5 l :=
    ⟨⟨_, heap_alloc_new w _, rfl⟩, h.mods hm1, G.u.mods hm1 (by simp), Keep.of_mods hm1 (by simp), Nat.le_refl _, h.lt, G.g0, by decide⟩
  have hG1 := G.mods hm1
  have hf := boxFind_any hI.v hG1 (by omega) nm hsz number (fun b hb => by have := (boxE_zero (hbe b hb)).2.2.1; omega)
  have HFI := Lib.hid hf
  have HI := Lib.hid hI
  have HG1 := Lib.hid hG1
  have hbs : Hid ((Tryz.prog.info? 57).map (·.size) = some 5) := by show _ = _; kernel_rfl
  have herr := boxGet_err (l := l) (nm := nm)
  have hVw := h.lt
  obtain ⟨x, hx⟩ : ∃ x, boxGet l nm = x := ⟨_, rfl⟩
  rw [hx] at HFI herr hbe hwd ⊢
  clear hm1 hI hf h G hx hG1
  go_enter Tryz.func39, Tryz.ntmps39
  go_wp2_with fail
  refine HFI.out.mono ?_
  rintro e w2 ⟨hv, hk, hd⟩
  have I := HI.out.view hv hk
  have hG2 := HG1.out.keepV hk
  have HG2 := Lib.hid hG2
  have hs2 : w.heap.size + 1 ≤ w2.heap.size := by have := hk.size; simp at this; omega
  clear hv hk hG2
  obtain ⟨o, ex⟩ := x
  cases o with
  | none =>
    have hex := herr rfl
    simp only at hex hd
    obtain rfl := hd
    have hex1 : (ex != 0) = true := by simpa using hex
    have J := I.mods ((Mods.refl [] w2).alloc (.cells #[.int .i64 0, .slice none 0 0] 34))
    obtain ⟨z, hz, hzs⟩ := J.rb
    have HZ := Lib.hid hz
    have HZS := Lib.hid hzs
    have HJ := Lib.hid J
    clear I J hz hzs hbe herr hwd
    go_wp2_with (refine wpList_store_row rfl 57 _ _ rfl w.heap.size #[.int .i64 0, .string ⟨#[]⟩, .int .i64 0, .string ⟨#[]⟩, .bool false] rfl rfl _ _ HZ.out hbs.out HZS.out (msg_one ⟨0, ⟨#[]⟩, 0, ⟨#[]⟩, false⟩) ?_)
    refine bodyPost_ret (results_cell_tmp Tryz.results39 _ _ w.heap.size _ #[.int .i64 0, .string ⟨#[]⟩, .int .i64 0, .string ⟨#[]⟩, .bool false] _ _ rfl (setRow_heap _ _ _ _ _ _ HZ.out) Tryz.underlying57 rfl hbs.out) rfl ?_
    obtain ⟨r1, r2⟩ := HJ.out.out #[.int .i64 0, .string ⟨#[]⟩, .int .i64 0, .string ⟨#[]⟩, .bool false]
    exact ⟨rfl, r1, r2⟩
  | some b =>
    have hbe' := hbe b rfl
    have hwd' := hwd (by simp)
    have hsp := idxF_spec number b.msgs 0
    have hRR : readRes nm l (some b, ex) number = ((if idxF number b.msgs 0 = -1 then (⟨0, [], 0, [], false⟩, 8, 1, l)
      else match b.msgs[(idxF number b.msgs 0).toNat]? with
      | none => (⟨0, [], 0, [], false⟩, 8, 1, l)
      | some m => if m.seen = true then (m, 0, 1, l) else (m, 0, 2, l ++ [⟨boxN nm, ⟨(encBox (markSeen b (idxF number b.msgs 0).toNat)).toArray⟩, false⟩])) : MsgV × Int × Nat × List ChgB) := rfl
    simp only at hd
    obtain ⟨ix, hix⟩ : ∃ ix, idxF number b.msgs 0 = ix := ⟨_, rfl⟩
    rw [hix] at hRR hsp hd
    clear hix herr hbe hwd
    by_cases hi0 : ix = -1
    · rw [if_pos hi0] at hd hRR
      obtain rfl := hd
      have HRR := Lib.hid hRR
      have J := I.mods ((Mods.refl [] w2).alloc (.cells #[.int .i64 0, .slice none 0 0] 34))
      obtain ⟨z, hz, hzs⟩ := J.rb
      have HZ := Lib.hid hz
      have HZS := Lib.hid hzs
      have HJ := Lib.hid J
      clear I J hz hzs hRR hi0 hsp
      go_wp2_with (refine wpList_store_row rfl 57 _ _ rfl w.heap.size #[.int .i64 0, .string ⟨#[]⟩, .int .i64 0, .string ⟨#[]⟩, .bool false] rfl rfl _ _ HZ.out hbs.out HZS.out (msg_one ⟨0, ⟨#[]⟩, 0, ⟨#[]⟩, false⟩) ?_)
      refine bodyPost_ret (results_cell_tmp Tryz.results39 _ _ w.heap.size _ #[.int .i64 0, .string ⟨#[]⟩, .int .i64 0, .string ⟨#[]⟩, .bool false] _ _ rfl (setRow_heap _ _ _ _ _ _ HZ.out) Tryz.underlying57 rfl hbs.out) rfl ?_
      obtain ⟨r1, r2⟩ := HJ.out.out #[.int .i64 0, .string ⟨#[]⟩, .int .i64 0, .string ⟨#[]⟩, .bool false]
      rw [HRR.out]
      exact ⟨rfl, r1, r2⟩
    · rw [if_neg hi0] at hd hRR
      obtain ⟨i, hil, hi1, _⟩ := hsp.resolve_left hi0
      rw [Nat.zero_add] at hi1
      subst hi1
      simp only [Int.toNat_natCast] at hRR
      obtain ⟨m, hm⟩ : ∃ m, b.msgs[i] = m := ⟨_, rfl⟩
      rw [List.getElem?_eq_getElem hil, hm] at hRR
      simp only at hRR
      obtain ⟨v, rfl, ho⟩ := hd
      have hln : (b.msgs.map MsgV.b).length = b.msgs.length := List.length_map ..
      have hb32 := (boxE_zero hbe').2.2.1
      have hpos : 0 < (b.msgs.map MsgV.b).length := by omega
      obtain ⟨g, cap, rfl⟩ : ∃ g cap, v = .slice (some ⟨g, 0, none⟩) (b.msgs.map MsgV.b).length cap := by
        obtain ⟨_, ⟨e, e2⟩ | ⟨g', cap, cur, e, _⟩⟩ := ho
        · omega
        · exact ⟨g', cap, e⟩
      have hq : (b.msgs.map MsgV.b)[i]? = some m.b := by rw [List.getElem?_map, List.getElem?_eq_getElem hil, hm]; rfl
      have hA := (Mods.refl [] w2).alloc (.cells #[.int .i64 b.next, .slice (some ⟨g, 0, none⟩) (b.msgs.map MsgV.b).length cap] 34)
      have J := I.mods hA
      have hg1 : (w.alloc (.cells #[.int .i64 0, .string ⟨#[]⟩, .int .i64 0, .string ⟨#[]⟩, .bool false] 57)).heap.size = w.heap.size + 1 := by simp
      rw [hg1] at ho
      have hgl := ho.lt g rfl
      have B : BxI w (w2.alloc (.cells #[.int .i64 b.next, .slice (some ⟨g, 0, none⟩) (b.msgs.map MsgV.b).length cap] 34)) w2.heap.size V (n + 1) (w.heap.size + 1) ml l b.next (.slice (some ⟨g, 0, none⟩) (b.msgs.map MsgV.b).length cap) (b.msgs.map MsgV.b) :=
        ⟨heap_alloc_new w2 _, ho.mods hA (by simp), J.v, HG2.out.mods hA, J.k, by omega, by omega, by omega, by omega, fun e => by simp only [Value.ownBlock, Option.some.injEq] at e; omega⟩
      have hcell := fun W (hW : MsgsOwn W (w.heap.size + 1) (.slice (some ⟨g, 0, none⟩) (b.msgs.map MsgV.b).length cap) (b.msgs.map MsgV.b)) j (hj : j < 5) => (World.ownsRow.cellAt hW (i * 5 + j) (by omega)).trans (flat5 _ i j hj hq)
      have r0 := hcell _ B.own 0 (by omega)
      have r1 := hcell _ B.own 1 (by omega)
      have r2 := hcell _ B.own 2 (by omega)
      have r3 := hcell _ B.own 3 (by omega)
      have r4 := hcell _ B.own 4 (by omega)
      have hil' : (i : Int) < ((b.msgs.map MsgV.b).length : Int) := by omega
      have HB := Lib.hid B
      have HJ := Lib.hid J
      have HRR := Lib.hid hRR
      have HO := Lib.hid ho
      have hi6 : ((i : Int) == -1) = false := by simp <;> omega
      obtain ⟨⟨num, snd, sec, txt, seen⟩, hmb⟩ : ∃ mb, m.b = mb := ⟨_, rfl⟩
      rw [hmb] at r0 r1 r2 r3 r4
      simp only [MsgB.cells, List.getElem?_cons_zero, List.getElem?_cons_succ, Nat.add_zero] at r0 r1 r2 r3 r4
      generalize hL : (b.msgs.map MsgV.b).length = L at *
      have HM := Lib.hid hmb
      have HL := Lib.hid hL
      clear hsp I J B ho hRR hq hm hcell hmb hA hg1 hL hln
      have hwM : Mods [] (w2.alloc (.cells #[.int .i64 b.next, .slice (some ⟨g, 0, none⟩) L cap] 34)) ((w2.alloc (.cells #[.int .i64 b.next, .slice (some ⟨g, 0, none⟩) L cap] 34)).alloc (.cells #[.int .i64 num, .string snd, .int .i64 sec, .string txt, .bool seen] 57)) := (Mods.refl _ _).alloc _
      have hM3 := heap_alloc_new (w2.alloc (.cells #[.int .i64 b.next, .slice (some ⟨g, 0, none⟩) L cap] 34)) (.cells #[.int .i64 num, .string snd, .int .i64 sec, .string txt, .bool seen] 57)
      rw [World.size_alloc] at hM3
      have hval : Hid (m.b.val = .agg #[.int .i64 num, .string snd, .int .i64 sec, .string txt, .bool seen]) := by show _ = _; rw [HM.out]; rfl
      cases seen
      · have hms : Hid (m.seen = false) := congrArg MsgB.seen HM.out
        have B2 := HB.out.mods hwM
        have r4' := hwM.keep r4
        have f4' : ((w2.alloc (.cells #[.int .i64 b.next, .slice (some ⟨g, 0, none⟩) L cap] 34)).alloc (.cells #[.int .i64 num, .string snd, .int .i64 sec, .string txt, .bool false] 57)).frozen? ⟨g, i * 5 + 4, none⟩ = false := own_frozen B2.own _
        have hne : w2.heap.size ≠ g := by omega
        have hne1 : w2.heap.size + 1 ≠ g := by omega
        have B3 := B2.see' i
        have hM4 : Hid ((((w2.alloc (.cells #[.int .i64 b.next, .slice (some ⟨g, 0, none⟩) L cap] 34)).alloc (.cells #[.int .i64 num, .string snd, .int .i64 sec, .string txt, .bool false] 57)).setCell ⟨g, i * 5 + 4, none⟩ (.bool true)).heap[w2.heap.size + 1]? = some (.cells #[.int .i64 num, .string snd, .int .i64 sec, .string txt, .bool false] 57 (0, 0))) := by
          show _ = _
          rw [heap_setCell_ne hne1]; exact hM3
        have hR4 : Hid (∃ z, (((w2.alloc (.cells #[.int .i64 b.next, .slice (some ⟨g, 0, none⟩) L cap] 34)).alloc (.cells #[.int .i64 num, .string snd, .int .i64 sec, .string txt, .bool false] 57)).setCell ⟨g, i * 5 + 4, none⟩ (.bool true)).heap[w.heap.size]? = some (.cells z 57 (0, 0)) ∧ z.size = 5) := by
          obtain ⟨z, hz, hzs⟩ := (HJ.out.mods hwM).rb
          exact ⟨z, by rw [heap_setCell_ne (by omega)]; exact hz, hzs⟩
        have hwr := boxWrite_ok B3.vi B3.g (by omega) nm hwd'.1 hwd'.2 b.next (B3.own.at (by rw [List.length_modify, List.length_map]; omega)) (by rw [modify_map_v, map_b_v]; exact (boxE_see b i).trans hbe')
        rw [modify_map_v, map_b_v] at hwr
        have HWR := Lib.hid hwr
        have HB3 := Lib.hid B3
        clear B2 B3 hwr hwM hM3
        have hweq : ((w2.setCell ⟨g, i * 5 + 4, none⟩ (.bool true)).alloc (.cells #[.int .i64 b.next, .slice (some ⟨g, 0, none⟩) L cap] 34)).alloc (.cells #[.int .i64 num, .string snd, .int .i64 sec, .string txt, .bool false] 57) = ((w2.alloc (.cells #[.int .i64 b.next, .slice (some ⟨g, 0, none⟩) L cap] 34)).alloc (.cells #[.int .i64 num, .string snd, .int .i64 sec, .string txt, .bool false] 57)).setCell ⟨g, i * 5 + 4, none⟩ (.bool true) := by
          rw [World.setCell_alloc_past _ _ _ _ (by rw [World.size_alloc]; omega), World.setCell_alloc_past _ _ _ _ (by omega)]
        have HWQ := Lib.hid hweq
        clear hweq
        go_wp2_with fail
        rw [HWQ.out]
        refine HWR.out.mono ?_
        rintro e w7 ⟨rfl, hv7, hk7⟩
        have m7 := keepV_heap hk7 (by omega) (by decide) hM4.out
        have hkk := HB3.out.k.trans hk7
        have hgg := HB3.out.g.keepV hk7
        have J7 : GeI w w7 w.heap.size V (n + 2) 57 5 (l ++ [⟨boxN nm, ⟨(encBox (markSeen b i)).toArray⟩, false⟩]) := by
          obtain ⟨z, hz, hzs⟩ := hR4.out
          exact ⟨⟨z, keepV_heap hk7 (by omega) (by decide) hz, hzs⟩, hv7, hgg.u, hkk, Nat.le_refl _, hVw, hgg.g0, by decide⟩
        have m0 := cell_of_heap m7 0
        have m1 := cell_of_heap m7 1
        have m2 := cell_of_heap m7 2
        have m3 := cell_of_heap m7 3
        have m4 := cell_of_heap m7 4
        simp only [List.getElem?_toArray, List.getElem?_cons_zero, List.getElem?_cons_succ] at m0 m1 m2 m3 m4
        obtain ⟨z, hz, hzs⟩ := J7.rb
        have HZ := Lib.hid hz
        have HZS := Lib.hid hzs
        have HJ7 := Lib.hid J7
        clear J7 hz hzs hkk hgg hk7 hv7 m7 r0 r1 r2 r3 r4 r4' f4'
        go_wp2_with (refine wpList_store_row rfl 57 _ _ rfl w.heap.size #[.int .i64 num, .string snd, .int .i64 sec, .string txt, .bool false] rfl rfl _ _ HZ.out hbs.out HZS.out (msg_one ⟨num, snd, sec, txt, false⟩) ?_)
        refine bodyPost_ret (results_cell_tmp Tryz.results39 _ _ w.heap.size _ #[.int .i64 num, .string snd, .int .i64 sec, .string txt, .bool false] _ _ rfl (setRow_heap _ _ _ _ _ _ HZ.out) Tryz.underlying57 rfl hbs.out) rfl ?_
        obtain ⟨r1, r2⟩ := HJ7.out.out #[.int .i64 num, .string snd, .int .i64 sec, .string txt, .bool false]
        rw [HRR.out, if_neg (by rw [hms.out]; decide)]
        exact ⟨by rw [hval.out]; rfl, r1, r2⟩
      · have hms : Hid (m.seen = true) := congrArg MsgB.seen HM.out
        have J3 := HJ.out.mods hwM
        obtain ⟨z, hz, hzs⟩ := J3.rb
        have HZ := Lib.hid hz
        have HZS := Lib.hid hzs
        have HJ3 := Lib.hid J3
        clear J3 hz hzs hwM hM3
        go_wp2_with (refine wpList_store_row rfl 57 _ _ rfl w.heap.size #[.int .i64 num, .string snd, .int .i64 sec, .string txt, .bool true] rfl rfl _ _ HZ.out hbs.out HZS.out (msg_one ⟨num, snd, sec, txt, true⟩) ?_)
        refine bodyPost_ret (results_cell_tmp Tryz.results39 _ _ w.heap.size _ #[.int .i64 num, .string snd, .int .i64 sec, .string txt, .bool true] _ _ rfl (setRow_heap _ _ _ _ _ _ HZ.out) Tryz.underlying57 rfl hbs.out) rfl ?_
        obtain ⟨r1, r2⟩ := HJ3.out.out #[.int .i64 num, .string snd, .int .i64 sec, .string txt, .bool true]
        rw [HRR.out, if_pos hms.out]
        exact ⟨by rw [hval.out]; rfl, r1, r2⟩
end Go.Proofs.YtlaihnbappfbfaaGreatDoor
