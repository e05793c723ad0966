/- Walks of mailbox: read, write, checkMail, Get. Walks of mailbox: checkMail, Get. -/
import Derived.Test.YtlaihnbappfbfaaGreatDoorBoxW3
import Derived.Test.YtlaihnbappfbfaaGreatDoorBoxW4
import Derived.Test.YtlaihnbappfbfaaGreatDoorUserW9
namespace Go.Proofs.YtlaihnbappfbfaaGreatDoor
open Go.RowKit

/-- What the walks over a view ask of the program's variables. -/
structure Glob (w : World) (V : Nat) (ml : Int) : Prop where
  u : Usages w
  m : w.cell? ⟨1, 0, none⟩ = some (.int .i64 ml)
  g0 : 0 < V
  g1 : 1 < V
theorem Glob.mods {w w' : World} {V : Nat} {ml : Int} (h : Glob w V ml) (hm : Mods [] w w') : Glob w' V ml := ⟨h.u.mods hm (by simp), hm.keep h.m, h.g0, h.g1⟩
theorem Glob.keepV {w w' : World} {V : Nat} {ml : Int} (h : Glob w V ml) (hk : Keep (VKeep V) w w') : Glob w' V ml := ⟨h.u.keepV hk h.g0, keepV_cell hk h.g1 h.m, h.g0, h.g1⟩
theorem getRes_size {w : World} {V n : Nat} {l : List ChgB} (h : ViewIs w V n l) (m : NameB) : (getRes l m).1.size ≤ 1000000 := by
  obtain ⟨S, mr, ml, cs, Dr, D, a1, a2, a3, a4, a5, a6, a7, a8, a9, a10, a11, a12⟩ := h
  unfold getRes
  cases hc : lastCall l m with
  | none => simp [ByteArray.size]
  | some c =>
    have := List.mem_of_find?_eq_some hc
    exact (a12.1 c (by simpa using this)).2
/-- The mailbox of a user that the calls have left. -/
def boxOf (l : List ChgB) (nm : ByteArray) : Option BoxV := if (getRes l (boxN nm)).2 = true then decBox 1048575 49 (getRes l (boxN nm)).1.data.toList else some ⟨0, []⟩
/-- What read answers. -/
def ReadPost (w : World) (V n : Nat) (l : List ChgB) (x : Option BoxV) (e : Ending) (w' : World) : Prop :=
  ViewIs w' V (n + 1) l ∧ Keep (VKeep V) w w' ∧
  match x with
  | none => e = .returned (.tuple #[.agg #[.int .i64 0, .slice none 0 0], .int .i64 3])
  | some b => ∃ v, e = .returned (.tuple #[.agg #[.int .i64 b.next, v], .int .i64 0]) ∧ MsgsOwn w' w.heap.size v (b.msgs.map MsgV.b)
theorem own_setRow {w : World} {base R : Nat} {v : Value} {l : List MsgB} (h : MsgsOwn w base v l) {c z : Array Value} {T : TypeId} (hR : w.heap[R]? = some (.cells z T (0, 0))) (hT : T ≠ 57) : MsgsOwn (w.setRow R c) base v l :=
  h.mods (S := [R]) (mods_setRow (Mods.refl _ _) (.inl (by simp))) (fun k hk => by
    obtain rfl := List.mem_singleton.1 hk
    intro e
    obtain ⟨_, ⟨rfl, _⟩ | ⟨g', cap, cur, rfl, hB, hh, _⟩⟩ := h
    · simp [Value.ownBlock] at e
    · simp only [Value.ownBlock, Option.some.injEq] at e
      subst e
      rw [hh] at hR
      simp only [Option.some.injEq, Obj.cells.injEq] at hR
      exact hT hR.2.1.symm)

set_option maxRecDepth 100000 in
set_option maxHeartbeats 1000000 in
theorem boxRead_any {w : World} {V n : Nat} {l : List ChgB} {ml : Int} (h : ViewIs w V n l) (G : Glob w V ml) (hn : n < 100000000) (nm : ByteArray) (hsz : nm.size ≤ 100) (hwd : wordOK nm.data.toList = true) :
    Calls Tryz.prog 68 #[.pointer (some ⟨V, 0, none⟩), .string nm] w (ReadPost w V n l (boxOf l nm)) := by
  have hob := fun W => ofBox_any nm W
  have hvg := fun W (hv : ViewIs W V n l) (hU : Usages W) => viewGet_any hv (boxN nm) (boxN_fit (by omega)) (boxN_ok hwd) hU (by omega)
  have hgs := getRes_size h (boxN nm)
  have hB : Hid (boxOf l nm = if (getRes l (boxN nm)).2 = true then decBox 1048575 49 (getRes l (boxN nm)).1.data.toList else some ⟨0, []⟩) := rfl
  obtain ⟨gs, gb, hg⟩ : ∃ s b, getRes l (boxN nm) = (s, b) := ⟨_, _, rfl⟩
  simp only [hg] at hvg hgs
  rw [hg] at hB
  try simp only at hB
  generalize (boxN nm).val = bv at *
  generalize boxOf l nm = res at *
  have hde := fun W (hW : Keep (VKeep V) w W) => boxDecode_any (w := W) gs hgs ml (G.keepV hW).m
  have hI := fun (T : World) (hT : Mods [] (w.alloc (.cells #[.int .i64 0, .slice none 0 0] 34)) T) => (show GeI w T w.heap.size V n 34 2 l from
    have hm : Mods [] w (w.alloc (.cells #[.int .i64 0, .slice none 0 0] 34)) := (Mods.refl _ _).alloc _
    (⟨⟨_, heap_alloc_new w _, rfl⟩, h.mods hm, G.u.mods hm (by simp), Keep.of_mods hm (by simp), Nat.le_refl _, h.lt, G.g0, by decide⟩ : GeI w (w.alloc (.cells #[.int .i64 0, .slice none 0 0] 34)) w.heap.size V n 34 2 l).mods hT)
  have HI := Lib.hid hI
  have HVG := Lib.hid hvg
  have HDE := Lib.hid hde
  have hsz : Hid ((Tryz.prog.info? 34).map (·.size) = some 2) := by show _ = _; kernel_rfl
  clear hI hvg hde hg hgs h hwd
  cases gb
  · have HR : Hid (res = some ⟨0, []⟩) := by show _ = _; rw [hB.out]; simp
    clear hB
    go_enter Tryz.func68, Tryz.ntmps68
    go_wp2_with fail
    refine (hob _).mono ?_
    rintro e w1 ⟨rfl, hm1⟩
    have I := HI.out _ hm1
    clear hm1
    go_wp2_with fail
    refine (HVG.out _ I.v I.u).mono ?_
    rintro e w2 ⟨rfl, hv2, hk2⟩
    replace I := I.view hv2 hk2
    clear hv2 hk2
    obtain ⟨z, hz, hzs⟩ := I.rb
    have HZ := Lib.hid hz
    have HZS := Lib.hid hzs
    have HJ := Lib.hid I
    clear I hz hzs
    go_wp2_with (refine wpList_store_row rfl 34 _ _ rfl w.heap.size #[.int .i64 0, .slice none 0 0] rfl rfl _ _ HZ.out hsz.out HZS.out (box_one _ _ _ _) ?_)
    refine bodyPost_ret (results_cell_tmp Tryz.results68 _ _ w.heap.size _ #[.int .i64 0, .slice none 0 0] _ _ rfl (setRow_heap _ _ _ _ _ _ HZ.out) Tryz.underlying34 rfl hsz.out) rfl ?_
    rw [HR.out]
    obtain ⟨r1, r2⟩ := HJ.out.out #[.int .i64 0, .slice none 0 0]
    exact ⟨r1, r2, _, rfl, World.ownsRow_nil _ _ _ _⟩
  · have HR : Hid (res = decBox 1048575 49 gs.data.toList) := by show _ = _; rw [hB.out]; simp
    clear hB
    go_enter Tryz.func68, Tryz.ntmps68
    go_wp2_with fail
    refine (hob _).mono ?_
    rintro e w1 ⟨rfl, hm1⟩
    have I := HI.out _ hm1
    clear hm1
    go_wp2_with fail
    refine (HVG.out _ I.v I.u).mono ?_
    rintro e w2 ⟨rfl, hv2, hk2⟩
    replace I := I.view hv2 hk2
    clear hv2 hk2
    go_wp2_with fail
    refine (HDE.out _ I.k).mono ?_
    intro e w3 hd
    rw [← HR.out] at hd
    have hsz2 : w.heap.size ≤ w2.heap.size := I.k.size
    cases res with
    | none =>
      obtain ⟨rfl, hm3⟩ := hd
      replace I := I.mods hm3
      obtain ⟨z, hz, hzs⟩ := I.rb
      have HZ := Lib.hid hz
      have HZS := Lib.hid hzs
      have HJ := Lib.hid I
      clear I hz hzs hm3
      go_wp2_with (refine wpList_store_row rfl 34 _ _ rfl w.heap.size #[.int .i64 0, .slice none 0 0] rfl rfl _ _ HZ.out hsz.out HZS.out (box_one _ _ _ _) ?_)
      refine bodyPost_ret (results_cell_tmp Tryz.results68 _ _ w.heap.size _ #[.int .i64 0, .slice none 0 0] _ _ rfl (setRow_heap _ _ _ _ _ _ HZ.out) Tryz.underlying34 rfl hsz.out) rfl ?_
      obtain ⟨r1, r2⟩ := HJ.out.out #[.int .i64 0, .slice none 0 0]
      exact ⟨r1, r2, rfl⟩
    | some b =>
      obtain ⟨v, rfl, ho, hm3⟩ := hd
      replace I := I.mods hm3
      obtain ⟨va, vn, vc, rfl⟩ := owns_shape ho
      obtain ⟨z, hz, hzs⟩ := I.rb
      have HZ := Lib.hid hz
      have HZS := Lib.hid hzs
      have HJ := Lib.hid I
      have HO := Lib.hid ho
      clear I hz hzs hm3 ho
      go_wp2_with (refine wpList_store_row rfl 34 _ _ rfl w.heap.size #[.int .i64 b.next, .slice va vn vc] rfl rfl _ _ HZ.out hsz.out HZS.out (box_one _ _ _ _) ?_)
      refine bodyPost_ret (results_cell_tmp Tryz.results68 _ _ w.heap.size _ #[.int .i64 b.next, .slice va vn vc] _ _ rfl (setRow_heap _ _ _ _ _ _ HZ.out) Tryz.underlying34 rfl hsz.out) rfl ?_
      obtain ⟨r1, r2⟩ := HJ.out.out #[.int .i64 b.next, .slice va vn vc]
      exact ⟨r1, r2, _, rfl, World.ownsRow.mono (own_setRow HO.out HZ.out (by decide)) hsz2⟩

set_option maxRecDepth 100000 in
set_option maxHeartbeats 1000000 in
theorem boxWrite_ok {w : World} {V n : Nat} {l : List ChgB} {ml : Int} (h : ViewIs w V n l) (G : Glob w V ml) (hn : n < 100000000) (nm : ByteArray) (hsz : nm.size ≤ 100) (hwd : wordOK nm.data.toList = true)
    (next : Int) {q : List MsgB} {v : Value} (hv : MsgsAt w v q) (hok : boxE ⟨next, q.map MsgB.v⟩ = 0) :
    Calls Tryz.prog 65 #[.pointer (some ⟨V, 0, none⟩), .string nm, .agg #[.int .i64 next, v]] w
      fun e w' => e = .returned (.int .i64 0) ∧ ViewIs w' V (n + 1) (l ++ [⟨boxN nm, ⟨(encBox ⟨next, q.map MsgB.v⟩).toArray⟩, false⟩]) ∧ Keep (VKeep V) w w' := by
  have hob := fun W => ofBox_any nm W
  have hlen := encBox_len hok
  have hse := fun W (hv : ViewIs W V n l) (hU : Usages W) => viewSet_any hv (boxN nm) ⟨(encBox ⟨next, q.map MsgB.v⟩).toArray⟩ (by simp [ByteArray.size]; omega) (boxN_fit (by omega)) (boxN_ok hwd) hU (by omega)
  have hms := msgsE_zero (boxE_zero hok).2.2.2
  have hen := fun W (hW : Mods [] w W) => boxEncode_ok next (hv.keep hW) (fun m hm => by
    have h1 := (msgE_zero (hms m.v (List.mem_map_of_mem hm))).2.2.1
    have h2 := splitF_len h1
    have h3 : m.v.sender.length = m.sender.size := slen _
    omega) ml (hW.keep G.m) hok
  generalize (boxN nm).val = bv at *
  obtain ⟨enc, henc⟩ : ∃ enc : ByteArray, ⟨(encBox ⟨next, q.map MsgB.v⟩).toArray⟩ = enc := ⟨_, rfl⟩
  simp only [henc] at hse hen
  rw [henc]
  obtain ⟨p, cap, rfl, hcap, hln, hat⟩ := hv
  have hM0 : Mods [] w (w.alloc (.cells #[.int .i64 next, .slice p q.length cap] 34)) := (Mods.refl _ _).alloc _
  have HM := Lib.hid hM0
  have HV := Lib.hid h
  have HG := Lib.hid G
  have HSE := Lib.hid hse
  have HEN := Lib.hid hen
  clear hM0 h G hse hen hat hms hlen hok henc hwd
  go_enter Tryz.func65, Tryz.ntmps65
  go_wp2_with (first
    | (go_at_call 21; refine (HEN.out _ HM.out).mono ?_; rintro e w1 ⟨rfl, hm1⟩)
    | (go_at_call 36; refine (hob _).mono ?_; rintro e w2 ⟨rfl, hm2⟩; have HM2 := Lib.hid ((HM.out.trans' hm1).trans' hm2); clear hm1 hm2)
    | (go_at_call 35; refine (HSE.out _ (HV.out.mods HM2.out) (HG.out.u.mods HM2.out (by simp))).mono ?_; rintro e w3 ⟨rfl, hv3, hk3⟩))
  go_ret
  exact ⟨rfl, hv3, (Keep.of_mods HM2.out (by simp)).trans hk3⟩
end Go.Proofs.YtlaihnbappfbfaaGreatDoor

namespace Go.Proofs.YtlaihnbappfbfaaGreatDoor
open Go.RowKit

/-- The first error of a mail that is to be delivered. -/
def mailE (too frm : List UInt8) (sec : Int) (txt : Nat) : Int :=
  if unameOK too = false then 12 else if (splitF frm).2.2 ≠ 0 then (splitF frm).2.2 else if sec < 0 ∨ 1073741824 < sec then 2 else if 1024 < txt then 5 else 0

set_option maxRecDepth 100000 in
set_option maxHeartbeats 1000000 in
theorem checkMail_any (too frm txt : ByteArray) (sec : Int) (w : World) (ml : Int) (ht : too.size ≤ 1000000) (hf : frm.size ≤ 1000000) (hm : w.cell? ⟨1, 0, none⟩ = some (.int .i64 ml)) :
    Calls Tryz.prog 66 #[.string too, .string frm, .int .i64 sec, .string txt] w fun e w' => e = .returned (.int .i64 (mailE too.data.toList frm.data.toList sec txt.size)) ∧ Mods [] w w' := by
  have hcn := checkName_any too w (by omega)
  have hsp := split_any frm ml w hf hm
  have hic := fun W => isSecond_any sec W
  have hE : Hid (mailE too.data.toList frm.data.toList sec txt.size = if unameOK too.data.toList = false then 12 else if (splitF frm.data.toList).2.2 ≠ 0 then (splitF frm.data.toList).2.2 else if sec < 0 ∨ 1073741824 < sec then 2 else if 1024 < txt.size then 5 else 0) := rfl
  unfold splitVal at hsp
  generalize (splitF frm.data.toList).1 = sp1 at *
  generalize (splitF frm.data.toList).2.1 = sp2 at *
  generalize (splitF frm.data.toList).2.2 = se at *
  generalize mailE too.data.toList frm.data.toList sec txt.size = E at *
  have HSP := Lib.hid hsp
  clear hsp hm
  by_cases h1 : unameOK too.data.toList = false
  · have hR : Hid (E = 12) := by show _ = _; rw [hE.out, if_pos h1]
    rw [uname_err h1] at hcn
    clear hE h1
    go_enter Tryz.func66, Tryz.ntmps66
    go_wp2_with (go_at_call 17; refine hcn.mono ?_; rintro e w1 ⟨rfl, rfl⟩)
    go_ret
    rw [hR.out]; exact ⟨rfl, Mods.refl _ _⟩
  have hE2 : Hid (E = if se ≠ 0 then se else if sec < 0 ∨ 1073741824 < sec then 2 else if 1024 < txt.size then 5 else 0) := by
    show _ = _; rw [hE.out, if_neg h1]
  rw [uname_zero (show unameOK too.data.toList = true by simpa using h1)] at hcn
  clear hE h1
  have hsecB : isSecB sec = !(decide (sec < 0 ∨ 1073741824 < sec)) := by
    unfold isSecB
    by_cases a : sec < 0
    · simp [a, show ¬ (0 ≤ sec) by omega]
    · by_cases b : 1073741824 < sec
      · simp [b, show ¬ (sec ≤ 1073741824) by omega]
      · simp [show 0 ≤ sec by omega, show sec ≤ 1073741824 by omega]
  rw [hsecB] at hic
  generalize hsv : decide (sec < 0 ∨ 1073741824 < sec) = sv at *
  have hE3 : Hid (E = if se ≠ 0 then se else if sv = true then 2 else if 1024 < txt.size then 5 else 0) := by
    show _ = _; rw [hE2.out, ← hsv]; simp
  clear hE2 hsv hsecB
  have fin : ∀ r : Int, E = r → Hid (E = r) := fun _ h => h
  by_cases h3 : se = 0
  · subst h3
    cases sv
    · by_cases h5 : 1024 < txt.size
      · have hR : Hid (E = 5) := fin _ (by rw [hE3.out]; simp [h5])
        have h5' : (1024 : Int) < (txt.size : Int) := by omega
        clear hE3 h5 fin
        go_enter Tryz.func66, Tryz.ntmps66
        go_wp2_with (first
          | (go_at_call 17; refine hcn.mono ?_; rintro e w1 ⟨rfl, rfl⟩)
          | (go_at_call 13; refine HSP.out.mono ?_; rintro e W8 ⟨rfl, k8, rfl⟩)
          | (go_at_call 85; refine (hic _).mono ?_; rintro e W9 ⟨rfl, rfl⟩))
        go_ret
        rw [hR.out]; exact ⟨rfl, (Mods.refl _ _).drewN _⟩
      · have hR : Hid (E = 0) := fin _ (by rw [hE3.out]; simp [h5])
        have h5' : ¬ (1024 : Int) < (txt.size : Int) := by omega
        clear hE3 h5 fin
        go_enter Tryz.func66, Tryz.ntmps66
        go_wp2_with (first
          | (go_at_call 17; refine hcn.mono ?_; rintro e w1 ⟨rfl, rfl⟩)
          | (go_at_call 13; refine HSP.out.mono ?_; rintro e W8 ⟨rfl, k8, rfl⟩)
          | (go_at_call 85; refine (hic _).mono ?_; rintro e W9 ⟨rfl, rfl⟩))
        go_ret
        rw [hR.out]; exact ⟨rfl, (Mods.refl _ _).drewN _⟩
    · have hR : Hid (E = 2) := fin _ (by rw [hE3.out]; simp)
      clear hE3 fin
      go_enter Tryz.func66, Tryz.ntmps66
      go_wp2_with (first
        | (go_at_call 17; refine hcn.mono ?_; rintro e w1 ⟨rfl, rfl⟩)
        | (go_at_call 13; refine HSP.out.mono ?_; rintro e W8 ⟨rfl, k8, rfl⟩)
        | (go_at_call 85; refine (hic _).mono ?_; rintro e W9 ⟨rfl, rfl⟩))
      go_ret
      rw [hR.out]; exact ⟨rfl, (Mods.refl _ _).drewN _⟩
  · have hR : Hid (E = se) := fin _ (by rw [hE3.out]; simp [h3])
    have h3' : (se != 0) = true := by simpa using h3
    clear hE3 fin
    go_enter Tryz.func66, Tryz.ntmps66
    go_wp2_with (first
      | (go_at_call 17; refine hcn.mono ?_; rintro e w1 ⟨rfl, rfl⟩)
      | (go_at_call 13; refine HSP.out.mono ?_; rintro e W8 ⟨rfl, k8, rfl⟩))
    go_ret
    rw [hR.out]; exact ⟨rfl, (Mods.refl _ _).drewN _⟩

theorem wordOK_of_uname {s : List UInt8} (h : unameOK s = true) : wordOK s = true := by
  simp only [unameOK, Bool.and_eq_true, decide_eq_true_eq] at h
  obtain ⟨⟨⟨h1, h2⟩, _⟩, h4⟩ := h
  simp only [wordOK, Bool.and_eq_true, decide_eq_true_eq]
  refine ⟨⟨h1, by omega⟩, ?_⟩
  rw [List.all_eq_true] at h4 ⊢
  intro c hc
  have := (isLD_iff c).1 (h4 c hc)
  rw [isWordByte_iff]
  omega
theorem size_of_uname {s : ByteArray} (h : unameOK s.data.toList = true) : s.size ≤ 16 := by
  simp only [unameOK, Bool.and_eq_true, decide_eq_true_eq] at h
  have := h.1.1.2
  rw [slen] at this
  exact this

/-- What Get answers: the read's answer for a valid name. -/
def boxGet (l : List ChgB) (nm : ByteArray) : Option BoxV × Int := if unameOK nm.data.toList = false then (none, 12) else (boxOf l nm, if (boxOf l nm).isSome then 0 else 3)
def GetPost (w : World) (V n : Nat) (l : List ChgB) (x : Option BoxV × Int) (e : Ending) (w' : World) : Prop :=
  ViewIs w' V (n + 1) l ∧ Keep (VKeep V) w w' ∧
  match x.1 with
  | none => e = .returned (.tuple #[.agg #[.int .i64 0, .slice none 0 0], .int .i64 x.2])
  | some b => ∃ v, e = .returned (.tuple #[.agg #[.int .i64 b.next, v], .int .i64 0]) ∧ MsgsOwn w' w.heap.size v (b.msgs.map MsgV.b)

set_option maxRecDepth 100000 in
set_option maxHeartbeats 1000000 in
theorem boxGet_any {w : World} {V n : Nat} {l : List ChgB} {ml : Int} (h : ViewIs w V n l) (G : Glob w V ml) (hn : n < 100000000) (nm : ByteArray) (hsz : nm.size ≤ 1000000) :
    Calls Tryz.prog 32 #[.pointer (some ⟨V, 0, none⟩), .string nm] w (GetPost w V n l (boxGet l nm)) := by
  have hcn := fun W => checkName_any nm W (by omega)
  have hI : GeI w (w.alloc (.cells #[.int .i64 0, .slice none 0 0] 34)) w.heap.size V n 34 2 l :=
    have hm : Mods [] w (w.alloc (.cells #[.int .i64 0, .slice none 0 0] 34)) := (Mods.refl _ _).alloc _
    ⟨⟨_, heap_alloc_new w _, rfl⟩, h.mods hm, G.u.mods hm (by simp), Keep.of_mods hm (by simp), Nat.le_refl _, h.lt, G.g0, by decide⟩
  have hm : Mods [] w (w.alloc (.cells #[.int .i64 0, .slice none 0 0] 34)) := (Mods.refl _ _).alloc _
  have HI := Lib.hid hI
  have HM := Lib.hid hm
  have hbs : Hid ((Tryz.prog.info? 34).map (·.size) = some 2) := by show _ = _; kernel_rfl
  have hB : Hid (boxGet l nm = if unameOK nm.data.toList = false then (none, 12) else (boxOf l nm, if (boxOf l nm).isSome then 0 else 3)) := rfl
  generalize boxGet l nm = res at *
  by_cases h1 : unameOK nm.data.toList = false
  · simp only [uname_err h1] at hcn
    have HR : Hid (res = (none, 12)) := by show _ = _; rw [hB.out, if_pos h1]
    obtain ⟨z, hz, hzs⟩ := hI.rb
    have HZ := Lib.hid hz
    have HZS := Lib.hid hzs
    clear hB hI hm h G hz hzs h1
    go_enter Tryz.func32, Tryz.ntmps32
    go_wp2_with (first
      | (go_at_call 17; refine (hcn _).mono ?_; rintro e w1 ⟨rfl, rfl⟩)
      | (refine wpList_store_row rfl 34 _ _ rfl w.heap.size #[.int .i64 0, .slice none 0 0] rfl rfl _ _ HZ.out hbs.out HZS.out (box_one _ _ _ _) ?_))
    refine bodyPost_ret (results_cell_tmp Tryz.results32 _ _ w.heap.size _ #[.int .i64 0, .slice none 0 0] _ _ rfl (setRow_heap _ _ _ _ _ _ HZ.out) Tryz.underlying34 rfl hbs.out) rfl ?_
    rw [HR.out]
    obtain ⟨r1, r2⟩ := HI.out.out #[.int .i64 0, .slice none 0 0]
    exact ⟨r1.mono (by omega), r2, rfl⟩
  · have h1' : unameOK nm.data.toList = true := by simpa using h1
    simp only [uname_zero h1'] at hcn
    have hrd := boxRead_any hI.v (G.mods hm) hn nm (by have := size_of_uname h1'; omega) (wordOK_of_uname h1')
    have HRD := Lib.hid hrd
    have HR : Hid (res = (boxOf l nm, if (boxOf l nm).isSome then 0 else 3)) := by show _ = _; rw [hB.out, if_neg h1]
    generalize boxOf l nm = bo at *
    clear hB hI hm h G h1 h1' hrd
    go_enter Tryz.func32, Tryz.ntmps32
    go_wp2_with (go_at_call 17; refine (hcn _).mono ?_; rintro e w1 ⟨rfl, rfl⟩)
    refine HRD.out.mono ?_
    intro e w2 ⟨hv, hk, hd⟩
    have I := HI.out.view hv hk
    clear hv hk
    obtain ⟨z, hz, hzs⟩ := I.rb
    have HZ := Lib.hid hz
    have HZS := Lib.hid hzs
    have HJ := Lib.hid I
    clear I hz hzs
    cases bo with
    | none =>
      obtain rfl := hd
      go_wp2_with (refine wpList_store_row rfl 34 _ _ rfl w.heap.size #[.int .i64 0, .slice none 0 0] rfl rfl _ _ HZ.out hbs.out HZS.out (box_one _ _ _ _) ?_)
      refine bodyPost_ret (results_cell_tmp Tryz.results32 _ _ w.heap.size _ #[.int .i64 0, .slice none 0 0] _ _ rfl (setRow_heap _ _ _ _ _ _ HZ.out) Tryz.underlying34 rfl hbs.out) rfl ?_
      rw [HR.out]
      obtain ⟨r1, r2⟩ := HJ.out.out #[.int .i64 0, .slice none 0 0]
      exact ⟨r1, r2, rfl⟩
    | some b =>
      obtain ⟨v, rfl, ho⟩ := hd
      obtain ⟨va, vn, vc, rfl⟩ := owns_shape ho
      have HO := Lib.hid ho
      clear ho
      go_wp2_with (refine wpList_store_row rfl 34 _ _ rfl w.heap.size #[.int .i64 b.next, .slice va vn vc] rfl rfl _ _ HZ.out hbs.out HZS.out (box_one _ _ _ _) ?_)
      refine bodyPost_ret (results_cell_tmp Tryz.results32 _ _ w.heap.size _ #[.int .i64 b.next, .slice va vn vc] _ _ rfl (setRow_heap _ _ _ _ _ _ HZ.out) Tryz.underlying34 rfl hbs.out) rfl ?_
      rw [HR.out]
      obtain ⟨r1, r2⟩ := HJ.out.out #[.int .i64 b.next, .slice va vn vc]
      exact ⟨r1, r2, _, rfl, World.ownsRow.mono (own_setRow HO.out HZ.out (by decide)) (by simp)⟩
end Go.Proofs.YtlaihnbappfbfaaGreatDoor
