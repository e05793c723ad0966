/- Walks of view: Get. Walks of view: Get, Has, Set. The names of accounts and mailboxes. -/
import Derived.Test.YtlaihnbappfbfaaGreatDoorViewW3
namespace Go.Proofs.YtlaihnbappfbfaaGreatDoor
open Go.RowKit
open Go.Maps (Keyed)

/-- What Get answers. -/
def getRes (l : List ChgB) (m : NameB) : ByteArray × Bool := match lastCall l m with | none => (⟨#[]⟩, false) | some c => (c.value, !c.absent)
theorem flat7 (l : List ChgB) (i j : Nat) (hj : j < 7) {c : ChgB} (h : l[i]? = some c) : (l.flatMap ChgB.cells)[i * 7 + j]? = c.cells[j]? := by
  induction l generalizing i with
  | nil => simp at h
  | cons x r ih =>
    have hx : x.cells.length = 7 := rfl
    rw [List.flatMap_cons]
    cases i with
    | zero =>
      simp only [List.getElem?_cons_zero, Option.some.injEq] at h
      subst h
      rw [List.getElem?_append_left (by omega)]
      congr 1; omega
    | succ i =>
      rw [List.getElem?_append_right (by omega), hx]
      rw [show (i + 1) * 7 + j - 7 = i * 7 + j by omega]
      exact ih i (by simpa using h)
theorem zeroInt (w : World) : (zeroValue 3).run Tryz.prog w = .ok (.int .i64 0) w := by kernel_rfl
/-- A name passes the check. -/
def NameB.ok (m : NameB) : Prop := checkV ⟨m.k, m.o.data.toList, m.n, m.i, m.t.data.toList⟩ = 0

set_option maxRecDepth 100000 in
set_option maxHeartbeats 1000000 in
theorem viewGet_hit {w : World} {V n : Nat} {l : List ChgB} (h : ViewIs w V n l) (m : NameB) (hf : m.fit) (hok : m.ok) (hu : Usages w) (_hn : n < 1000000000) {c : ChgB} (hc : lastCall l m = some c) :
    Calls Tryz.prog 102 #[.pointer (some ⟨V, 0, none⟩), m.val] w
      fun e w' => e = .returned (.tuple #[.string c.value, .bool (!c.absent)]) ∧ Mods [] w w' := by
  obtain ⟨kl, hkl⟩ := key_ex m hf
  have hMx : Mods [] w (w.alloc (.cells #[.int .i64 m.k, .string m.o, .int .i64 m.n, .int .i64 m.i, .string m.t] 80)) := (Mods.refl _ _).alloc _
  have hck := check_any m.k m.o m.t m.n m.i (w.alloc (.cells #[.int .i64 m.k, .string m.o, .int .i64 m.n, .int .i64 m.i, .string m.t] 80)) (hu.mods hMx (by simp)) (by have := hf.o; omega) (by have := hf.t; omega)
  rw [show checkV ⟨m.k, m.o.data.toList, m.n, m.i, m.t.data.toList⟩ = 0 from hok] at hck
  have hV1 := h.mods hMx
  have hW1 := heap_alloc_new w (.cells #[.int .i64 m.k, .string m.o, .int .i64 m.n, .int .i64 m.i, .string m.t] 80)
  have hlt := h.lt
  have HX := Lib.hid hMx
  have HV := Lib.hid hV1
  have HKL := Lib.hid hkl
  clear h hu hMx hV1 hok hkl hf
  unfold NameB.val
  unfold nameVal at *
  go_enter Tryz.func102, Tryz.ntmps102
  go_wp2_with (go_at_call 71; refine hck.mono ?_; rintro e w1 ⟨rfl, hm1⟩)
  have hM1 := HX.out.trans' hm1
  have g0 := hm1.keep (cell_of_heap hW1 0)
  have g1 := hm1.keep (cell_of_heap hW1 1)
  have g2 := hm1.keep (cell_of_heap hW1 2)
  have g3 := hm1.keep (cell_of_heap hW1 3)
  have g4 := hm1.keep (cell_of_heap hW1 4)
  obtain ⟨S, mr, ml, cs, Dr, D, a1, a2, a3, a4, a5, a6, a7, a8, a9, a10, a11, a12⟩ := HV.out.mods hm1
  have c2 := cell_of_heap a1 2
  have c3 := cell_of_heap a1 3
  simp only [List.getElem?_toArray, List.getElem?_cons_zero, List.getElem?_cons_succ] at g0 g1 g2 g3 g4 c2 c3
  have h5 := a5.2 m kl HKL.out
  rw [hc] at h5
  obtain ⟨h6, i, h7, h8⟩ := h5
  have hil : i < l.length := (List.getElem?_eq_some_iff.1 h8).1
  obtain ⟨g', cap, hcs⟩ : ∃ g' cap, cs = .slice (some ⟨g', 0, none⟩) l.length cap := by
    obtain ⟨_, ⟨e, e2⟩ | ⟨g', cap, cur, e, _⟩⟩ := a6
    · omega
    · exact ⟨g', cap, e⟩
  subst hcs
  have r5 := a6.cells (g := g') rfl (i * 7 + 5) (.string c.value) (by rw [flat7 l i 5 (by omega) h8]; rfl)
  have r6 := a6.cells (g := g') rfl (i * 7 + 6) (.bool c.absent) (by rw [flat7 l i 6 (by omega) h8]; rfl)
  rw [Addr.add_lit] at r5 r6
  simp only [Nat.zero_add] at r5 r6
  have hil' : (i : Int) < (l.length : Int) := by omega
  have HM1 := Lib.hid hM1
  obtain ⟨v, ps, hrun, hv⟩ := a4.drew.look_ok lawName Tryz.underlying130 (zeroInt _) (plainElem_int Tryz.underlying3 (by decide)) (key := .agg #[.int .i64 m.k, .string m.o, .int .i64 m.n, .int .i64 m.i, .string m.t]) HKL.out
  rw [h7] at hv
  obtain ⟨a, rfl, hva, _⟩ := plainElem_int_inv Tryz.underlying3 hv
  have ea : (i : Int) = a := by simpa using congrArg Prod.fst hva
  subst ea
  rw [h6] at hrun
  have hMd : Mods [] w1 w1.drew := (Mods.refl _ _).drew
  replace g0 := hMd.keep g0
  replace g1 := hMd.keep g1
  replace g2 := hMd.keep g2
  replace g3 := hMd.keep g3
  replace g4 := hMd.keep g4
  replace c2 := hMd.keep c2
  replace c3 := hMd.keep c3
  replace r5 := hMd.keep r5
  replace r6 := hMd.keep r6
  clear hck HX HV hm1 hM1 hW1 a1 a2 a3 a4 a5 a6 a12 hc hv hva h6 h7 h8 hMd
  refine wp_region_still_lit (by kernel_rfl) (by kernel_rfl) ?_
  change wpStill _ _ w1.drew _ _ _
  generalize hW8 : w1.drew = W8 at *
  repeat still_step
  refine wpStill_nil ?_
  go_wp2
  go_quiet (fail)
  go_wp2
  go_ret2
  exact ⟨rfl, HM1.out.trans' (((Mods.refl [] w1).drew).drewN _)⟩

set_option maxRecDepth 100000 in
set_option maxHeartbeats 1000000 in
theorem viewGet_miss {w : World} {V n : Nat} {l : List ChgB} (h : ViewIs w V n l) (m : NameB) (hf : m.fit) (hok : m.ok) (hu : Usages w) (hn : n < 1000000000) (hc : lastCall l m = none) :
    Calls Tryz.prog 102 #[.pointer (some ⟨V, 0, none⟩), m.val] w
      fun e w' => e = .returned (.tuple #[.string ⟨#[]⟩, .bool false]) ∧ ViewIs w' V (n + 1) l ∧ Keep (VKeep V) w w' := by
  have hrd := fun W (hW : ViewIs W V n l) => viewRead_any hW ⟨m, ⟨#[]⟩, true⟩ hf hn
  simp only at hrd
  obtain ⟨kl, hkl⟩ := key_ex m hf
  have hMx : Mods [] w (w.alloc (.cells #[.int .i64 m.k, .string m.o, .int .i64 m.n, .int .i64 m.i, .string m.t] 80)) := (Mods.refl _ _).alloc _
  have hck := check_any m.k m.o m.t m.n m.i (w.alloc (.cells #[.int .i64 m.k, .string m.o, .int .i64 m.n, .int .i64 m.i, .string m.t] 80)) (hu.mods hMx (by simp)) (by have := hf.o; omega) (by have := hf.t; omega)
  rw [show checkV ⟨m.k, m.o.data.toList, m.n, m.i, m.t.data.toList⟩ = 0 from hok] at hck
  have hV1 := h.mods hMx
  have hW1 := heap_alloc_new w (.cells #[.int .i64 m.k, .string m.o, .int .i64 m.n, .int .i64 m.i, .string m.t] 80)
  have hlt := h.lt
  have HX := Lib.hid hMx
  have HV := Lib.hid hV1
  have HKL := Lib.hid hkl
  clear h hu hMx hV1 hok hkl hf
  unfold NameB.val
  unfold nameVal at *
  go_enter Tryz.func102, Tryz.ntmps102
  go_wp2_with (go_at_call 71; refine hck.mono ?_; rintro e w1 ⟨rfl, hm1⟩)
  have hM1 := HX.out.trans' hm1
  have g0 := hm1.keep (cell_of_heap hW1 0)
  have g1 := hm1.keep (cell_of_heap hW1 1)
  have g2 := hm1.keep (cell_of_heap hW1 2)
  have g3 := hm1.keep (cell_of_heap hW1 3)
  have g4 := hm1.keep (cell_of_heap hW1 4)
  obtain ⟨S, mr, ml, cs, Dr, D, a1, a2, a3, a4, a5, a6, a7, a8, a9, a10, a11, a12⟩ := HV.out.mods hm1
  have c2 := cell_of_heap a1 2
  have c3 := cell_of_heap a1 3
  simp only [List.getElem?_toArray, List.getElem?_cons_zero, List.getElem?_cons_succ] at g0 g1 g2 g3 g4 c2 c3
  have h5 := a5.2 m kl HKL.out
  rw [hc] at h5
  have c0 := cell_of_heap a1 0
  simp only [List.getElem?_toArray, List.getElem?_cons_zero] at c0
  have hsg := fun W (hW : Mods [] w1 W) => stateGet_any (w := W) (S := S) m (hW.heap a2 (by simp))
  have HV1 := Lib.hid (HV.out.mods hm1)
  have HM1 := Lib.hid hM1
  obtain ⟨v, ps, hrun, hv⟩ := a4.drew.look_ok lawName Tryz.underlying130 (zeroInt _) (plainElem_int Tryz.underlying3 (by decide)) (key := .agg #[.int .i64 m.k, .string m.o, .int .i64 m.n, .int .i64 m.i, .string m.t]) HKL.out
  rw [h5] at hrun
  have hMd : Mods [] w1 w1.drew := (Mods.refl _ _).drew
  replace g0 := hMd.keep g0
  replace g1 := hMd.keep g1
  replace g2 := hMd.keep g2
  replace g3 := hMd.keep g3
  replace g4 := hMd.keep g4
  replace c2 := hMd.keep c2
  replace c3 := hMd.keep c3
  replace c0 := hMd.keep c0
  clear hck HX HV hm1 hM1 hW1 a1 a2 a3 a4 a5 a6 a12 hc hv h5 hMd
  refine wp_region_still_lit (by kernel_rfl) (by kernel_rfl) ?_
  change wpStill _ _ w1.drew _ _ _
  obtain ⟨W8, hW8⟩ : ∃ W8, w1.drew = W8 := ⟨_, rfl⟩
  rw [hW8] at g0 g1 g2 g3 g4 c0 c2 c3 hrun ⊢
  have HW8 : Hid (Mods [] w1 W8) := by show Mods [] w1 W8; rw [← hW8]; exact (Mods.refl _ _).drew
  have HK : Hid (∀ W', Mods [] W8 W' → W'.cell? ⟨V, 0, none⟩ = some (.pointer (some ⟨S, 0, none⟩)) ∧ W'.cell? ⟨w.heap.size, 0, none⟩ = some (.int .i64 m.k) ∧ W'.cell? ⟨w.heap.size, 1, none⟩ = some (.string m.o) ∧ W'.cell? ⟨w.heap.size, 2, none⟩ = some (.int .i64 m.n) ∧ W'.cell? ⟨w.heap.size, 3, none⟩ = some (.int .i64 m.i) ∧ W'.cell? ⟨w.heap.size, 4, none⟩ = some (.string m.t) ∧ Mods [] W8 W') := by
    show ∀ _, _
    exact fun W' h => ⟨h.keep c0, h.keep g0, h.keep g1, h.keep g2, h.keep g3, h.keep g4, h⟩
  have HWe := Lib.hid hW8
  clear hW8
  repeat still_step
  refine wpStill_nil ?_
  go_wp2
  change Code.wp _ _ _ _ w1.drew
  rw [HWe.out]
  have k7 := HK.out W8.drew (Mods.refl _ _).drew
  go_region_held3 (fun W' => W'.cell? ⟨V, 0, none⟩ = some (.pointer (some ⟨S, 0, none⟩)) ∧ W'.cell? ⟨w.heap.size, 0, none⟩ = some (.int .i64 m.k) ∧ W'.cell? ⟨w.heap.size, 1, none⟩ = some (.string m.o) ∧ W'.cell? ⟨w.heap.size, 2, none⟩ = some (.int .i64 m.n) ∧ W'.cell? ⟨w.heap.size, 3, none⟩ = some (.int .i64 m.i) ∧ W'.cell? ⟨w.heap.size, 4, none⟩ = some (.string m.t) ∧ Mods [] W8 W') (first | exact k8 | exact k7) (first | (go_at_call 127; refine (hsg _ (HW8.out.trans' (Mods.refl _ W8).drew)).mono ?_; rintro e W9 ⟨rfl, hM9⟩; have k8 := HK.out _ ((Mods.refl _ W8).drew.trans' hM9); clear hM9))
  have hV9 := HV1.out.mods (HW8.out.trans' k8.2.2.2.2.2.2)
  have HM9 := Lib.hid (HM1.out.trans' (HW8.out.trans' k8.2.2.2.2.2.2))
  go_wp2_with (go_at_call 128; refine (hrd _ hV9).mono ?_; rintro e W10 ⟨rfl, r1, r2⟩)
  go_ret2
  exact ⟨rfl, r1, (Keep.of_mods HM9.out (by simp)).trans r2⟩
end Go.Proofs.YtlaihnbappfbfaaGreatDoor

namespace Go.Proofs.YtlaihnbappfbfaaGreatDoor
open Go.RowKit

theorem viewGet_any {w : World} {V n : Nat} {l : List ChgB} (h : ViewIs w V n l) (m : NameB) (hf : m.fit) (hok : m.ok) (hu : Usages w) (hn : n < 1000000000) :
    Calls Tryz.prog 102 #[.pointer (some ⟨V, 0, none⟩), m.val] w
      fun e w' => e = .returned (.tuple #[.string (getRes l m).1, .bool (getRes l m).2]) ∧ ViewIs w' V (n + 1) l ∧ Keep (VKeep V) w w' := by
  unfold getRes
  cases hc : lastCall l m with
  | none => exact viewGet_miss h m hf hok hu hn hc
  | some c =>
    refine (viewGet_hit h m hf hok hu hn hc).mono ?_
    rintro e w' ⟨rfl, hm⟩
    exact ⟨rfl, (h.mods hm).mono (by omega), Keep.of_mods hm (by simp)⟩

theorem viewHas_any {w : World} {V n : Nat} {l : List ChgB} (h : ViewIs w V n l) (m : NameB) (hf : m.fit) (hok : m.ok) (hu : Usages w) (hn : n < 1000000000) :
    Calls Tryz.prog 96 #[.pointer (some ⟨V, 0, none⟩), m.val] w
      fun e w' => e = .returned (.bool (getRes l m).2) ∧ ViewIs w' V (n + 1) l ∧ Keep (VKeep V) w w' := by
  have hMx : Mods [] w (w.alloc (.cells #[.int .i64 m.k, .string m.o, .int .i64 m.n, .int .i64 m.i, .string m.t] 80)) := (Mods.refl _ _).alloc _
  have hg := viewGet_any (h.mods hMx) m hf hok (hu.mods hMx (by simp)) hn
  have HX := Lib.hid hMx
  clear h hu hMx
  unfold NameB.val nameVal at *
  obtain ⟨sv, hsv⟩ : ∃ sv, getRes l m = sv := ⟨_, rfl⟩
  rw [hsv] at hg ⊢
  go_enter Tryz.func96, Tryz.ntmps96
  go_wp2_with (go_at_call 102; refine hg.mono ?_; rintro e w1 ⟨rfl, r1, r2⟩)
  go_ret
  exact ⟨rfl, r1, (Keep.of_mods HX.out (by simp)).trans r2⟩

set_option maxRecDepth 100000 in
theorem viewSet_any {w : World} {V n : Nat} {l : List ChgB} (h : ViewIs w V n l) (m : NameB) (s : ByteArray) (hs : s.size ≤ 65536) (hf : m.fit) (hok : m.ok) (hu : Usages w) (hn : n < 1000000000) :
    Calls Tryz.prog 35 #[.pointer (some ⟨V, 0, none⟩), m.val, .string s] w
      fun e w' => e = .returned (.int .i64 0) ∧ ViewIs w' V (n + 1) (l ++ [⟨m, s, false⟩]) ∧ Keep (VKeep V) w w' := by
  have hMx : Mods [] w (w.alloc (.cells #[.int .i64 m.k, .string m.o, .int .i64 m.n, .int .i64 m.i, .string m.t] 80)) := (Mods.refl _ _).alloc _
  have hck := check_any m.k m.o m.t m.n m.i (w.alloc (.cells #[.int .i64 m.k, .string m.o, .int .i64 m.n, .int .i64 m.i, .string m.t] 80)) (hu.mods hMx (by simp)) (by have := hf.o; omega) (by have := hf.t; omega)
  rw [show checkV ⟨m.k, m.o.data.toList, m.n, m.i, m.t.data.toList⟩ = 0 from hok] at hck
  have hW1 := heap_alloc_new w (.cells #[.int .i64 m.k, .string m.o, .int .i64 m.n, .int .i64 m.i, .string m.t] 80)
  have hca := fun W (hW : ViewIs W V n l) => viewCall_any hW ⟨m, s, false⟩ hf (by show s.size ≤ 1000000; omega) hn
  try simp only at hca
  have hs' : ¬ (65536 : Int) < (s.size : Int) := by omega
  have HX := Lib.hid hMx
  have HV := Lib.hid (h.mods hMx)
  clear h hu hMx hok hf
  unfold NameB.val
  unfold nameVal at *
  go_enter Tryz.func35, Tryz.ntmps35
  have G : Hid (∀ w1, Mods [] (w.alloc (.cells #[.int .i64 m.k, .string m.o, .int .i64 m.n, .int .i64 m.i, .string m.t] 80)) w1 → (w1.cell? ⟨w.heap.size, 0, none⟩ = some (.int .i64 m.k) ∧ w1.cell? ⟨w.heap.size, 1, none⟩ = some (.string m.o) ∧ w1.cell? ⟨w.heap.size, 2, none⟩ = some (.int .i64 m.n) ∧ w1.cell? ⟨w.heap.size, 3, none⟩ = some (.int .i64 m.i) ∧ w1.cell? ⟨w.heap.size, 4, none⟩ = some (.string m.t)) ∧ ViewIs w1 V n l ∧ Mods [] w w1) := by
    show ∀ _, _
    exact fun w1 h => ⟨⟨h.keep (cell_of_heap hW1 0), h.keep (cell_of_heap hW1 1), h.keep (cell_of_heap hW1 2), h.keep (cell_of_heap hW1 3), h.keep (cell_of_heap hW1 4)⟩, HV.out.mods h, HX.out.trans' h⟩
  go_wp2_with (first | (go_at_call 71; refine hck.mono ?_; rintro e w1 ⟨rfl, hm1⟩; obtain ⟨⟨g0, g1, g2, g3, g4⟩, hV1, hM1⟩ := G.out _ hm1; clear hm1) | (go_at_call 72; refine (hca _ hV1).mono ?_; rintro e w2 ⟨rfl, r1, r2⟩))
  go_ret
  exact ⟨rfl, r1, (Keep.of_mods hM1 (by simp)).trans r2⟩

/-- The objects of an account and of a mailbox. -/
def acct (t : ByteArray) : NameB := ⟨14, ⟨#[]⟩, 0, 0, t⟩
def boxN (t : ByteArray) : NameB := ⟨17, ⟨#[]⟩, 0, 0, t⟩
theorem acct_fit {t : ByteArray} (h : t.size ≤ 1000000) : (acct t).fit := ⟨by show (Lit.int .i64 14).wf = true; decide, by show (Lit.int .i64 0).wf = true; decide, by show (Lit.int .i64 0).wf = true; decide, by show (⟨#[]⟩ : ByteArray).size ≤ 1000000; decide, h⟩
theorem boxN_fit {t : ByteArray} (h : t.size ≤ 1000000) : (boxN t).fit := ⟨by show (Lit.int .i64 17).wf = true; decide, by show (Lit.int .i64 0).wf = true; decide, by show (Lit.int .i64 0).wf = true; decide, by show (⟨#[]⟩ : ByteArray).size ≤ 1000000; decide, h⟩
theorem acct_ok {t : ByteArray} (h : wordOK t.data.toList = true) : (acct t).ok := by
  show checkV ⟨((14 : Nat) : Int), _, _, _, _⟩ = 0
  rw [checkV_core (by omega) (by omega)]
  simp [checkB, uOwner, uNumber, uIndex, uText, acct, h]
theorem boxN_ok {t : ByteArray} (h : wordOK t.data.toList = true) : (boxN t).ok := by
  show checkV ⟨((17 : Nat) : Int), _, _, _, _⟩ = 0
  rw [checkV_core (by omega) (by omega)]
  simp [checkB, uOwner, uNumber, uIndex, uText, boxN, h]

theorem ofAccount_any (t : ByteArray) (w : World) : Calls Tryz.prog 44 #[.string t] w fun e w' => e = .returned (acct t).val ∧ Mods [] w w' := by
  unfold NameB.val acct nameVal
  go_enter Tryz.func44, Tryz.ntmps44
  go_wp2
  refine bodyPost_ret (results_cell_row Tryz.results44 _ _ w.heap.size _ _ _ _ rfl (heap_alloc_new _ _) Tryz.underlying80 rfl (by kernel_rfl)) rfl ⟨rfl, (Mods.refl _ _).alloc _⟩
theorem ofBox_any (t : ByteArray) (w : World) : Calls Tryz.prog 36 #[.string t] w fun e w' => e = .returned (boxN t).val ∧ Mods [] w w' := by
  unfold NameB.val boxN nameVal
  go_enter Tryz.func36, Tryz.ntmps36
  go_wp2
  refine bodyPost_ret (results_cell_row Tryz.results36 _ _ w.heap.size _ _ _ _ rfl (heap_alloc_new _ _) Tryz.underlying80 rfl (by kernel_rfl)) rfl ⟨rfl, (Mods.refl _ _).alloc _⟩
end Go.Proofs.YtlaihnbappfbfaaGreatDoor
