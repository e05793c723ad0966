/- Walks of lineage: the iterator of the parts of a text, and its callers. -/
import Derived.Test.YtlaihnbappfbfaaGreatDoorLinW1
import Derived.RangeFuncNested
import Derived.RangeFuncBound
import Derived.RangeFuncCalls
import Derived.RangeFuncLeaves
import Derived.Shelf.Abstract
import Derived.Shelf.RegionOpen
import Derived.OwnWalkIn
import Derived.TacticsInMore
import Derived.LoopNIn
import Derived.LoopIn
namespace Go.Proofs.YtlaihnbappfbfaaGreatDoor
open Go.RowKit Go.Shelf
attribute [local go_sem] Oper.semAt_some

theorem Mods.grownBy {w w' : World} (h : Mods [] w w') : w.grownBy w' none := ⟨h.os, h.tape, h.output, h.size, fun k hk _ => h.block k hk (by simp)⟩
/-- What a round of a loop over parts keeps: the box of the text, and the iterator's own boxes. -/
def LKp (n₁ Bn : Nat) (W W' : World) : Prop :=
  (∀ k c, n₁ ≤ k → W.heap[k]? = some (.cells c 227 (0, 0)) → W'.heap[k]? = some (.cells c 227 (0, 0))) ∧ (∀ c, W.heap[Bn]? = some (.cells c 9 (0, 0)) → W'.heap[Bn]? = some (.cells c 9 (0, 0))) ∧ W.heap.size ≤ W'.heap.size
def encPart (x : Part) : Array Value := #[.agg #[.int .i64 x.ord, .int .i64 x.at_, .int .i64 x.e]]

theorem partsFrom_ne (a c : Nat) (r : List UInt8) : ∃ x t, partsFrom a c r = x :: t := by
  unfold partsFrom
  split
  · exact ⟨_, _, rfl⟩
  · exact ⟨_, _, rfl⟩

/-- What the iterator's call leaves. -/
def SeqPost (J Jx : List Part → World → Prop) (xs : List Part) (e : Ending) (W' : World) : Prop :=
  (∃ v, e = .returned v) ∧ ((∃ ys, ys = xs ∧ J ys W') ∨ (∃ pre, pre <+: xs ∧ Jx pre W'))
theorem seqPost_all {J Jx : List Part → World → Prop} {xs ys : List Part} {v : Value} {W' : World} (h : ys = xs) (hJ : J ys W') : SeqPost J Jx xs (.returned v) W' := ⟨⟨v, rfl⟩, .inl ⟨ys, h, hJ⟩⟩
theorem seqPost_some {J Jx : List Part → World → Prop} {xs pre : List Part} {v : Value} {W' : World} (h : pre <+: xs) (hJ : Jx pre W') : SeqPost J Jx xs (.returned v) W' := ⟨⟨v, rfl⟩, .inr ⟨pre, h, hJ⟩⟩

theorem partsFrom_err {a c : Nat} {r : List UInt8} (h : ordErr c r ≠ 0) : partsFrom a c r = [⟨0, a, ordErr c r⟩] := by
  unfold partsFrom; rw [if_pos h]
theorem partsFrom_last {a c : Nat} {r : List UInt8} (h : ordErr c r = 0) (hk : dcount 7 r = r.length) : partsFrom a c r = [⟨dval (r.take (dcount 7 r)), a, 0⟩] := by
  unfold partsFrom; rw [if_neg (by simpa using h), dif_neg (by omega)]
theorem partsFrom_bad {a c : Nat} {r : List UInt8} (h : ordErr c r = 0) (hk : dcount 7 r < r.length) (hd : r[dcount 7 r] ≠ 46) : partsFrom a c r = [⟨dval (r.take (dcount 7 r)), a, 0⟩, ⟨0, a + dcount 7 r, 6⟩] := by
  unfold partsFrom; rw [if_neg (by simpa using h), dif_pos hk, if_pos hd]
theorem partsFrom_more {a c : Nat} {r : List UInt8} (h : ordErr c r = 0) (hk : dcount 7 r < r.length) (hd : r[dcount 7 r] = 46) : partsFrom a c r = ⟨dval (r.take (dcount 7 r)), a, 0⟩ :: partsFrom (a + dcount 7 r + 1) (c + 1) (r.drop (dcount 7 r + 1)) := by
  rw [partsFrom, if_neg (by simpa using h), dif_pos hk, if_neg (by simpa using hd)]

set_option maxRecDepth 100000 in
set_option maxHeartbeats 2000000 in
theorem parts1_in (s : ByteArray) (hs : s.size ≤ 1000000000000) (l Bn n₁ : Nat) (J Jx : List Part → World → Prop)
    (hY : ∀ pre x W, J pre W → pre.length < (partsOf s.data.toList).length → YieldAt Fence.wide 5 Tryz.prog l (encPart x) W fun e W' =>
      (e = .returned (.bool true) ∧ J (pre ++ [x]) W' ∧ LKp n₁ Bn W W') ∨ (e = .returned (.bool false) ∧ Jx (pre ++ [x]) W'))
    (W : World) (hn : n₁ ≤ W.heap.size) (hJ : AbidesFrom W.heap.size J) (hBn : W.heap[Bn]? = some (.cells #[.string s] 9 (0, 0))) (h0 : J [] W) :
    CallsIn Fence.wide 6 Tryz.prog 177 #[.func (.yield l) #[] #[], .pointer (some ⟨Bn, 0, none⟩)] W (SeqPost J Jx (partsOf s.data.toList)) := by
  refine callsIn_of_wp Tryz.func177 rfl trivial ?_ rfl
  simp only [Tryz.ntmps177, List.size_toArray, List.length_cons, List.length_nil, Nat.reduceAdd, Nat.reduceSub, Array.replicate_succ, Array.replicate_zero, List.push_toArray, List.append_toArray, List.nil_append, List.cons_append]
  have hsl := slen s
  by_cases hemp : s.data.toList = []
  · have hp : Hid (partsOf s.data.toList = []) := by show _ = _; unfold partsOf; rw [if_pos hemp]
    have hc := cell_of_heap hBn 0
    simp only [List.getElem?_toArray, List.getElem?_cons_zero] at hc
    have hse : s.toList = [] := by rw [ByteArray.toList_eq]; exact hemp
    clear hY hJ hBn hemp hsl
    gi_wp2
    gi_loop [3, 4] (fun a c => a = .int .i64 0 ∧ c = .int .i64 0) (fun _ _ => 0)
    case atStart => exact ⟨rfl, rfl⟩
    case round =>
      obtain ⟨rfl, rfl⟩ := hrel
      gi_wp2
      go_end0
      exact seqPost_all hp.out.symm h0
  · have hse : s.toList ≠ [] := by rw [ByteArray.toList_eq]; exact hemp
    have hse' : s.toList.isEmpty = false := by simpa using hse
    have hp : partsOf s.data.toList = partsFrom 0 0 s.data.toList := by unfold partsOf; rw [if_neg hemp]
    have Hp := Lib.hid hp
    have HJ := Lib.hid hJ
    have HY := Lib.hid hY
    have HB := Lib.hid hBn
    have Hsl := Lib.hid hsl
    have Hemp := Lib.hid hemp
    clear hp hemp hse hJ hY hBn hsl
    gi_wp2
    gi_loopw [3, 4] (fun a c wr => ∃ (at_ k : Nat) (pre : List Part), a = .int .i64 at_ ∧ c = .int .i64 k ∧ at_ ≤ s.size ∧ k ≤ 8 ∧ Hid (partsOf s.data.toList = pre ++ partsFrom at_ k (s.data.toList.drop at_)) ∧ Hid (J pre wr) ∧ Hid (wr.heap[Bn]? = some (.cells #[.string s] 9 (0, 0))) ∧ W.heap.size ≤ wr.heap.size)
      (fun a _ _ => s.size - (intOf a).toNat + 1)
    case atStart => exact ⟨0, 0, [], rfl, rfl, by omega, by omega, by show _ = _; rw [Hp.out]; simp, h0, HB.out, Nat.le_refl _⟩
    case round =>
      obtain ⟨at_, k, pre, rfl, rfl, hat, hk8, hpre, hj, hb, hsz⟩ := hrel
      have hc := cell_of_heap hb.out 0
      simp only [List.getElem?_toArray, List.getElem?_cons_zero] at hc
      gi_wp2_with (refine ⟨trivial, ?_⟩; gi_at_call 178)
      refine (callsIn_wide.2 (first_any s at_ k wr hs hat hk8)).mono ?_
      rintro e w1 ⟨rfl, hm⟩
      obtain ⟨r, hr⟩ : ∃ r, s.data.toList.drop at_ = r := ⟨_, rfl⟩
      have hrl : r.length = s.size - at_ := by rw [← hr, List.length_drop, Hsl.out]
      rw [hr] at hpre ⊢
      have hj1 : J pre w1 := HJ.out pre wr w1 none hj.out hm.grownBy (by simp)
      have hb1 := hm.heap hb.out (by simp)
      by_cases h1 : ordErr k r = 0
      · rw [firstVal_ok h1 rfl]
        obtain ⟨d, hd⟩ : ∃ d, dcount 7 r = d := ⟨_, rfl⟩
        have hdr : d ≤ r.length := by rw [← hd]; exact dcount_le_length 7 r
        rw [hd]
        have hj2 : J pre (w1.alloc (.cells #[.int .i64 (dval (r.take d)), .int .i64 at_, .int .i64 0] 227)) := HJ.out pre w1 _ none hj1 (World.grownBy_alloc _ _ _) (by simp)
        have hb2 := heap_alloc_old hb1 (o := .cells #[.int .i64 (dval (r.take d)), .int .i64 at_, .int .i64 0] 227)
        have hp2 := heap_alloc_new w1 (.cells #[.int .i64 (dval (r.take d)), .int .i64 at_, .int .i64 0] 227)
        have hlen : pre.length < (partsOf s.data.toList).length := by
          obtain ⟨x, t, hx⟩ := partsFrom_ne at_ k r
          rw [hpre.out, hx]; simp
        obtain ⟨fn, tmps, assign, body, hy, hR⟩ := HY.out pre ⟨dval (r.take d), at_, 0⟩ _ hj2 hlen
        have hsz1 := hm.size
        have HR := Lib.hid hR
        have Hb2 := Lib.hid hb2
        have Hp2 := Lib.hid hp2
        have Hr := Lib.hid hr
        have Hd := Lib.hid hd
        have H1 := Lib.hid h1
        have hdv : (dval (r.take d) : Int) ≤ 10000000 := by
          have := dval_digits_lt r d (fun i hi hl => dcount_get 7 r i (by rw [hd]; exact hi) hl)
          have h7 : d ≤ 7 := by rw [← hd]; exact dcount_le 7 r
          have := Nat.pow_le_pow_right (n := 10) (by omega) h7
          omega
        change Sem.run _ (Instr.yield l #[.agg #[.int .i64 (dval (r.take d)), .int .i64 at_, .int .i64 0]]) _ = _ at hy
        clear hR hb2 hp2 h1 hr hj2 hj1 hb1 hm hd
        gi_wp2
        refine HR.out.mono ?_
        rintro e W3 (⟨rfl, hJ3, hk3⟩ | ⟨rfl, hJx3⟩)
        · have hb3 := hk3.2.1 _ Hb2.out
          have hs3 := hk3.2.2
          rw [World.size_alloc] at hs3
          have hp3 := hk3.1 _ _ (by omega) Hp2.out
          have hc3 := cell_of_heap hb3 0
          have hc4 := cell_of_heap hp3 2
          simp only [List.getElem?_toArray, List.getElem?_cons_zero, List.getElem?_cons_succ] at hc3 hc4
          have HJ3 := Lib.hid hJ3
          have Hb3 := Lib.hid hb3
          clear hJ3 hb3 hp3 hk3
          by_cases hend : at_ + d = s.size
          · have b3 : ((at_ : Int) + (d : Int) == (s.size : Int)) = true := by rw [beq_iff_eq]; omega
            have hpo : Hid (partsOf s.data.toList = pre ++ [⟨dval (r.take d), at_, 0⟩]) := by
              show _ = _
              rw [hpre.out, partsFrom_last H1.out (by have := Hd.out; omega), Hd.out]
            clear hend
            gi_wp2
            refine bodyPost_ret (results_none rfl _ _ _) rfl ?_
            exact seqPost_all hpo.out.symm HJ3.out
          have b3 : ((at_ : Int) + (d : Int) == (s.size : Int)) = false := by rw [beq_eq_false_iff_ne]; omega
          have hlt : at_ + d < s.size := by omega
          have hdlt : dcount 7 r < r.length := by have := Hd.out; omega
          have hg : s[at_ + d]'hlt = r[dcount 7 r] := by
            have e1 := Hd.out
            subst e1
            rw [sget]; simp [← Hr.out]
          by_cases h46 : s[at_ + d]'hlt = 46
          · have hpo : Hid (partsOf s.data.toList = (pre ++ [⟨dval (r.take d), at_, 0⟩]) ++ partsFrom (at_ + d + 1) (k + 1) (s.data.toList.drop (at_ + d + 1))) := by
              show _ = _
              rw [hpre.out, partsFrom_more H1.out hdlt (by rw [← hg]; exact h46), Hd.out, ← Hr.out, List.drop_drop, List.append_assoc]
              rfl
            have b4 : (((s[at_ + d]'hlt).toNat : Int) == 46) = true := by rw [h46]; rfl
            have b4' : (((s[at_ + d]'hlt).toNat : Int) != 46) = false := by rw [h46]; rfl
            have hk7 : k < 8 := by
              rcases Nat.lt_or_ge k 8 with h | h
              · exact h
              · exfalso
                have h8 : k = 8 := by omega
                have := H1.out
                rw [h8] at this
                simp [ordErr] at this
            have hszW : W.heap.size ≤ W3.heap.size := by omega
            clear hend hg h46 hdlt
            gi_wp2
            go_roundw
            case rel => exact ⟨at_ + d + 1, k + 1, pre ++ [⟨dval (r.take d), at_, 0⟩], by go_num, by go_num, by omega, by omega, hpo, HJ3, Hb3, hszW⟩
            case measure => simp [intOf]; omega
          · have b4 : (((s[at_ + d]'hlt).toNat : Int) == 46) = false := by
              rw [beq_eq_false_iff_ne]
              intro e
              exact h46 (UInt8.toNat_inj.1 (by simpa using (show (s[at_ + d]'hlt).toNat = 46 by omega)))
            have b4' : (((s[at_ + d]'hlt).toNat : Int) != 46) = true := by rw [bne, b4]; rfl
            have hpo : Hid (partsOf s.data.toList = (pre ++ [⟨dval (r.take d), at_, 0⟩]) ++ [⟨0, at_ + d, 6⟩]) := by
              show _ = _
              rw [hpre.out, partsFrom_bad H1.out hdlt (by rw [← hg]; exact h46), Hd.out, List.append_assoc]
              rfl
            obtain ⟨fn2, tmps2, assign2, body2, hy2, hR2⟩ := HY.out (pre ++ [⟨dval (r.take d), at_, 0⟩]) ⟨0, at_ + d, 6⟩ W3 HJ3.out (by rw [hpo.out]; simp)
            have HR2 := Lib.hid hR2
            change Sem.run _ (Instr.yield l #[.agg #[.int .i64 0, .int .i64 ((at_ + d : Nat) : Int), .int .i64 6]]) _ = _ at hy2
            rw [Int.natCast_add] at hy2
            clear hend hg h46 hdlt hR2
            gi_wp2
            refine HR2.out.mono ?_
            rintro e W4 (⟨rfl, hJ4, hk4⟩ | ⟨rfl, hJ4⟩)
            · have HJ4 := Lib.hid hJ4
              clear hJ4 hk4
              gi_wp2
              refine bodyPost_ret (results_none rfl _ _ _) rfl ?_
              exact seqPost_all hpo.out.symm HJ4.out
            · have HJ4 := Lib.hid hJ4
              clear hJ4
              gi_wp2
              refine bodyPost_ret (results_none rfl _ _ _) rfl ?_
              exact seqPost_some (by rw [hpo.out]; exact List.prefix_refl _) HJ4.out
        · have HJ3 := Lib.hid hJx3
          clear hJx3
          gi_wp2
          refine bodyPost_ret (results_none rfl _ _ _) rfl ?_
          refine seqPost_some ?_ HJ3.out
          rw [hpre.out]
          by_cases hdl : dcount 7 r < r.length
          · by_cases h46 : r[dcount 7 r] = 46
            · rw [partsFrom_more H1.out hdl h46, Hd.out]; simp
            · rw [partsFrom_bad H1.out hdl h46, Hd.out]; simp
          · rw [partsFrom_last H1.out (by have := Hd.out; omega), Hd.out]; exact List.prefix_refl _
      · rw [firstVal_err rfl h1]
        have hlast := partsFrom_err (a := at_) h1
        rw [hlast] at hpre
        have hj2 : J pre (w1.alloc (.cells #[.int .i64 0, .int .i64 at_, .int .i64 (ordErr k r)] 227)) := HJ.out pre w1 _ none hj1 (World.grownBy_alloc _ _ _) (by simp)
        obtain ⟨fn, tmps, assign, body, hy, hR⟩ := HY.out pre ⟨0, at_, ordErr k r⟩ _ hj2 (by rw [hpre.out]; simp)
        have hb2 := heap_alloc_old hb1 (o := .cells #[.int .i64 0, .int .i64 at_, .int .i64 (ordErr k r)] 227)
        have hp2 := heap_alloc_new w1 (.cells #[.int .i64 0, .int .i64 at_, .int .i64 (ordErr k r)] 227)
        have hsz1 := hm.size
        have HR := Lib.hid hR
        have Hb2 := Lib.hid hb2
        have Hp2 := Lib.hid hp2
        have b1 : (ordErr k r == 0) = false := by simpa using h1
        have b2 : (ordErr k r != 0) = true := by simpa using h1
        have Hr := Lib.hid hr
        change Sem.run _ (Instr.yield l #[.agg #[.int .i64 0, .int .i64 at_, .int .i64 (ordErr k r)]]) _ = _ at hy
        clear hR hb2 hp2 h1 hlast hr hj2 hj1 hb1 hrl hm
        gi_wp2
        refine HR.out.mono ?_
        rintro e W3 (⟨rfl, hJ3, hk3⟩ | ⟨rfl, hJx3⟩)
        · have hp3 := hk3.1 _ _ (by omega) Hp2.out
          have hc4 := cell_of_heap hp3 2
          simp only [List.getElem?_toArray, List.getElem?_cons_zero, List.getElem?_cons_succ] at hc4
          have HJ3 := Lib.hid hJ3
          clear hJ3 hp3 hk3
          gi_wp2
          refine bodyPost_ret (results_none rfl _ _ _) rfl ?_
          exact seqPost_all hpre.out.symm HJ3.out
        · have HJ3 := Lib.hid hJx3
          clear hJx3
          gi_wp2
          refine bodyPost_ret (results_none rfl _ _ _) rfl ?_
          exact seqPost_some (by rw [hpre.out]; exact List.prefix_refl _) HJ3.out

/-- lineage.parts. -/
theorem parts_any (s : ByteArray) (w : World) :
    Calls Tryz.prog 159 #[.string s] w fun e w' => e = .returned (.func (.func 177) #[] #[.pointer (some ⟨w.heap.size, 0, none⟩)]) ∧ w' = w.alloc (.cells #[.string s] 9) := by
  go_enter Tryz.func159, Tryz.ntmps159
  go_wp2
  go_ret
  exact ⟨rfl, rfl⟩
theorem LKp_t {n₁ Bn : Nat} {A B C : World} (h : LKp n₁ Bn A B) (k : LKp n₁ Bn B C) : LKp n₁ Bn A C :=
  ⟨fun i c hi hc => k.1 i c hi (h.1 i c hi hc), fun c hc => k.2.1 c (h.2.1 c hc), Nat.le_trans h.2.2 k.2.2⟩
theorem LKp_b {n₁ Bn : Nat} (W : World) (l : Nat) (o o' : Obj) (h : W.heap[l]? = some o) (ho : o.isCells = false) : LKp n₁ Bn W (W.putObj l o') := by
  have hne : ∀ k c t, W.heap[k]? = some (.cells c t (0, 0)) → k ≠ l := by
    rintro k c t hk rfl
    rw [h] at hk
    simp only [Option.some.injEq] at hk
    subst hk
    cases ho
  refine ⟨fun k c _ hc => ?_, fun c hc => ?_, ?_⟩
  · rw [World.putObj_heap_other (hne _ _ _ hc)]; exact hc
  · rw [World.putObj_heap_other (hne _ _ _ hc)]; exact hc
  · exact (grownBy_putObj' W l o').size
/-- What parts returns stops. -/
theorem parts_stops (s : ByteArray) (hs : s.size ≤ 1000000000000) (Bn n₁ : Nat) (w : World) (hBn : w.heap[Bn]? = some (.cells #[.string s] 9 (0, 0))) (hn : n₁ ≤ w.heap.size) :
    SeqStopsK Fence.wide 6 Tryz.prog 177 #[.pointer (some ⟨Bn, 0, none⟩)] encPart (LKp n₁ Bn) (fun ys => ys = partsOf s.data.toList) (fun pre => pre <+: partsOf s.data.toList) (partsOf s.data.toList).length w := fun l J Jx W hW hJ _ hY h0 =>
  parts1_in s hs l Bn n₁ J Jx hY W (Nat.le_trans hn hW.size) hJ (by rw [hW.block Bn (lt_of_heap hBn)]; exact hBn) h0
end Go.Proofs.YtlaihnbappfbfaaGreatDoor
