/- Walks of lineage: Parse and Valid. -/
import Derived.Test.YtlaihnbappfbfaaGreatDoorLinW2
namespace Go.Proofs.YtlaihnbappfbfaaGreatDoor
open Go.RowKit Go.Shelf
attribute [local go_sem] Oper.semAt_some

/-- An error is the last part. -/
theorem partsFrom_err_last (n : Nat) : ∀ (a c : Nat) (r : List UInt8), r.length = n → ∀ (pre : List Part) (x : Part), pre ++ [x] <+: partsFrom a c r → x.e ≠ 0 → pre ++ [x] = partsFrom a c r := by
  induction n using Nat.strongRecOn with
  | _ n ih =>
    intro a c r hn pre x hp hx
    have one : ∀ y : Part, pre ++ [x] <+: [y] → pre ++ [x] = [y] := by
      intro y h
      obtain ⟨t, ht⟩ := h
      cases pre with
      | nil => simp at ht; simp [ht]
      | cons z pre => simp at ht
    by_cases h1 : ordErr c r = 0
    · by_cases hk : dcount 7 r < r.length
      · by_cases hd : r[dcount 7 r] = 46
        · rw [partsFrom_more h1 hk hd] at hp ⊢
          cases pre with
          | nil =>
            obtain ⟨t, ht⟩ := hp
            simp at ht
            rw [ht.1] at hx
            exact absurd rfl hx
          | cons z pre =>
            rw [List.cons_append, List.cons_prefix_cons] at hp
            obtain ⟨rfl, hp⟩ := hp
            rw [List.cons_append, ih _ (by rw [List.length_drop]; omega) _ _ _ rfl pre x hp hx]
        · rw [partsFrom_bad h1 hk hd] at hp ⊢
          obtain ⟨t, ht⟩ := hp
          cases pre with
          | nil =>
            simp at ht
            rw [ht.1] at hx
            exact absurd rfl hx
          | cons z pre =>
            cases pre with
            | nil => simp at ht; simp [ht]
            | cons y pre => simp at ht
      · rw [partsFrom_last h1 (by have := dcount_le_length 7 r; omega)] at hp ⊢
        exact one _ hp
    · rw [partsFrom_err h1] at hp ⊢
      exact one _ hp
theorem partsOf_err_last {s : List UInt8} {pre : List Part} {x : Part} (hp : pre ++ [x] <+: partsOf s) (hx : x.e ≠ 0) : linErr s = x.e := by
  have : pre ++ [x] = partsOf s := by
    unfold partsOf at hp ⊢
    split
    · rw [if_pos ‹_›] at hp; simp at hp
    · rw [if_neg ‹_›] at hp; exact partsFrom_err_last _ _ _ _ rfl _ _ hp hx
  unfold linErr
  rw [← this]; simp
theorem partsOf_ok {s : List UInt8} (h : ∀ x ∈ partsOf s, x.e = 0) : linErr s = 0 := by
  unfold linErr
  cases hl : (partsOf s).getLast? with
  | none => rfl
  | some x => simp [h x (List.mem_of_getLast? hl)]

theorem heap_own (b : Nat) (c : Array Value) (t : TypeId) (fz : Nat × Nat) : Own (fun (_ : Unit) W => W.heap[b]? = some (.cells c t fz)) := by
  intro s A B row hs hg hr
  rw [hg.block b (lt_of_heap hs) (fun e => by
    obtain ⟨o, ho, hc⟩ := hr b e.symm
    rw [hs] at ho
    cases ho
    cases hc)]
  exact hs

theorem ko_set {A B : World} (h : KeepsOthers A B) (p : Addr) (v : Value) : KeepsOthers A (B.setCell p v) := h.trans (KeepsOthers.setCell _ _ _)
theorem ko_drew {A B : World} (h : KeepsOthers A B) : KeepsOthers A B.drew := h.trans (KeepsOthers.drew _)
def putC (off : Nat) (u : Value) : Obj → Obj
  | .cells c e f => .cells (c.setIfInBounds off u) e f
  | o => o
@[simp] theorem putC_cells (off : Nat) (u : Value) (c : Array Value) (e : TypeId) (f : Nat × Nat) : putC off u (.cells c e f) = .cells (c.setIfInBounds off u) e f := rfl
theorem heap_setCell_if (w : World) (b off k : Nat) (u : Value) : (w.setCell ⟨b, off, none⟩ u).heap[k]? = if k = b then (w.heap[k]?).map (putC off u) else w.heap[k]? := by
  simp only [World.setCell, Array.getElem?_modify]
  by_cases h : k = b
  · subst h
    simp only [if_true]
    first | rfl | (congr 1; funext o; cases o <;> rfl)
  · rw [if_neg (Ne.symm h), if_neg h]
theorem heap_drew (w : World) (k : Nat) : w.drew.heap[k]? = w.heap[k]? := rfl
theorem three_stores {w W : World} {N : Nat} {a b c : Value} {ta tb tc : TypeId} (h0 : W.heap[N]? = some (.cells #[a] ta (0, 0))) (h1 : W.heap[N + 1]? = some (.cells #[b] tb (0, 0))) (h2 : W.heap[N + 2]? = some (.cells #[c] tc (0, 0)))
    (hB : Below N w W) (x y z : Value) :
    KeepsOthers W (((W.setCell ⟨N, 0, none⟩ x).setCell ⟨N + 1, 0, none⟩ y).setCell ⟨N + 1 + 1, 0, none⟩ z) ∧
    (((((W.setCell ⟨N, 0, none⟩ x).setCell ⟨N + 1, 0, none⟩ y).setCell ⟨N + 1 + 1, 0, none⟩ z).heap[N]? = some (.cells #[x] ta (0, 0)) ∧
      (((W.setCell ⟨N, 0, none⟩ x).setCell ⟨N + 1, 0, none⟩ y).setCell ⟨N + 1 + 1, 0, none⟩ z).heap[N + 1]? = some (.cells #[y] tb (0, 0))) ∧
      (((W.setCell ⟨N, 0, none⟩ x).setCell ⟨N + 1, 0, none⟩ y).setCell ⟨N + 1 + 1, 0, none⟩ z).heap[N + 2]? = some (.cells #[z] tc (0, 0))) ∧
    Below N w (((W.setCell ⟨N, 0, none⟩ x).setCell ⟨N + 1, 0, none⟩ y).setCell ⟨N + 1 + 1, 0, none⟩ z) := by
  refine ⟨ko_set (ko_set (ko_set (KeepsOthers.refl _) _ _) _ _) _ _, ⟨⟨?_, ?_⟩, ?_⟩, ((hB.setCell (p := ⟨N, 0, none⟩) (Nat.le_refl _) _).setCell (p := ⟨N + 1, 0, none⟩) (by simp) _).setCell (p := ⟨N + 1 + 1, 0, none⟩) (by simp; omega) _⟩
  · rw [heap_setCell_ne (by omega), heap_setCell_ne (by omega), heap_setCell_same h0]; rfl
  · rw [heap_setCell_ne (by omega), heap_setCell_same (c := #[b]) (t := tb) (fz := (0, 0)) (by rw [heap_setCell_ne (by omega)]; exact h1)]; rfl
  · rw [show N + 2 = N + 1 + 1 from rfl, heap_setCell_same (c := #[c]) (t := tc) (fz := (0, 0)) (by rw [heap_setCell_ne (by omega), heap_setCell_ne (by omega)]; exact h2)]; rfl
/-- What Parse answers. -/
def ParsePost (err : Int) (w : World) (e : Ending) (w' : World) : Prop := (∃ (t : ByteArray) (a : Int), e = .returned (.tuple #[.string t, .int .i64 a, .int .i64 err])) ∧ Mods [] w w'

set_option maxRecDepth 100000 in
set_option maxHeartbeats 4000000 in
theorem parse_in (s : ByteArray) (hs : s.size ≤ 1000000000000) (w : World) :
    CallsIn Fence.wide 7 Tryz.prog 130 #[.string s] w (ParsePost (linErr s.data.toList) w) := by
  refine callsIn_of_wp_marks Tryz.func130 rfl trivial ?_ rfl
  simp only [Tryz.ntmps130, List.size_toArray, List.length_cons, List.length_nil, Nat.reduceAdd, Nat.reduceSub, Array.replicate_succ, Array.replicate_zero, List.push_toArray, List.append_toArray, List.nil_append, List.cons_append]
  gi_wp2_with (refine ⟨trivial, ?_⟩; gi_at_call 159; refine (callsIn_wide.2 (parts_any s _)).mono ?_; rintro e w' ⟨rfl, rfl⟩)
  obtain ⟨W0, hW0⟩ : ∃ W0, (((w.alloc (.cells #[.string ⟨#[]⟩] 78)).alloc (.cells #[.int .i64 0] 3)).alloc (.cells #[.int .i64 0] 22)).alloc (.cells #[.string s] 9) = W0 := ⟨_, rfl⟩
  have hsz : W0.heap.size = w.heap.size + 4 := by rw [← hW0]; simp
  have h0 : W0.heap[w.heap.size]? = some (.cells #[.string ⟨#[]⟩] 78 (0, 0)) := by
    rw [← hW0]; exact heap_alloc_old (heap_alloc_old (heap_alloc_old (heap_alloc_new _ _)))
  have h1 : W0.heap[w.heap.size + 1]? = some (.cells #[.int .i64 0] 3 (0, 0)) := by
    rw [← hW0]; exact heap_alloc_old (heap_alloc_old (by have := heap_alloc_new (w.alloc (.cells #[.string ⟨#[]⟩] 78)) (.cells #[.int .i64 0] 3); rwa [World.size_alloc] at this))
  have h2 : W0.heap[w.heap.size + 2]? = some (.cells #[.int .i64 0] 22 (0, 0)) := by
    rw [← hW0]; exact heap_alloc_old (by have := heap_alloc_new ((w.alloc (.cells #[.string ⟨#[]⟩] 78)).alloc (.cells #[.int .i64 0] 3)) (.cells #[.int .i64 0] 22); rwa [World.size_alloc, World.size_alloc] at this)
  have h3 : W0.heap[w.heap.size + 3]? = some (.cells #[.string s] 9 (0, 0)) := by
    rw [← hW0]; have := heap_alloc_new (((w.alloc (.cells #[.string ⟨#[]⟩] 78)).alloc (.cells #[.int .i64 0] 3)).alloc (.cells #[.int .i64 0] 22)) (.cells #[.string s] 9); rwa [World.size_alloc, World.size_alloc, World.size_alloc] at this
  have hB : Below w.heap.size w W0 := by rw [← hW0]; exact ((((Mods.refl [] w).alloc _).alloc _).alloc _).alloc _ |>.below
  rw [hW0]
  clear hW0
  refine wpIn_rangeFunc_ownH rfl (by omega) (gf := 177) (lb := #[.pointer (some ⟨w.heap.size + 1 + 1 + 1, 0, none⟩)]) rfl trivial (enters_of Tryz.func177 (by kernel_rfl) rfl)
    (parts_stops s hs (w.heap.size + 3) (w.heap.size + 4) W0 h3 (by omega)) LKp_t (fun W l o o' _ h ho _ => LKp_b W l o o' h ho) (Below.refl _ _) (fun _ => rfl)
    (fun pre W => (((W.heap[w.heap.size]? = some (.cells #[.string ⟨#[]⟩] 78 (0, 0)) ∧ W.heap[w.heap.size + 1]? = some (.cells #[.int .i64 0] 3 (0, 0))) ∧ W.heap[w.heap.size + 2]? = some (.cells #[.int .i64 0] 22 (0, 0))) ∧ Below w.heap.size w W) ∧ ∀ x ∈ pre, x.e = 0)
    (fun c pre W => ∃ (p' : List Part) (x : Part), pre = p' ++ [x] ∧ x.e ≠ 0 ∧ c = .ret ∧ ((W.heap[w.heap.size]? = some (.cells #[.string ⟨#[]⟩] 78 (0, 0)) ∧ W.heap[w.heap.size + 1]? = some (.cells #[.int .i64 x.at_] 3 (0, 0))) ∧ W.heap[w.heap.size + 2]? = some (.cells #[.int .i64 x.e] 22 (0, 0))) ∧ Below w.heap.size w W)
    ?hI ?hIx ⟨⟨⟨⟨h0, h1⟩, h2⟩, hB⟩, by simp⟩
    (fun x a' W => ∃ Bx, w.heap.size + 2 < Bx ∧ W.heap[Bx]? = some (.cells #[.int .i64 x.ord, .int .i64 x.at_, .int .i64 x.e] 227 (0, 0)) ∧ a' = { tmps := #[.string s, undef, .pointer (some ⟨w.heap.size, 0, none⟩), .pointer (some ⟨w.heap.size + 1, 0, none⟩), .pointer (some ⟨w.heap.size + 1 + 1, 0, none⟩), .pointer (some ⟨Bx, 0, none⟩), .string s, .func (.func 177) #[] #[.pointer (some ⟨w.heap.size + 1 + 1 + 1, 0, none⟩)], .agg #[.int .i64 x.ord, .int .i64 x.at_, .int .i64 x.e], undef, undef, undef, undef, undef, undef, undef, undef], defers := [] })
    ?hAx ?assign ?body ?done ?stop
  case hI =>
    exact OwnFrom.and (OwnFrom.and (OwnFrom.and (OwnFrom.and (fun s A B row hs hg hr => heap_own _ _ _ _ () A B row hs hg (fun r e => (hr r e).2)) (fun s A B row hs hg hr => heap_own _ _ _ _ () A B row hs hg (fun r e => (hr r e).2)))
      (fun s A B row hs hg hr => heap_own _ _ _ _ () A B row hs hg (fun r e => (hr r e).2))) (ownFrom_below (Nat.le_refl _) (by omega))) (fun s A B row hs hg hr => hs)
  case hIx =>
    rintro c pre A B row ⟨p', x, e1, e2, e3, ⟨⟨a0, a1⟩, a2⟩, aB⟩ hg hr
    exact ⟨p', x, e1, e2, e3, ⟨⟨heap_own _ _ _ _ () A B row a0 hg (fun r e => (hr r e).2), heap_own _ _ _ _ () A B row a1 hg (fun r e => (hr r e).2)⟩, heap_own _ _ _ _ () A B row a2 hg (fun r e => (hr r e).2)⟩,
      aB.grown hg (Nat.le_trans (by omega) aB.size) (fun k e => by have := (hr k e).1; omega)⟩
  case hAx =>
    rintro x a' _ A B row ⟨Bx, b1, b2, b3⟩ hg hr
    exact ⟨Bx, b1, heap_own _ _ _ _ () A B row b2 hg (fun r e => (hr r e).2), b3⟩
  case assign =>
    rintro l pre x W K ⟨⟨⟨⟨i0, i1⟩, i2⟩, iB⟩, ie⟩ hK
    have hKK := Lib.hid hK
    have I0 := Lib.hid i0
    have I1 := Lib.hid i1
    have I2 := Lib.hid i2
    have IB := Lib.hid iB
    have IE := Lib.hid ie
    clear hK i0 i1 i2 iB ie
    unfold encPart
    gi_wp2
    refine hKK.out _ _ ((KeepsOthers.alloc _ _).from _) ?_ ⟨⟨⟨⟨heap_alloc_old I0.out, heap_alloc_old I1.out⟩, heap_alloc_old I2.out⟩, IB.out.alloc IB.out.size _⟩, IE.out⟩ ⟨W.heap.size, ?_, heap_alloc_new _ _, rfl⟩
    · exact ⟨fun k c _ hc => heap_alloc_old hc, fun c hc => heap_alloc_old hc, by simp⟩
    · exact lt_of_heap I2.out
  case body =>
    rintro l pre x a' W hl ⟨r, hr⟩ ⟨⟨⟨⟨i0, i1⟩, i2⟩, iB⟩, ie⟩ ⟨Bx, hBx, bX, rfl⟩ hlt
    have hc2 := cell_of_heap bX 2
    have hc1 := cell_of_heap bX 1
    simp only [List.getElem?_toArray, List.getElem?_cons_zero, List.getElem?_cons_succ] at hc1 hc2
    have f0 := frozen_of_heap i0 0
    have f1 := frozen_of_heap i1 0
    have f2 := frozen_of_heap i2 0
    have g0 := cell_of_heap i0 0
    have g1 := cell_of_heap i1 0
    have g2 := cell_of_heap i2 0
    simp only [List.getElem?_toArray, List.getElem?_cons_zero] at g0 g1 g2
    have I0 := Lib.hid i0
    have I1 := Lib.hid i1
    have I2 := Lib.hid i2
    have IB := Lib.hid iB
    have IE := Lib.hid ie
    clear i0 i1 i2 iB ie bX hr
    by_cases hx : x.e = 0
    · have b1 : (x.e == 0) = true := by simpa using hx
      have b2 : (x.e != 0) = false := by simpa using hx
      have Hx := Lib.hid hx
      clear hx
      gi_wp2
      refine ⟨(KeepsOthers.refl W).from _, ⟨fun k c _ hc => hc, fun c hc => hc, Nat.le_refl _⟩, ⟨⟨⟨I0.out, I1.out⟩, I2.out⟩, IB.out⟩, fun y hy => ?_⟩
      rcases List.mem_append.1 hy with hy | hy
      · exact IE.out y hy
      · rw [List.mem_singleton.1 hy]; exact Hx.out
    · have b1 : (x.e == 0) = false := by simpa using hx
      have b2 : (x.e != 0) = true := by simpa using hx
      have Hx := Lib.hid hx
      clear hx
      gi_wp2
      gi_region
      all_goals gi_wp2
      all_goals
        obtain ⟨k1, k2, k3⟩ := three_stores I0.out I1.out I2.out IB.out (.string ⟨#[]⟩) (.int .i64 x.at_) (.int .i64 x.e)
        exact ⟨(ko_drew k1).from _, pre, x, rfl, Hx.out, rfl, k2, k3.drew⟩
  case done =>
    rintro D ys W hD rfl ⟨⟨⟨⟨i0, i1⟩, i2⟩, iB⟩, ie⟩ hK
    have f0 := frozen_of_heap i0 0
    have f1 := frozen_of_heap i1 0
    have f2 := frozen_of_heap i2 0
    have g0 := cell_of_heap i0 0
    have g1 := cell_of_heap i1 0
    have g2 := cell_of_heap i2 0
    simp only [List.getElem?_toArray, List.getElem?_cons_zero] at g0 g1 g2
    have I0 := Lib.hid i0
    have I1 := Lib.hid i1
    have I2 := Lib.hid i2
    have IB := Lib.hid iB
    have IE := Lib.hid ie
    have HK := Lib.hid hK
    clear i0 i1 i2 iB ie hK
    gi_wp2
    obtain ⟨k1, ⟨⟨k2, k3⟩, k4⟩, k5⟩ := three_stores I0.out I1.out I2.out IB.out (.string s) (.int .i64 0) (.int .i64 0)
    have HK2 := k1.same D _ HK.out rfl
    refine ⟨by simp, .inl ⟨_, _, rfl, run_takeDeferred HK2, ?_⟩⟩
    have he := partsOf_ok IE.out
    have e0 := grownBy_putObj' (((W.setCell ⟨w.heap.size, 0, none⟩ (.string s)).setCell ⟨w.heap.size + 1, 0, none⟩ (.int .i64 0)).setCell ⟨w.heap.size + 1 + 1, 0, none⟩ (.int .i64 0)) D (.deferred none)
    have q0 := cell_of_heap (heap_own _ _ _ _ () _ _ _ k2 e0 (fun r e => by cases e; exact ⟨_, HK2, rfl⟩)) 0
    have q1 := cell_of_heap (heap_own _ _ _ _ () _ _ _ k3 e0 (fun r e => by cases e; exact ⟨_, HK2, rfl⟩)) 0
    have q2 := cell_of_heap (heap_own _ _ _ _ () _ _ _ k4 e0 (fun r e => by cases e; exact ⟨_, HK2, rfl⟩)) 0
    simp only [List.getElem?_toArray, List.getElem?_cons_zero] at q0 q1 q2
    refine ⟨.tuple #[.string s, .int .i64 0, .int .i64 0], ?_, ⟨s, 0, by rw [he]⟩, ?_⟩
    · simp [results, Tryz.results130, go_sem, q0, q1, q2]
    · exact .of_below (k5.trans (belowK_b (w := w) (Nat.le_refl _) _ D _ _ (by omega) HK2 rfl rfl))
  case stop =>
    rintro D c pre W hD hpre ⟨p', x, rfl, hx, rfl, ⟨⟨i0, i1⟩, i2⟩, iB⟩ hK
    have he := partsOf_err_last hpre hx
    have e0 := grownBy_putObj' W D (.deferred none)
    have q0 := cell_of_heap (heap_own _ _ _ _ () _ _ _ i0 e0 (fun r e => by cases e; exact ⟨_, hK, rfl⟩)) 0
    have q1 := cell_of_heap (heap_own _ _ _ _ () _ _ _ i1 e0 (fun r e => by cases e; exact ⟨_, hK, rfl⟩)) 0
    have q2 := cell_of_heap (heap_own _ _ _ _ () _ _ _ i2 e0 (fun r e => by cases e; exact ⟨_, hK, rfl⟩)) 0
    simp only [List.getElem?_toArray, List.getElem?_cons_zero] at q0 q1 q2
    have Q0 := Lib.hid q0
    have Q1 := Lib.hid q1
    have Q2 := Lib.hid q2
    have HK := Lib.hid hK
    have He := Lib.hid he
    clear i0 i1 i2 hK he hx hpre q0 q1 q2
    gi_wp2
    refine ⟨by simp, .inl ⟨_, _, rfl, run_takeDeferred HK.out, ?_⟩⟩
    refine ⟨.tuple #[.string ⟨#[]⟩, .int .i64 x.at_, .int .i64 x.e], ?_, ⟨⟨#[]⟩, x.at_, by rw [He.out]⟩, ?_⟩
    · simp [results, Tryz.results130, go_sem, Q0.out, Q1.out, Q2.out]
    · exact .of_below (iB.trans (belowK_b (w := w) (Nat.le_refl _) _ D _ _ (by omega) HK.out rfl rfl))

theorem parseName_any (s : ByteArray) (hs : s.size ≤ 1000000000000) (w : World) : Calls Tryz.prog 130 #[.string s] w (ParsePost (linErr s.data.toList) w) :=
  callsIn_wide.1 (parse_in s hs w)

/-- lineage.Valid. -/
theorem valid_any (s : ByteArray) (hs : s.size ≤ 1000000000000) (w : World) : Calls Tryz.prog 107 #[.string s] w fun e w' => e = .returned (.bool (vname s.data.toList)) ∧ Mods [] w w' := by
  go_enter Tryz.func107, Tryz.ntmps107
  go_wp2_with fail
  refine (parseName_any s hs w).mono ?_
  rintro e w1 ⟨⟨t, a, rfl⟩, hm⟩
  have Hm := Lib.hid hm
  clear hm
  go_wp2
  go_ret
  exact ⟨rfl, Hm.out⟩
end Go.Proofs.YtlaihnbappfbfaaGreatDoor
