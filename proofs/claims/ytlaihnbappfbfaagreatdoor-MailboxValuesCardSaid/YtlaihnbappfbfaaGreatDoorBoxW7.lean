/- Walks of mailbox: Deliver where it succeeds. -/
import Derived.Test.YtlaihnbappfbfaaGreatDoorB2
namespace Go.Proofs.YtlaihnbappfbfaaGreatDoor
open Go.RowKit

theorem ViewIs.high {wx wy : World} {V n R : Nat} {l : List ChgB} {c : Array Value} {T : TypeId} (h : ViewIs wx V n l) (hR : V < R) (hc : wx.heap[R]? = some (.cells c T (0, 0))) (hT : T ≠ 93) (hm : Mods [R] wx wy) : ViewIs wy V n l := by
  refine h.keep (P := fun k o => ¬ (k = R ∧ ∃ c, o = .cells c T (0, 0))) (Keep.of_mods hm (fun k o hkw hP hkA => ?_)) (fun _ e => by omega) (fun k _ _ hk e => by omega) (fun k cur e => ?_) (fun k _ hk e => by omega)
  · have : k = R := by simpa using hkA
    subst this
    exact hP ⟨rfl, _, Option.some.inj (hkw.symm.trans hc)⟩
  · obtain ⟨_, c, e⟩ := e
    simp only [Obj.cells.injEq] at e
    exact hT e.2.1.symm
theorem Glob.high {wx wy : World} {V R : Nat} {ml : Int} (h : Glob wx V ml) (hR : V < R) (hm : Mods [R] wx wy) : Glob wy V ml :=
  ⟨h.u.mods hm (by have := h.g0; simp; omega), hm.keepS h.m (by have := h.g1; simp; omega), h.g0, h.g1⟩
/-- What holds while a mailbox lies in a variable in block A. -/
structure BxI (w wx : World) (A V n base : Nat) (ml : Int) (l : List ChgB) (next : Int) (v : Value) (q : List MsgB) : Prop where
  a : wx.heap[A]? = some (.cells #[.int .i64 next, v] 34 (0, 0))
  own : MsgsOwn wx base v q
  vi : ViewIs wx V n l
  g : Glob wx V ml
  k : Keep (VKeep V) w wx
  lb : w.heap.size ≤ base
  la : w.heap.size ≤ A
  va : V < A
  vb : V < base
  ga : v.ownBlock ≠ some A
theorem MsgsOwn.block {w : World} {base : Nat} {v : Value} {q : List MsgB} (h : MsgsOwn w base v q) {g : Nat} (hg : v.ownBlock = some g) : base ≤ g ∧ ∃ cur, w.heap[g]? = some (.cells cur 57 (0, 0)) := by
  obtain ⟨_, ⟨rfl, _⟩ | ⟨g', cap, cur, rfl, hB, hh, _⟩⟩ := h
  · simp [Value.ownBlock] at hg
  · simp only [Value.ownBlock, Option.some.injEq] at hg
    subst hg
    exact ⟨hB, cur, hh⟩
theorem BxI.mods {w wx wy : World} {A V n base : Nat} {ml : Int} {l : List ChgB} {next : Int} {v : Value} {q : List MsgB} (h : BxI w wx A V n base ml l next v q) (hm : Mods [] wx wy) : BxI w wy A V n base ml l next v q :=
  ⟨hm.heap h.a (by simp), h.own.mods hm (by simp), h.vi.mods hm, h.g.mods hm, h.k.trans (Keep.of_mods hm (by simp)), h.lb, h.la, h.va, h.vb, h.ga⟩
theorem BxI.view {w wx wy : World} {A V n n' base : Nat} {ml : Int} {l l' : List ChgB} {next : Int} {v : Value} {q : List MsgB} (h : BxI w wx A V n base ml l next v q) (hv : ViewIs wy V n' l') (hk : Keep (VKeep V) wx wy) : BxI w wy A V n' base ml l' next v q := by
  have h1 := h.va
  have h2 := h.vb
  exact ⟨keepV_heap hk (by omega) (by decide) h.a, h.own.blocks fun k o hk' hB hh => by
    obtain ⟨_, cur, hc⟩ := h.own.block hk'
    rw [hc] at hh
    obtain rfl := Option.some.inj hh
    exact keepV_heap hk (by omega) (by decide) hc, hv, h.g.keepV hk, h.k.trans hk, h.lb, h.la, h.va, h.vb, h.ga⟩
theorem BxI.setNext {w wx : World} {A V n base : Nat} {ml : Int} {l : List ChgB} {next : Int} {v : Value} {q : List MsgB} (h : BxI w wx A V n base ml l next v q) (m : Int) : BxI w (wx.setCell ⟨A, 0, none⟩ (.int .i64 m)) A V n base ml l m v q := by
  have hm : Mods [A] wx (wx.setCell ⟨A, 0, none⟩ (.int .i64 m)) := (Mods.refl _ _).setCell (.inl (by simp)) _
  refine ⟨?_, h.own.mods hm (fun k hk => by obtain rfl := List.mem_singleton.1 hk; exact h.ga), h.vi.high h.va h.a (by decide) hm, h.g.high h.va hm, h.k.fresh hm h.la, h.lb, h.la, h.va, h.vb, h.ga⟩
  rw [heap_setCell_same h.a]; rfl
theorem own_ne {w : World} {base n A : Nat} {v : Value} {xs : List Value} {c : Array Value} (h : w.ownsRow base 57 5 v n xs) (hA : w.heap[A]? = some (.cells c 34 (0, 0))) : v.ownBlock ≠ some A := by
  intro e
  obtain ⟨_, ⟨rfl, _⟩ | ⟨g', cap, cur, rfl, hB, hh, _⟩⟩ := h
  · simp [Value.ownBlock] at e
  · simp only [Value.ownBlock, Option.some.injEq] at e
    subst e
    rw [hh] at hA
    simp only [Option.some.injEq, Obj.cells.injEq] at hA
    exact absurd hA.2.1 (by decide)

/-- A message is appended. -/
theorem BxI.add {w wx wy : World} {A V n base : Nat} {ml : Int} {l : List ChgB} {next : Int} {v v' : Value} {q : List MsgB} {m : MsgB} (h : BxI w wx A V n base ml l next v q) {o : Obj}
    (hown : wy.ownsRow base 57 5 v' (q.length + 1) (q.flatMap MsgB.cells ++ m.cells)) (hg : (wx.alloc o).grownBy wy v.ownBlock) : BxI w (wy.setCell ⟨A, 1, none⟩ v') A V n base ml l next v' (q ++ [m]) := by
  have hmy : Mods v.ownBlock.toList wx wy := ((Mods.refl _ wx).alloc o).grown hg (fun k hk => .inl (by rw [hk]; simp))
  have hay : wy.heap[A]? = some (.cells #[.int .i64 next, v] 34 (0, 0)) := hmy.heap h.a (fun hc => h.ga (by simpa [eq_comm] using hc))
  have hA := own_ne hown hay
  have hvy : ViewIs wy V n l ∧ Glob wy V ml ∧ Keep (VKeep V) w wy := by
    cases hb : v.ownBlock with
    | none =>
      rw [hb] at hmy
      exact ⟨h.vi.mods hmy, h.g.mods hmy, h.k.trans (Keep.of_mods hmy (by simp))⟩
    | some g =>
      rw [hb] at hmy
      obtain ⟨hB, cur, hc⟩ := h.own.block hb
      have := h.vb
      have := h.lb
      exact ⟨h.vi.high (by omega) hc (by decide) hmy, h.g.high (by omega) hmy, h.k.fresh hmy (by omega)⟩
  have hm2 : Mods [A] wy (wy.setCell ⟨A, 1, none⟩ v') := (Mods.refl _ _).setCell (.inl (by simp)) _
  have hown' : MsgsOwn wy base v' (q ++ [m]) := by
    unfold MsgsOwn
    rw [List.length_append, List.flatMap_append]
    simpa using hown
  refine ⟨?_, hown'.mods hm2 (fun k hk => by obtain rfl := List.mem_singleton.1 hk; exact hA), hvy.1.high h.va hay (by decide) hm2, hvy.2.1.high h.va hm2, hvy.2.2.fresh hm2 h.la, h.lb, h.la, h.va, h.vb, hA⟩
  rw [heap_setCell_same hay]; rfl
theorem own_len {w : World} {base n : Nat} {E : TypeId} {s : Nat} {a : Option Addr} {m c : Nat} {xs : List Value} (h : w.ownsRow base E s (.slice a m c) n xs) : m = n := by
  obtain ⟨_, ⟨e, e2⟩ | ⟨g', cap, cur, e, _⟩⟩ := h
  · simp only [Value.slice.injEq] at e
    rw [e.2.1, e2]
  · simp only [Value.slice.injEq] at e; exact e.2.1
theorem news3 (w : World) (o1 o2 : Obj) (cs : Array Value) (t : TypeId) : ∀ j u, cs.toList[j]? = some u → (((w.alloc o1).alloc o2).alloc (.cells cs t)).cell? ((⟨w.heap.size + 2, 0, none⟩ : Addr).add j) = some u := by
  have h := heap_alloc_new ((w.alloc o1).alloc o2) (.cells cs t)
  simp only [World.size_alloc] at h
  exact World.news_of_block h
/-- The mailbox with one message more. -/
def boxPlus (b : BoxV) (frm : List UInt8) (sec : Int) (txt : List UInt8) : BoxV := ⟨b.next + 1, b.msgs ++ [⟨b.next, frm, sec, txt, false⟩]⟩

set_option maxRecDepth 100000 in
set_option maxHeartbeats 4000000 in
theorem deliver_ok {w : World} {V n : Nat} {l : List ChgB} {ml : Int} (h : ViewIs w V n l) (G : Glob w V ml) (hn : n < 10000000) (too frm txt : ByteArray) (sec : Int) (ht : too.size ≤ 1000000) (hf : frm.size ≤ 1000000)
    (arr : List Value) (harr : arr.length = 45) (hone : arr.toArray.all (·.oneCell') = true)
    (hu : ∀ W n', ViewIs W V n' l → Glob W V ml → n' < 100000000 → Calls Tryz.prog 67 #[.pointer (some ⟨V, 0, none⟩), .string too] W fun e w' => e = .returned (.tuple #[.agg arr.toArray, .int .i64 0]) ∧ ViewIs w' V (n' + 1) l ∧ Keep (VKeep V) W w')
    (hE : mailE too.data.toList frm.data.toList sec txt.size = 0) {b : BoxV} (hb : boxOf l too = some b) (hnx : b.next < 1048576) (hn0 : 0 ≤ b.next) (hlen : b.msgs.length < 32) (hbe : boxE (boxPlus b frm.data.toList sec txt.data.toList) = 0) :
    Calls Tryz.prog 31 #[.pointer (some ⟨V, 0, none⟩), .string too, .string frm, .int .i64 sec, .string txt] w
      fun e w' => e = .returned (.tuple #[.int .i64 b.next, .int .i64 0]) ∧ ViewIs w' V (n + 3) (l ++ [⟨boxN too, ⟨(encBox (boxPlus b frm.data.toList sec txt.data.toList)).toArray⟩, false⟩]) ∧ Keep (VKeep V) w w' := by
  have hun : unameOK too.data.toList = true := by
    cases h1 : unameOK too.data.toList with
    | true => rfl
    | false => unfold mailE at hE; rw [if_pos h1] at hE; cases hE
  have hsz := size_of_uname hun
  have hwd := wordOK_of_uname hun
  have hcm := checkMail_any too frm txt sec w ml ht hf G.m
  rw [hE] at hcm
  have hrd := fun W n' (hv : ViewIs W V n' l) (hG : Glob W V ml) (hn' : n' < 100000000) => boxRead_any hv hG hn' too (by omega) hwd
  simp only [hb] at hrd
  have HV := Lib.hid h
  have HG := Lib.hid G
  have HU := Lib.hid hu
  have HRD := Lib.hid hrd
  have HBE := Lib.hid hbe
  have HONE := Lib.hid hone
  have hasz : Hid ((Tryz.prog.info? 116).map (·.size) = some arr.toArray.size) := by show _ = _; rw [List.size_toArray, harr]; kernel_rfl
  have h45 : Hid (45 = arr.toArray.size) := by show _ = _; rw [List.size_toArray, harr]
  clear h G hu hrd hbe hone hE hun harr hb
  go_enter Tryz.func31, Tryz.ntmps31
  go_wp2_with (go_at_call 66; refine hcm.mono ?_; rintro e w1 ⟨rfl, hm1⟩)
  refine (HU.out _ n (HV.out.mods hm1) (HG.out.mods hm1) (by omega)).mono ?_
  rintro e w2 ⟨rfl, hv2, hk2⟩
  have HV2 := Lib.hid hv2
  have HG2 := Lib.hid ((HG.out.mods hm1).keepV hk2)
  have HK2 := Lib.hid ((Keep.of_mods (P := VKeep V) hm1 (by simp)).trans hk2)
  clear hv2 hk2 hm1 hcm
  go_wp2_with (refine wpList_store_new rfl 116 _ _ rfl arr.toArray rfl rfl 116 _ hasz.out h45.out HONE.out ?_; intro W4 hA4 hm4)
  refine (HRD.out _ (n + 1) (HV2.out.mods hm4) (HG2.out.mods hm4) (by omega)).mono ?_
  rintro e w5 ⟨hv5, hk5, v, rfl, ho5⟩
  have hz4 : w.heap.size ≤ W4.heap.size := Nat.le_trans HK2.out.size hm4.size
  have hV4 : V < W4.heap.size := Nat.lt_of_lt_of_le HV2.out.lt hm4.size
  obtain ⟨va, vn, vc, rfl⟩ := owns_shape ho5
  obtain rfl : vn = b.msgs.length := by have := own_len ho5; rwa [List.length_map] at this
  have hA5 : Mods [] w5 (w5.alloc (.cells #[.int .i64 b.next, .slice va b.msgs.length vc] 34)) := (Mods.refl _ _).alloc _
  have I : BxI w (w5.alloc (.cells #[.int .i64 b.next, .slice va b.msgs.length vc] 34)) w5.heap.size V (n + 2) W4.heap.size ml l b.next (.slice va b.msgs.length vc) (b.msgs.map MsgV.b) :=
    ⟨heap_alloc_new w5 _, ho5.mods hA5 (by simp), hv5.mods hA5, ((HG2.out.mods hm4).keepV hk5).mods hA5, (((HK2.out.trans (Keep.of_mods hm4 (by simp)))).trans hk5).trans (Keep.of_mods hA5 (by simp)), hz4, Nat.le_trans hz4 hk5.size, Nat.lt_of_lt_of_le hV4 hk5.size, hV4, fun e => by have := (ho5.lt _ e).2; omega⟩
  have HI := Lib.hid I
  have hlen' : ¬ (32 : Int) ≤ (b.msgs.length : Int) := by omega
  have hnx' : (b.next == 1048576) = false := by simp; omega
  have hs45 : W4.heap.size ≤ w5.heap.size := hk5.size
  clear I hA5 hv5 hk5 ho5 hm4 hA4
  obtain ⟨i0, hi, hz0, hz1, hz2⟩ := info_parts infoMsg
  go_wp2_with (at_builtin; refine wpList_append_own _ rfl _ _ 31 rfl W4.heap.size 57 i0 _ 5 56 Tryz.underlying31 hi hz0 hz1 hz2 rfl (by decide) _ _ _ rfl (World.ownsRow.alloc (World.ownsRow.alloc HI.out.own _) _) ⟨w5.heap.size + 2, 0, none⟩ 1 1 [.int .i64 b.next, .string frm, .int .i64 sec, .string txt, .bool false] rfl rfl (news3 w5 _ _ #[.int .i64 b.next, .string frm, .int .i64 sec, .string txt, .bool false] _) ?c1 ?c2 ?c3 ?c4 ?_)
  case c1 => intro u hu; simp at hu; rcases hu with rfl | rfl | rfl | rfl | rfl <;> rfl
  case c2 => rw [List.length_map]; unfold maxLen; omega
  case c3 => rw [List.length_map]; omega
  case c4 => simp; omega
  intro v' w6 hown hgr _
  obtain ⟨va', vn', vc', rfl⟩ := owns_shape hown
  have hM0 : ((w5.alloc (.cells #[.int .i64 b.next, .slice va b.msgs.length vc] 34)).alloc (.cells #[.int .i64 b.next, .string frm, .int .i64 sec, .string txt, .bool false] 57)).heap[w5.heap.size + 1]? = some (.cells #[.int .i64 b.next, .string frm, .int .i64 sec, .string txt, .bool false] 57) := by
    have := heap_alloc_new (w5.alloc (.cells #[.int .i64 b.next, .slice va b.msgs.length vc] 34)) (.cells #[.int .i64 b.next, .string frm, .int .i64 sec, .string txt, .bool false] 57)
    rw [World.size_alloc] at this
    exact this
  have I2 := HI.out.mods ((Mods.refl [] _).alloc (.cells #[.int .i64 b.next, .string frm, .int .i64 sec, .string txt, .bool false] 57))
  have hM6 : w6.heap[w5.heap.size + 1]? = some (.cells #[.int .i64 b.next, .string frm, .int .i64 sec, .string txt, .bool false] 57) := by
    rw [hgr.block (w5.heap.size + 1) (by simp) (fun e => by have := (HI.out.own.lt _ e.symm).2; rw [World.size_alloc] at this; omega)]
    exact heap_alloc_old hM0
  have J := I2.add (m := ⟨b.next, frm, sec, txt, false⟩) (by rw [List.length_map]; exact hown) hgr
  have hA6 : w6.heap[w5.heap.size]? = some (.cells #[.int .i64 b.next, .slice va b.msgs.length vc] 34) := by
    rw [hgr.block w5.heap.size (by simp; omega) (fun e => I2.ga e.symm)]
    exact heap_alloc_old I2.a
  have k0 := cell_of_heap hA6 0
  have k1 := cell_of_heap hA6 1
  simp only [List.getElem?_toArray, List.getElem?_cons_zero, List.getElem?_cons_succ] at k0 k1
  have f0 := frozen_of_heap hA6 0
  have f1 := frozen_of_heap hA6 1
  have hne6 : w5.heap.size + 1 ≠ w5.heap.size := by omega
  have hM7 := hM6
  replace J := J.setNext (b.next + 1)
  have hq : (b.msgs.map MsgV.b ++ ([⟨b.next, frm, sec, txt, false⟩] : List MsgB)).map MsgB.v = (boxPlus b frm.data.toList sec txt.data.toList).msgs := by
    rw [List.map_append, map_b_v]; rfl
  have hwr := boxWrite_ok J.vi J.g (by omega) too (by omega) hwd (b.next + 1) (J.own.at (by rw [List.length_append, List.length_map]; simp; omega)) (by rw [hq]; exact HBE.out)
  rw [hq] at hwr
  have HJ := Lib.hid J
  have HM7 : Hid (∀ W, Mods [w5.heap.size] w6 W → W.heap[w5.heap.size + 1]? = some (.cells #[.int .i64 b.next, .string frm, .int .i64 sec, .string txt, .bool false] 57)) := by
    show ∀ _, _
    exact fun W hW => hW.heap hM7 (by simp)
  have HX : Hid (Mods [w5.heap.size] w6 ((w6.setCell ⟨w5.heap.size, 1, none⟩ (.slice va' vn' vc')).setCell ⟨w5.heap.size, 0, none⟩ (.int .i64 (b.next + 1)))) := by
    show Mods _ _ _
    exact ((Mods.refl _ _).setCell (.inl (by simp)) _).setCell (.inl (by simp)) _
  have HW := Lib.hid hwr
  clear hwr J I2 hM0 hM6 hM7 hA6 hown hgr hq HBE
  go_wp2_with fail
  refine HW.out.mono ?_
  rintro e w7 ⟨rfl, hv7, hk7⟩
  have m0 := cell_of_heap (keepV_heap hk7 (by have := HJ.out.va; omega) (by decide) (HM7.out _ HX.out)) 0
  simp only [List.getElem?_toArray, List.getElem?_cons_zero] at m0
  have HK := Lib.hid (HJ.out.k.trans hk7)
  clear hk7 k0 k1 f0 f1
  go_wp2
  go_ret2
  exact ⟨rfl, hv7, HK.out⟩
end Go.Proofs.YtlaihnbappfbfaaGreatDoor
