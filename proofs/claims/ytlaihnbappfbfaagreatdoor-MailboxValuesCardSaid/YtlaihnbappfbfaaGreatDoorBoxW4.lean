/- Walks of mailbox: Decode. -/
import Derived.Test.YtlaihnbappfbfaaGreatDoorB1
import Derived.Test.YtlaihnbappfbfaaGreatDoorUserW5
import Derived.Deep.AppendLies
import Derived.Deep.Onto
namespace Go.Proofs.YtlaihnbappfbfaaGreatDoor
open Go.RowKit

theorem infoMsg : (Tryz.prog.info? 57).map (fun i => (i.zero, i.size, i.bytes)) = some (some (.agg #[.int .i64 0, .string ⟨#[]⟩, .int .i64 0, .string ⟨#[]⟩, .bool false]), 5, 56) := by kernel_rfl
/-- The slice value v owns the messages l, in a block from base on. -/
def MsgsOwn (w : World) (base : Nat) (v : Value) (l : List MsgB) : Prop := w.ownsRow base 57 5 v l.length (l.flatMap MsgB.cells)
theorem MsgsOwn.blocks {w w' : World} {base : Nat} {v : Value} {l : List MsgB} (h : MsgsOwn w base v l) (hb : ∀ k o, v.ownBlock = some k → base ≤ k → w.heap[k]? = some o → w'.heap[k]? = some o) : MsgsOwn w' base v l := by
  obtain ⟨h1, ⟨rfl, h2⟩ | ⟨g', cap, cur, rfl, hB, hh, hn, hm, hc, ht⟩⟩ := h
  · exact ⟨h1, .inl ⟨rfl, h2⟩⟩
  · exact ⟨h1, .inr ⟨g', cap, cur, rfl, hB, hb _ _ rfl hB hh, hn, hm, hc, ht⟩⟩
theorem MsgsOwn.mods {S : List Nat} {w w' : World} {base : Nat} {v : Value} {l : List MsgB} (h : MsgsOwn w base v l) (hm : Mods S w w') (hS : ∀ k ∈ S, v.ownBlock ≠ some k) : MsgsOwn w' base v l :=
  h.blocks fun _ _ hk _ hh => hm.heap hh (fun hc => hS _ hc hk)
theorem flat5 (l : List MsgB) (i j : Nat) (hj : j < 5) {m : MsgB} (h : l[i]? = some m) : (l.flatMap MsgB.cells)[i * 5 + j]? = m.cells[j]? := by
  induction l generalizing i with
  | nil => simp at h
  | cons x r ih =>
    have hx : x.cells.length = 5 := rfl
    rw [List.flatMap_cons]
    cases i with
    | zero =>
      simp only [List.getElem?_cons_zero, Option.some.injEq] at h
      subst h
      rw [List.getElem?_append_left (by omega)]
      congr 1; omega
    | succ i =>
      rw [List.getElem?_append_right (by omega), hx]
      rw [show (i + 1) * 5 + j - 5 = i * 5 + j by omega]
      exact ih i (by simpa using h)
theorem MsgsOwn.at {w : World} {base : Nat} {v : Value} {l : List MsgB} (h : MsgsOwn w base v l) (hl : l.length ≤ 1000000000) : MsgsAt w v l := by
  have hcells := fun g => World.ownsRow.cells (g := g) h
  obtain ⟨h1, ⟨rfl, h2⟩ | ⟨g', cap, cur, rfl, hB, hh, hn, hm, hc, ht⟩⟩ := h
  · exact ⟨none, 0, by rw [h2], by omega, by omega, .inl (List.length_eq_zero_iff.1 h2)⟩
  · refine ⟨_, cap, rfl, hn, hl, .inr ⟨g', 0, rfl, fun i hi j u hj => ?_⟩⟩
    have hj5 : j < 5 := (List.getElem?_eq_some_iff.1 hj).1
    have := hcells g' rfl (i * 5 + j) u (by rw [flat5 l i j hj5 (List.getElem?_eq_getElem hi)]; exact hj)
    rw [Addr.add_lit] at this
    simpa [Nat.add_assoc] using this

/-- What holds between two reads. -/
structure BDec (w wx : World) (Rb Bb R B : Nat) (nx : Int) (v : Value) (l : List MsgB) (st : RS) : Prop where
  rb : ∃ z, wx.heap[Rb]? = some (.cells z 34 (0, 0)) ∧ z.size = 2
  b : wx.heap[Bb]? = some (.cells #[.int .i64 nx, v] 34 (0, 0))
  own : MsgsOwn wx (Bb + 1) v l
  ir : IsReader wx R B st
  m : Mods [] w wx
  o1 : w.heap.size ≤ Rb
  o2 : Rb < B
  o3 : B < R
  o4 : R < Bb
theorem BDec.mods {w wx wy : World} {Rb Bb R B : Nat} {nx : Int} {v : Value} {l : List MsgB} {st st' : RS} (h : BDec w wx Rb Bb R B nx v l st) (hr : IsReader wy R B st') (S : List Nat) (hm : Mods S wx wy) (hS : ∀ k ∈ S, w.heap.size ≤ k ∧ k ≠ Rb ∧ k ≠ Bb ∧ v.ownBlock ≠ some k) : BDec w wy Rb Bb R B nx v l st' := by
  obtain ⟨z, hz, hzs⟩ := h.rb
  exact ⟨⟨z, hm.heap hz (fun hc => (hS _ hc).2.1 rfl), hzs⟩, hm.heap h.b (fun hc => (hS _ hc).2.2.1 rfl), h.own.mods hm (fun k hk => (hS k hk).2.2.2), hr, h.m.trans hm (fun i hi => .inr (hS i hi).1), h.o1, h.o2, h.o3, h.o4⟩
theorem BDec.keep {w wx wy : World} {Rb Bb R B : Nat} {nx : Int} {v : Value} {l : List MsgB} {st : RS} (h : BDec w wx Rb Bb R B nx v l st) (hm : Mods [] wx wy) : BDec w wy Rb Bb R B nx v l st :=
  h.mods (h.ir.mods hm (by simp) (by simp)) [] hm (by simp)
theorem BDec.read {w wx wy : World} {Rb Bb R B : Nat} {nx : Int} {v : Value} {l : List MsgB} {st st' : RS} (h : BDec w wx Rb Bb R B nx v l st) (hr : IsReader wy R B st') (hm : Mods [R] wx wy) : BDec w wy Rb Bb R B nx v l st' := by
  have h1 := h.o1
  have h2 := h.o2
  have h3 := h.o3
  have h4 := h.o4
  refine h.mods hr [R] hm (fun k hk => ?_)
  obtain rfl := List.mem_singleton.1 hk
  exact ⟨by omega, by omega, by omega, fun e => by have := (h.own.lt _ e).1; omega⟩
/-- The box's number is set. -/
theorem BDec.setNext {w wx : World} {Rb Bb R B : Nat} {nx : Int} {v : Value} {l : List MsgB} {st : RS} (h : BDec w wx Rb Bb R B nx v l st) (n : Int) : BDec w (wx.setCell ⟨Bb, 0, none⟩ (.int .i64 n)) Rb Bb R B n v l st := by
  have h1 := h.o1
  have h2 := h.o2
  have h3 := h.o3
  have h4 := h.o4
  obtain ⟨z, hz, hzs⟩ := h.rb
  have hm : Mods [Bb] wx (wx.setCell ⟨Bb, 0, none⟩ (.int .i64 n)) := (Mods.refl _ _).setCell (.inl (by simp)) _
  refine ⟨⟨z, hm.heap hz (by simp; omega), hzs⟩, ?_, h.own.mods hm (fun k hk => ?_), h.ir.mods hm (by simp; omega) (by simp; omega), h.m.setCell (.inr (by show w.heap.size ≤ Bb; omega)) _, h1, h2, h3, h4⟩
  · rw [heap_setCell_same h.b]; rfl
  · obtain rfl := List.mem_singleton.1 hk
    exact fun e => by have := (h.own.lt _ e).1; omega

/-- What holds between two reads of a message in block X. -/
structure MDec (w wx : World) (Rb Bb R B X : Nat) (nx : Int) (v : Value) (l : List MsgB) (st : RS) (m : MsgB) : Prop where
  d : BDec w wx Rb Bb R B nx v l st
  x : wx.heap[X]? = some (.cells m.cells.toArray 57 (0, 0))
  gx : v.ownBlock ≠ some X
  lx : Bb < X
theorem MDec.read {w wx wy : World} {Rb Bb R B X : Nat} {nx : Int} {v : Value} {l : List MsgB} {st st' : RS} {m : MsgB} (h : MDec w wx Rb Bb R B X nx v l st m) (hr : IsReader wy R B st') (hm : Mods [R] wx wy) : MDec w wy Rb Bb R B X nx v l st' m :=
  ⟨h.d.read hr hm, hm.heap h.x (by have := h.lx; have := h.d.o4; simp; omega), h.gx, h.lx⟩
theorem MDec.set {w wx : World} {Rb Bb R B X : Nat} {nx : Int} {v : Value} {l : List MsgB} {st : RS} {m : MsgB} (h : MDec w wx Rb Bb R B X nx v l st m) (i : Nat) (u : Value) (m' : MsgB) (e : m.cells.toArray.setIfInBounds i u = m'.cells.toArray) : MDec w (wx.setCell ⟨X, i, none⟩ u) Rb Bb R B X nx v l st m' := by
  have h1 := h.d.o1
  have h2 := h.d.o2
  have h3 := h.d.o3
  have h4 := h.d.o4
  have h5 := h.lx
  have hm : Mods [X] wx (wx.setCell ⟨X, i, none⟩ u) := (Mods.refl _ _).setCell (.inl (by simp)) _
  refine ⟨h.d.mods (h.d.ir.mods hm (by simp; omega) (by simp; omega)) [X] hm (fun k hk => ?_), ?_, h.gx, h.lx⟩
  · obtain rfl := List.mem_singleton.1 hk
    exact ⟨by omega, by omega, by omega, h.gx⟩
  · rw [heap_setCell_same h.x, e]
theorem MDec.cells {w wx : World} {Rb Bb R B X : Nat} {nx : Int} {v : Value} {l : List MsgB} {st : RS} {m : MsgB} (h : MDec w wx Rb Bb R B X nx v l st m) :
    (wx.cell? ⟨X, 0, none⟩ = some (.int .i64 m.number) ∧ wx.cell? ⟨X, 1, none⟩ = some (.string m.sender) ∧ wx.cell? ⟨X, 2, none⟩ = some (.int .i64 m.second) ∧ wx.cell? ⟨X, 3, none⟩ = some (.string m.text) ∧ wx.cell? ⟨X, 4, none⟩ = some (.bool m.seen)) ∧ ∀ i, wx.frozen? ⟨X, i, none⟩ = false :=
  ⟨⟨cell_of_heap h.x 0, cell_of_heap h.x 1, cell_of_heap h.x 2, cell_of_heap h.x 3, cell_of_heap h.x 4⟩, fun i => frozen_of_heap h.x i⟩
/-- The message is appended. -/
theorem MDec.add {w wx wy : World} {Rb Bb R B X : Nat} {nx : Int} {v v' : Value} {l : List MsgB} {st : RS} {m : MsgB} (h : MDec w wx Rb Bb R B X nx v l st m) {o : Obj}
    (hown : wy.ownsRow (Bb + 1) 57 5 v' (l.length + 1) (l.flatMap MsgB.cells ++ m.cells)) (hg : (wx.alloc o).grownBy wy v.ownBlock) : BDec w (wy.setCell ⟨Bb, 1, none⟩ v') Rb Bb R B nx v' (l ++ [m]) st := by
  have h1 := h.d.o1
  have h2 := h.d.o2
  have h3 := h.d.o3
  have h4 := h.d.o4
  have hlow : ∀ k, v.ownBlock = some k → Bb + 1 ≤ k := fun k hk => (h.d.own.lt k hk).1
  have hmy : Mods v.ownBlock.toList wx wy := ((Mods.refl _ wx).alloc o).grown hg (fun k hk => .inl (by rw [hk]; simp))
  have hno : ∀ k, k < Bb + 1 → k ∉ v.ownBlock.toList := fun k hk hc => by
    have : v.ownBlock = some k := by simpa [eq_comm] using hc
    have := hlow k this
    omega
  obtain ⟨z, hz, hzs⟩ := h.d.rb
  have hby := hmy.heap h.d.b (hno _ (by omega))
  have hm2 : Mods [Bb] wy (wy.setCell ⟨Bb, 1, none⟩ v') := (Mods.refl _ _).setCell (.inl (by simp)) _
  refine ⟨⟨z, hm2.heap (hmy.heap hz (hno _ (by omega))) (by simp; omega), hzs⟩, ?_, ?_, (h.d.ir.mods hmy (hno _ (by omega)) (hno _ (by omega))).mods hm2 (by simp; omega) (by simp; omega), ?_, h1, h2, h3, h4⟩
  · rw [heap_setCell_same hby]; rfl
  · have hown' : MsgsOwn wy (Bb + 1) v' (l ++ [m]) := by
      unfold MsgsOwn
      rw [List.length_append, List.flatMap_append]
      simpa using hown
    exact hown'.mods hm2 (fun k hk => by
      obtain rfl := List.mem_singleton.1 hk
      exact fun e => by have := (hown'.lt _ e).1; omega)
  · exact (h.d.m.trans hmy (fun i hi => .inr (by
      have : v.ownBlock = some i := by simpa [eq_comm] using hi
      have := hlow i this
      omega))).setCell (.inr (by show w.heap.size ≤ Bb; omega)) _

theorem box_one (n : Int) (a : Option Addr) (l c : Nat) : (#[.int .i64 n, .slice a l c] : Array Value).all (·.oneCell') = true :=
  all_oneCell_toArray (cs := [.int .i64 n, .slice a l c]) (by intro v hv; simp at hv; rcases hv with rfl | rfl <;> rfl)
/-- What Decode answers. -/
def DecPost (w : World) (x : Option BoxV) (e : Ending) (w' : World) : Prop :=
  match x with
  | none => e = .returned (.tuple #[.agg #[.int .i64 0, .slice none 0 0], .int .i64 3]) ∧ Mods [] w w'
  | some b => ∃ v, e = .returned (.tuple #[.agg #[.int .i64 b.next, v], .int .i64 0]) ∧ MsgsOwn w' w.heap.size v (b.msgs.map MsgV.b) ∧ Mods [] w w'

set_option maxRecDepth 100000 in
set_option maxHeartbeats 4000000 in
theorem boxDecode_any {w : World} (s : ByteArray) (hs : s.size ≤ 1000000) (ml : Int) (hm : w.cell? ⟨1, 0, none⟩ = some (.int .i64 ml)) :
    Calls Tryz.prog 25 #[.string s] w (DecPost w (decBox 1048575 49 s.data.toList)) := by
  have kc := fun W => run_bytes W s
  have HD : Hid (decBox 1048575 49 s.data.toList = if rclose (rdBox 1048575 49 s.data.toList).2 = 0 ∧ boxE (rdBox 1048575 49 s.data.toList).1 = 0 then some (rdBox 1048575 49 s.data.toList).1 else none) := rfl
  have HB : Hid (rdBox 1048575 49 s.data.toList = (⟨(rstep 0 (pNum 1048576) ⟨s.data.toList, 0⟩).1, (rdMsgs 1048575 49 (rstep 0 (pNum 32) (rstep 0 (pNum 1048576) ⟨s.data.toList, 0⟩).2).1 (rstep 0 (pNum 32) (rstep 0 (pNum 1048576) ⟨s.data.toList, 0⟩).2).2).1⟩, (rdMsgs 1048575 49 (rstep 0 (pNum 32) (rstep 0 (pNum 1048576) ⟨s.data.toList, 0⟩).2).1 (rstep 0 (pNum 32) (rstep 0 (pNum 1048576) ⟨s.data.toList, 0⟩).2).2).2)) := rfl
  have Hs := slen s
  generalize decBox 1048575 49 s.data.toList = res at *
  generalize rdBox 1048575 49 s.data.toList = rd at *
  have HM := Lib.hid hm
  clear hm
  go_enter Tryz.func25, Tryz.ntmps25
  go_wp2_with fail
  obtain ⟨W0, hW0⟩ : ∃ W0, w.alloc (.cells #[.int .i64 0, .slice none 0 0] 34) = W0 := ⟨_, rfl⟩
  have hm0 : Mods [] w W0 := by rw [← hW0]; exact (Mods.refl _ _).alloc _
  have hz0 : ∃ z, W0.heap[w.heap.size]? = some (.cells z 34 (0, 0)) ∧ z.size = 2 := by rw [← hW0]; exact ⟨_, heap_alloc_new w _, rfl⟩
  have hs0 : W0.heap.size = w.heap.size + 1 := by rw [← hW0]; simp
  rw [hW0]
  have hb1 := bwOf_bytes W0 s
  have hmb := bwOf_mods W0 s
  have hzz := bwOf_size W0 s
  refine (newReader_any hb1 (by omega)).mono ?_
  rintro e w1 ⟨R, B, rfl, hr, hg, hgR, hR, hm⟩
  have hM1 : Mods [] w w1 := (hm0.trans' hmb).trans' hm
  have hz1 : ∃ z, w1.heap[w.heap.size]? = some (.cells z 34 (0, 0)) ∧ z.size = 2 := by
    obtain ⟨z, h1, h2⟩ := hz0
    exact ⟨z, hm.heap (hmb.heap h1 (by simp)) (by simp), h2⟩
  rw [hzz, hs0] at hg
  have Hr := Lib.hid hr
  have HM1 := Lib.hid hM1
  have Hz1 := Lib.hid hz1
  clear hb1 hmb hzz hr hm hM1 kc hm0 hz0 hs0 hz1 Hs hW0
  go_wp2_with fail
  have hsz1 : (w1.alloc (.cells #[.int .i64 0, .slice none 0 0] 34)).heap.size = w1.heap.size + 1 := by simp
  have I : BDec w (w1.alloc (.cells #[.int .i64 0, .slice none 0 0] 34)) w.heap.size w1.heap.size R B 0 (.slice none 0 0) [] ⟨s.data.toList, 0⟩ := by
    obtain ⟨z, h1, h2⟩ := Hz1.out
    exact ⟨⟨z, heap_alloc_old h1, h2⟩, heap_alloc_new w1 _, World.ownsRow_nil _ _ _ _, Hr.out.mods ((Mods.refl [] w1).alloc _) (by simp) (by simp), HM1.out.alloc _, Nat.le_refl _, by omega, hgR, hR⟩
  obtain ⟨Bb, hBb⟩ : ∃ Bb, w1.heap.size = Bb := ⟨_, rfl⟩
  rw [hBb] at I ⊢
  obtain ⟨W2, hW2⟩ : ∃ W2, w1.alloc (.cells #[.int .i64 0, .slice none 0 0] 34) = W2 := ⟨_, rfl⟩
  rw [hW2] at I ⊢
  clear hsz1 hBb hW2 hg hgR hR Hr
  refine (readerNumber_any 1048576 I.ir).mono ?_
  obtain ⟨nx, st0, hn0⟩ : ∃ nx st, rstep 0 (pNum 1048576) ⟨s.data.toList, 0⟩ = (nx, st) := ⟨_, _, rfl⟩
  rw [hn0]
  rw [hn0] at HB
  rintro e w3 ⟨rfl, hr3, hm3⟩
  replace I := I.read hr3 hm3
  clear hr3 hm3 hn0
  have f0 := frozen_of_heap I.b 0
  have q0 : w3.cell? ⟨Bb, 0, none⟩ = some (.int .i64 0) := cell_of_heap I.b 0
  replace I := I.setNext nx
  go_wp2_with fail
  refine (readerNumber_any 32 I.ir).mono ?_
  try simp only at HB
  obtain ⟨n, st1, hn1⟩ : ∃ nx st, rstep 0 (pNum 32) st0 = (nx, st) := ⟨_, _, rfl⟩
  rw [hn1]
  rw [hn1] at HB
  have hn32 : n ≤ 32 := by
    have := rnum_most 32 (by omega) st0
    rw [hn1] at this
    simp only at this
    omega
  rintro e w4 ⟨rfl, hr4, hm4⟩
  replace I := I.read hr4 hm4
  clear hr4 hm4 hn1 f0 q0
  have HI := Lib.hid I
  clear I
  go_wp2_with fail
  obtain ⟨i0, hi, hz0, hz1, hz2⟩ := info_parts infoMsg
  go_loopw [6, 15] (fun _ i wr => ∃ (k : Nat) (v : Value), i = .int .i64 k ∧ k ≤ n ∧ Hid (BDec w wr w.heap.size Bb R B nx v ((rdMsgs 1048575 49 k st1).1.map MsgV.b) (rdMsgs 1048575 49 k st1).2)) (fun _ i _ => n - (intOf i).toNat)
  case atStart => exact ⟨0, _, rfl, by omega, HI.out⟩
  case round =>
    clear HI
    obtain ⟨k, v, rfl, hk, hI⟩ := hrel
    by_cases hlt : k < n
    · have hrl := rdMsgs_length 1048575 49 k st1
      have hnx := rdMsgs_snoc 1048575 49 k st1
      obtain ⟨ls, sk, hls⟩ : ∃ ls sk, rdMsgs 1048575 49 k st1 = (ls, sk) := ⟨_, _, rfl⟩
      rw [hls] at hI hnx hrl
      try simp only at hI hnx hrl
      obtain ⟨a0, s1, h1⟩ : ∃ a s, rstep 0 (pNum 1048575) sk = (a, s) := ⟨_, _, rfl⟩
      obtain ⟨a1, s2, h2⟩ : ∃ a s, rstep [] (pText 49) s1 = (a, s) := ⟨_, _, rfl⟩
      obtain ⟨a2, s3, h3⟩ : ∃ a s, rstep 0 (pNum 1073741824) s2 = (a, s) := ⟨_, _, rfl⟩
      obtain ⟨a3, s4, h4⟩ : ∃ a s, rstep false pFlag s3 = (a, s) := ⟨_, _, rfl⟩
      obtain ⟨a4, s5, h5⟩ : ∃ a s, rstep [] (pText 1024) s4 = (a, s) := ⟨_, _, rfl⟩
      have hrm : rdMsg 1048575 49 sk = (⟨a0, a1, a2, a4, a3⟩, s5) := by
        unfold rdMsg
        simp only [h1, h2, h3, h4, h5]
      rw [hrm] at hnx
      have HNX := Lib.hid hnx
      have HRL := Lib.hid hrl
      have H1 := Lib.hid h1
      have H2 := Lib.hid h2
      have H3 := Lib.hid h3
      have H4 := Lib.hid h4
      have H5 := Lib.hid h5
      obtain ⟨va, vn, vc, rfl⟩ := owns_shape hI.out.own
      have hll : (ls.map MsgV.b).length = k := by rw [List.length_map]; exact hrl
      have HLL := Lib.hid hll
      have hkn : (k : Int) < (n : Int) := by omega
      clear hnx hrl h1 h2 h3 h4 h5 hrm hls hll
      go_wp2_with fail
      have J : MDec w (wr.alloc (.cells #[.int .i64 0, .string ⟨#[]⟩, .int .i64 0, .string ⟨#[]⟩, .bool false] 57)) w.heap.size Bb R B wr.heap.size nx (.slice va vn vc) (ls.map MsgV.b) sk ⟨0, ⟨#[]⟩, 0, ⟨#[]⟩, false⟩ :=
        ⟨hI.out.keep ((Mods.refl [] wr).alloc _), heap_alloc_new wr _, fun e => by have := (hI.out.own.lt _ e).2; omega, lt_of_heap hI.out.b⟩
      obtain ⟨X, hX⟩ : ∃ X, wr.heap.size = X := ⟨_, rfl⟩
      rw [hX] at J ⊢
      obtain ⟨W2, hW2⟩ : ∃ W2, wr.alloc (.cells #[.int .i64 0, .string ⟨#[]⟩, .int .i64 0, .string ⟨#[]⟩, .bool false] 57) = W2 := ⟨_, rfl⟩
      rw [hW2] at J ⊢
      clear hX hW2 hI
      refine (readerNumber_any 1048575 J.d.ir).mono ?_
      rw [H1.out]
      rintro e w5 ⟨rfl, hr5, hm5⟩
      replace J := J.read hr5 hm5
      obtain ⟨⟨d0, d1, d2, d3, d4⟩, hf⟩ := J.cells
      have f0 := hf 0
      replace J := J.set 0 (.int .i64 a0) ⟨a0, ⟨#[]⟩, 0, ⟨#[]⟩, false⟩ rfl
      clear hr5 hm5 hf
      go_wp2_with fail
      clear d0 d1 d2 d3 d4 f0
      refine (readerText_any 49 J.d.ir).mono ?_
      rw [H2.out]
      rintro e w6 ⟨rfl, hr5, hm5⟩
      replace J := J.read hr5 hm5
      obtain ⟨⟨d0, d1, d2, d3, d4⟩, hf⟩ := J.cells
      have f0 := hf 1
      replace J := J.set 1 (.string ⟨a1.toArray⟩) ⟨a0, ⟨a1.toArray⟩, 0, ⟨#[]⟩, false⟩ rfl
      clear hr5 hm5 hf
      go_wp2_with fail
      clear d0 d1 d2 d3 d4 f0
      refine (readerNumber_any 1073741824 J.d.ir).mono ?_
      rw [H3.out]
      rintro e w7 ⟨rfl, hr5, hm5⟩
      replace J := J.read hr5 hm5
      obtain ⟨⟨d0, d1, d2, d3, d4⟩, hf⟩ := J.cells
      have f0 := hf 2
      replace J := J.set 2 (.int .i64 a2) ⟨a0, ⟨a1.toArray⟩, a2, ⟨#[]⟩, false⟩ rfl
      clear hr5 hm5 hf
      go_wp2_with fail
      clear d0 d1 d2 d3 d4 f0
      refine (readerFlag_any J.d.ir).mono ?_
      rw [H4.out]
      rintro e w8 ⟨rfl, hr5, hm5⟩
      replace J := J.read hr5 hm5
      obtain ⟨⟨d0, d1, d2, d3, d4⟩, hf⟩ := J.cells
      have f0 := hf 4
      replace J := J.set 4 (.bool a3) ⟨a0, ⟨a1.toArray⟩, a2, ⟨#[]⟩, a3⟩ rfl
      clear hr5 hm5 hf
      go_wp2_with fail
      clear d0 d1 d2 d3 d4 f0
      refine (readerText_any 1024 J.d.ir).mono ?_
      rw [H5.out]
      rintro e w9 ⟨rfl, hr5, hm5⟩
      replace J := J.read hr5 hm5
      obtain ⟨⟨d0, d1, d2, d3, d4⟩, hf⟩ := J.cells
      have f0 := hf 3
      replace J := J.set 3 (.string ⟨a4.toArray⟩) ⟨a0, ⟨a1.toArray⟩, a2, ⟨a4.toArray⟩, a3⟩ rfl
      clear hr5 hm5 hf
      obtain ⟨W9, hW9⟩ : ∃ W9, w9.setCell ⟨X, 3, none⟩ (.string ⟨a4.toArray⟩) = W9 := ⟨_, rfl⟩
      rw [hW9] at J
      have k1 := cell_of_heap J.d.b 1
      simp only [List.getElem?_toArray, List.getElem?_cons_zero, List.getElem?_cons_succ] at k1
      have kf := frozen_of_heap J.d.b 1
      have Bl : Bb < W9.heap.size := lt_of_heap J.d.b
      obtain ⟨⟨e0, e1, e2, e3, e4⟩, _⟩ := J.cells
      try simp only at e0 e1 e2 e3 e4
      have hne : some Bb ≠ (Value.slice va vn vc).ownBlock := fun e => by have := (J.d.own.lt Bb e.symm).1; omega
      have HJ := Lib.hid J
      clear J
      clear d0 d1 d2 d4
      go_wp2_with (at_builtin; refine wpList_append_own _ rfl _ _ 31 rfl (Bb + 1) 57 i0 _ 5 56 Tryz.underlying31 hi hz0 hz1 hz2 rfl (by decide) _ _ _ rfl (World.ownsRow.alloc HJ.out.d.own _) ⟨W9.heap.size, 0, none⟩ 1 1 [_, _, _, _, _] rfl rfl (World.news_of_block (heap_alloc_new W9 (.cells #[_, _, _, _, _] _))) ?c1 ?c2 ?c3 ?c4 ?_)
      case c1 => intro u hu; simp at hu; rcases hu with rfl | rfl | rfl | rfl | rfl <;> rfl
      case c2 => rw [HLL.out]; unfold maxLen; omega
      case c3 => rw [HLL.out]; omega
      case c4 => simp; omega
      intro v' w10 hown hgr _
      have kc : w10.cell? ⟨Bb, 1, none⟩ = some (.slice va vn vc) := (hgr.cell_far ⟨Bb, 1, none⟩ (by simp; omega) hne).trans (Lib.cell?_alloc_some _ k1)
      have kfr : w10.frozen? ⟨Bb, 1, none⟩ = false := (hgr.frozen_far ⟨Bb, 1, none⟩ (by simp; omega) hne).trans ((((Mods.refl [] W9).alloc _).frozen (p := ⟨Bb, 1, none⟩) Bl (by simp)).trans kf)
      have HA := Lib.hid (HJ.out.add (by rw [List.length_map]; exact hown) hgr)
      obtain ⟨va', vn', vc', rfl⟩ := owns_shape hown
      clear hown hgr e0 e1 e2 e3 e4 k1 kf HJ d3 f0 hW9
      go_wp2
      go_round
      case rel =>
        refine ⟨k + 1, .slice va' vn' vc', by go_num, by omega, ?_⟩
        show BDec _ _ _ _ _ _ _ _ _ _
        rw [HNX.out, List.map_append]
        exact HA.out
      case measure => simp [intOf] <;> omega
    · obtain rfl : k = n := by omega
      have hkn : ¬ (k : Int) < (k : Int) := by omega
      rw [HB.out] at HD
      have hsnd := rdMsgs_sender 1048575 49 (by omega) k st1
      have hrl := rdMsgs_length 1048575 49 k st1
      obtain ⟨ls, sk, hls⟩ : ∃ ls sk, rdMsgs 1048575 49 k st1 = (ls, sk) := ⟨_, _, rfl⟩
      rw [hls] at hI HD hsnd hrl
      try simp only at hI HD hsnd hrl
      have hll : (ls.map MsgV.b).length = k := by rw [List.length_map]; exact hrl
      have hcl := readerClose_any hI.out.ir
      have hck := fun W (h : Mods [] wr W) => boxCheck_any nx (w := W) ((hI.out.keep h).own.at (by omega)) (fun m hm => by
        obtain ⟨x, hx, rfl⟩ := List.mem_map.1 hm
        have := hsnd x hx
        show x.sender.toArray.size ≤ _
        rw [List.size_toArray]; omega) ml ((hI.out.m.trans' h).keep HM.out)
      rw [map_b_v] at hck
      obtain ⟨va, vn, vc, rfl⟩ := owns_shape hI.out.own
      have hck' := hck wr (Mods.refl _ _)
      obtain ⟨x, hx⟩ : ∃ x, rclose sk = x := ⟨_, rfl⟩
      obtain ⟨y, hy⟩ : ∃ y, boxE ⟨nx, ls⟩ = y := ⟨_, rfl⟩
      rw [hx] at hcl HD
      rw [hy] at hck' HD
      have g0 := cell_of_heap hI.out.b 0
      have g1 := cell_of_heap hI.out.b 1
      simp only [List.getElem?_toArray, List.getElem?_cons_zero, List.getElem?_cons_succ] at g0 g1
      have HCK := Lib.hid hck'
      clear hck hck' hx hy hsnd hrl hls hll hlt
      have hsz : Hid ((Tryz.prog.info? 34).map (·.size) = some 2) := by show _ = _; kernel_rfl
      by_cases hx0 : x = 0
      · subst hx0
        by_cases hy0 : y = 0
        · subst hy0
          rw [if_pos ⟨rfl, rfl⟩] at HD
          go_wp2_with (first
            | (go_at_call 60; refine hcl.mono ?_; rintro e w5 ⟨rfl, rfl⟩)
            | (go_at_call 23; refine HCK.out.mono ?_; rintro e w6 ⟨rfl, hm6⟩; have HJ := Lib.hid (hI.out.keep hm6); have k0 := hm6.keep g0; have k1 := hm6.keep g1; clear hm6; obtain ⟨z, hz, hzs⟩ := HJ.out.rb; have HZ := Lib.hid hz; have HZS := Lib.hid hzs; clear hz hzs)
            | (refine wpList_store_row rfl 34 _ _ rfl w.heap.size #[.int .i64 nx, .slice va vn vc] rfl rfl _ _ HZ.out hsz.out HZS.out (box_one _ _ _ _) ?_))
          refine bodyPost_ret (results_cell_tmp Tryz.results25 _ _ w.heap.size _ #[.int .i64 nx, .slice va vn vc] _ _ rfl (setRow_heap _ _ _ _ _ _ HZ.out) Tryz.underlying34 rfl hsz.out) rfl ?_
          rw [HD.out]
          refine ⟨_, rfl, ?_, mods_setRow HJ.out.m (.inr (Nat.le_refl _))⟩
          have h2 := HJ.out.o2
          have h3 := HJ.out.o3
          have h4 := HJ.out.o4
          exact World.ownsRow.mono (HJ.out.own.mods (S := [w.heap.size]) (mods_setRow (Mods.refl _ _) (.inl (by simp))) (fun q hq => by
            obtain rfl := List.mem_singleton.1 hq
            exact fun e => by have := (HJ.out.own.lt _ e).1; omega)) (by omega)
        · rw [if_neg (fun h => hy0 h.2)] at HD
          have hy1 : (y != 0) = true := by simpa using hy0
          go_wp2_with (first
            | (go_at_call 60; refine hcl.mono ?_; rintro e w5 ⟨rfl, rfl⟩)
            | (go_at_call 23; refine HCK.out.mono ?_; rintro e w6 ⟨rfl, hm6⟩; have HJ := Lib.hid (hI.out.keep hm6); clear hm6; obtain ⟨z, hz, hzs⟩ := HJ.out.rb; have HZ := Lib.hid hz; have HZS := Lib.hid hzs; clear hz hzs)
            | (refine wpList_store_row rfl 34 _ _ rfl w.heap.size #[.int .i64 0, .slice none 0 0] rfl rfl _ _ HZ.out hsz.out HZS.out (box_one _ _ _ _) ?_))
          refine bodyPost_ret (results_cell_tmp Tryz.results25 _ _ w.heap.size _ #[.int .i64 0, .slice none 0 0] _ _ rfl (setRow_heap _ _ _ _ _ _ HZ.out) Tryz.underlying34 rfl hsz.out) rfl ?_
          rw [HD.out]
          exact ⟨rfl, mods_setRow HJ.out.m (.inr (Nat.le_refl _))⟩
      · rw [if_neg (fun h => hx0 h.1)] at HD
        have hx1 : (x != 0) = true := by simpa using hx0
        have HJ := hI
        obtain ⟨z, hz, hzs⟩ := HJ.out.rb
        have HZ := Lib.hid hz
        have HZS := Lib.hid hzs
        clear hz hzs
        go_wp2_with (first
          | (go_at_call 60; refine hcl.mono ?_; rintro e w5 ⟨rfl, rfl⟩)
          | (refine wpList_store_row rfl 34 _ _ rfl w.heap.size #[.int .i64 0, .slice none 0 0] rfl rfl _ _ HZ.out hsz.out HZS.out (box_one _ _ _ _) ?_))
        refine bodyPost_ret (results_cell_tmp Tryz.results25 _ _ w.heap.size _ #[.int .i64 0, .slice none 0 0] _ _ rfl (setRow_heap _ _ _ _ _ _ HZ.out) Tryz.underlying34 rfl hsz.out) rfl ?_
        rw [HD.out]
        exact ⟨rfl, mods_setRow HJ.out.m (.inr (Nat.le_refl _))⟩
end Go.Proofs.YtlaihnbappfbfaaGreatDoor
