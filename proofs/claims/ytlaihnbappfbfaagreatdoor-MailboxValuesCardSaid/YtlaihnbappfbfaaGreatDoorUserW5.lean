/- Walks: Decode of the encoding of an account without groups. -/
import Derived.Test.YtlaihnbappfbfaaGreatDoorUserW4
namespace Go.Proofs.YtlaihnbappfbfaaGreatDoor
open Go.RowKit

/-- What holds between two reads. -/
structure ADec (w wx : World) (Rb Ab R B : Nat) (arr : List Value) (st : RS) : Prop where
  a : wx.heap[Ab]? = some (.cells arr.toArray 116 (0, 0))
  rb : ∃ z, wx.heap[Rb]? = some (.cells z 116 (0, 0)) ∧ z.size = 45
  ir : IsReader wx R B st
  m : Mods [] w wx
  n1 : Ab ≠ R
  n2 : Ab ≠ B
  n3 : Rb ≠ R
  n4 : Rb ≠ Ab
  l1 : w.heap.size ≤ Ab
  l2 : w.heap.size ≤ R
  l3 : w.heap.size ≤ Rb
theorem ADec.read {w wx wy : World} {Rb Ab R B : Nat} {arr : List Value} {st st' : RS} (h : ADec w wx Rb Ab R B arr st) (hr : IsReader wy R B st') (hm : Mods [R] wx wy) : ADec w wy Rb Ab R B arr st' := by
  obtain ⟨z, hz, hzs⟩ := h.rb
  exact ⟨hm.heap h.a (by simpa using h.n1), ⟨z, hm.heap hz (by simpa using h.n3), hzs⟩, hr, h.m.trans hm (fun i hi => by simp at hi; subst hi; exact .inr h.l2), h.n1, h.n2, h.n3, h.n4, h.l1, h.l2, h.l3⟩
theorem ADec.set {w wx : World} {Rb Ab R B : Nat} {arr : List Value} {st : RS} (h : ADec w wx Rb Ab R B arr st) (i : Nat) (v : Value) : ADec w (wx.setCell ⟨Ab, i, none⟩ v) Rb Ab R B (arr.set i v) st := by
  obtain ⟨z, hz, hzs⟩ := h.rb
  have hm : Mods [Ab] wx (wx.setCell ⟨Ab, i, none⟩ v) := (Mods.refl _ _).setCell (.inl (by simp)) _
  refine ⟨?_, ⟨z, (heap_setCell_ne h.n4 _).trans hz, hzs⟩, h.ir.mods hm (by simpa using h.n1.symm) (by simpa using h.n2.symm), h.m.setCell (.inr h.l1) _, h.n1, h.n2, h.n3, h.n4, h.l1, h.l2, h.l3⟩
  have := heap_setCell_same h.a (off := i) v
  simpa using this
theorem ADec.spl {w wx : World} {Rb Ab R B : Nat} {arr : List Value} {st : RS} (h : ADec w wx Rb Ab R B arr st) (c : List Value) : ADec w (wx.setRow Ab c.toArray) Rb Ab R B c st := by
  obtain ⟨z, hz, hzs⟩ := h.rb
  have hm : Mods [Ab] wx (wx.setRow Ab c.toArray) := mods_setRow (Mods.refl _ _) (.inl (by simp))
  exact ⟨setRow_heap _ _ _ _ _ _ h.a, ⟨z, (setRow_other _ _ _ _ h.n4).trans hz, hzs⟩, h.ir.mods hm (by simpa using h.n1.symm) (by simpa using h.n2.symm), mods_setRow h.m (.inr h.l1), h.n1, h.n2, h.n3, h.n4, h.l1, h.l2, h.l3⟩

theorem ADec.mods {w wx wy : World} {Rb Ab R B : Nat} {arr : List Value} {st : RS} (h : ADec w wx Rb Ab R B arr st) (hm : Mods [] wx wy) : ADec w wy Rb Ab R B arr st :=
  h.read (h.ir.mods hm (by simp) (by simp)) (hm.weaken (by simp))
theorem accCells_put (name home : ByteArray) (number : Int) (g : Value) (salt digest : List UInt8) (lk : Bool) (hs : salt.length = 8) (_hd : digest.length = 32) (A0 A1 A2 A3 : List Value)
    (h0 : accCells name 0 g ⟨#[]⟩ (List.replicate 8 0) (List.replicate 32 0) false = A0) (h1 : ((A0.set 1 (.int .i64 number)).set 3 (.string home)).set 44 (.bool lk) = A1)
    (h2 : A1.take 4 ++ bcells salt ++ A1.drop 12 = A2) (h3 : A2.take 12 ++ bcells digest ++ A2.drop 44 = A3) : A3 = accCells name number g home salt digest lk := by
  have e1 : A1 = accCells name number g home (List.replicate 8 0) (List.replicate 32 0) lk := by rw [← h1, ← h0]; rfl
  have e2 : A2 = [.string name, .int .i64 number, g, .string home] ++ bcells salt ++ (bcells (List.replicate 32 0) ++ [.bool lk]) := by rw [← h2, e1]; rfl
  have l12 : (([.string name, .int .i64 number, g, .string home] : List Value) ++ bcells salt).length = 12 := by simp [bcells, hs]
  have l32 : (bcells (List.replicate 32 (0 : UInt8))).length = 32 := by rw [bcells_length]; rfl
  rw [← h3, e2]
  rw [List.take_left' l12]
  have e4 : (([.string name, .int .i64 number, g, .string home] : List Value) ++ bcells salt ++ (bcells (List.replicate 32 0) ++ [Value.bool lk])).drop 44 = [Value.bool lk] := by
    rw [← List.append_assoc, List.drop_left' (by rw [List.length_append, l12, l32])]
  rw [e4]
  simp [accCells]
theorem accCells_one (name : ByteArray) (number : Int) (p : Option Addr) (n c : Nat) (home : ByteArray) (salt digest : List UInt8) (lk : Bool) : (accCells name number (.slice p n c) home salt digest lk).toArray.all (·.oneCell') = true :=
  all_oneCell_toArray (fun v hv => by
    simp only [accCells, List.mem_append, List.mem_cons, List.not_mem_nil, or_false] at hv
    rcases hv with (rfl | rfl | rfl | rfl) | h | h | rfl
    · rfl
    · rfl
    · rfl
    · rfl
    · exact bcells_one _ _ h
    · exact bcells_one _ _ h
    · rfl)

theorem results_cell_tmp {P : Program} {fn : Func} {p q : Tmp} {ty : TypeId} (h : fn.results = #[.cell p ty, .tmp q]) (tmps : Array Value) (w : World) (g : Nat) (t : TypeId) (cs : Array Value) (fr : Nat × Nat) (d : TypeDesc)
    (hp : tmps.getD p undef = .pointer (some ⟨g, 0, none⟩)) (hg : w.heap[g]? = some (.cells cs t fr))
    (hu : P.underlying ty = some d) (hd : (match d with | .struct _ | .array _ _ => true | _ => false) = true) (hi : (P.info? ty).map (·.size) = some cs.size) :
    (results fn tmps).run P w = .ok (.tuple #[.agg cs, tmps.getD q undef]) w := by
  have hp' : tmps[p]?.getD undef = .pointer (some ⟨g, 0, none⟩) := by simpa using hp
  simp [results, h, hp', asAddr, run_loadVar_row w g t ty cs fr d hg hu hd hi]

set_option maxRecDepth 100000 in
set_option maxHeartbeats 4000000 in
theorem accDecode_ok {w : World} (s name home : ByteArray) (number : Nat) (salt digest : List UInt8) (lk : Bool) (hn : name.size ≤ 16) (hh : home.size ≤ 256) (hs : salt.length = 8) (hd : digest.length = 32)
    (hok : accE name.data.toList number [] home.data.toList = 0) (hnum : number ≤ 65535) (hes : s.data.toList = encAcc name.data.toList number [] home.data.toList salt digest lk) :
    Calls Tryz.prog 103 #[.string s] w fun e w' => e = .returned (.tuple #[accVal name number (.slice none 0 0) home salt digest lk, .int .i64 0]) ∧ Mods [] w w' := by
  obtain ⟨r6, hr6⟩ : ∃ r, encFlag lk ++ [] = r := ⟨_, rfl⟩
  obtain ⟨r5, hr5⟩ : ∃ r, encText digest ++ r6 = r := ⟨_, rfl⟩
  obtain ⟨r4, hr4⟩ : ∃ r, encText salt ++ r5 = r := ⟨_, rfl⟩
  obtain ⟨r3, hr3⟩ : ∃ r, encText home.data.toList ++ r4 = r := ⟨_, rfl⟩
  obtain ⟨r2, hr2⟩ : ∃ r, encNat 0 ++ r3 = r := ⟨_, rfl⟩
  obtain ⟨r1, hr1⟩ : ∃ r, encNat number ++ r2 = r := ⟨_, rfl⟩
  have hln := slen name
  have hlh := slen home
  have e0 : s.data.toList = encText name.data.toList ++ r1 := by
    rw [hes, ← hr1, ← hr2, ← hr3, ← hr4, ← hr5, ← hr6]; simp [encAcc]
  have t0 := text_fwd name.data.toList 16 r1 (by omega) (by omega)
  have t1 := num_fwd number 65535 r2 (by omega) (by omega)
  have t2 := num_fwd 0 8 r3 (by omega) (by omega)
  have t3 := text_fwd home.data.toList 256 r4 (by omega) (by omega)
  have t4 := text_fwd salt 8 r5 (by omega) (by omega)
  have t5 := text_fwd digest 32 r6 (by omega) (by omega)
  have t6 := flag_fwd lk []
  rw [← e0] at t0
  rw [hr1] at t1
  rw [hr2] at t2
  rw [hr3] at t3
  rw [hr4] at t4
  rw [hr5] at t5
  rw [hr6] at t6
  have hb := bwOf_bytes w s
  have hss : s.size ≤ 100000 := by
    rw [← slen s, hes]
    have h1 := encNat_length_u64 number (by omega)
    have h2 := encNat_length_u64 name.data.toList.length (by omega)
    have h3 := encNat_length_u64 home.data.toList.length (by omega)
    have h4 := encNat_length_u64 salt.length (by omega)
    have h5 := encNat_length_u64 digest.length (by omega)
    have h6 := encNat_length_u64 0 (by omega)
    simp only [encAcc, encText, encFlag, List.length_append, List.flatMap_nil, List.length_nil, List.length_singleton]; omega
  clear hr1 hr2 hr3 hr4 hr5 hr6 e0 hes
  have T0 := Lib.hid t0
  have T1 := Lib.hid t1
  have T2 := Lib.hid t2
  have T3 := Lib.hid t3
  have T4 := Lib.hid t4
  have T5 := Lib.hid t5
  have T6 := Lib.hid t6
  clear t0 t1 t2 t3 t4 t5 t6
  have kc := fun W => run_bytes W s
  have hNm : (⟨name.data.toList.toArray⟩ : ByteArray) = name := rfl
  go_enter Tryz.func103, Tryz.ntmps103
  go_wp2_with fail
  obtain ⟨W0, hW0⟩ : ∃ W0, w.alloc (.cells #[.string ⟨#[]⟩, .int .i64 0, .slice none 0 0, .string ⟨#[]⟩, .int .u8 0, .int .u8 0, .int .u8 0, .int .u8 0, .int .u8 0, .int .u8 0, .int .u8 0, .int .u8 0, .int .u8 0, .int .u8 0, .int .u8 0, .int .u8 0, .int .u8 0, .int .u8 0, .int .u8 0, .int .u8 0, .int .u8 0, .int .u8 0, .int .u8 0, .int .u8 0, .int .u8 0, .int .u8 0, .int .u8 0, .int .u8 0, .int .u8 0, .int .u8 0, .int .u8 0, .int .u8 0, .int .u8 0, .int .u8 0, .int .u8 0, .int .u8 0, .int .u8 0, .int .u8 0, .int .u8 0, .int .u8 0, .int .u8 0, .int .u8 0, .int .u8 0, .int .u8 0, .bool false] 116) = W0 := ⟨_, rfl⟩
  have hm0 : Mods [] w W0 := by rw [← hW0]; exact (Mods.refl _ _).alloc _
  have hz0 : ∃ z, W0.heap[w.heap.size]? = some (.cells z 116 (0, 0)) ∧ z.size = 45 := by rw [← hW0]; exact ⟨_, heap_alloc_new w _, rfl⟩
  have hs0 : W0.heap.size = w.heap.size + 1 := by rw [← hW0]; simp
  rw [hW0]
  have hb1 := bwOf_bytes W0 s
  have hmb := bwOf_mods W0 s
  have hzz := bwOf_size W0 s
  refine (newReader_any hb1 (by rw [slen]; omega)).mono ?_
  rintro e w1 ⟨R, B, rfl, hr, hg, hgR, hR, hm⟩
  have hM1 : Mods [] w w1 := (hm0.trans' hmb).trans' hm
  have hz1 : ∃ z, w1.heap[w.heap.size]? = some (.cells z 116 (0, 0)) ∧ z.size = 45 := by
    obtain ⟨z, h1, h2⟩ := hz0
    exact ⟨z, hm.heap (hmb.heap h1 (by simp)) (by simp), h2⟩
  rw [hzz, hs0] at hg
  have Hr := Lib.hid hr
  have HM1 := Lib.hid hM1
  have Hz1 := Lib.hid hz1
  clear hb1 hmb hzz hr hm hM1 kc hm0 hz0 hs0 hz1
  go_wp2_with fail
  refine (readerText_any 16 Hr.out).mono ?_
  rw [T0.out]
  rintro e w2 ⟨rfl, hr2, hm2⟩
  have hsz2 := hm2.size
  have I0 : ADec w (w2.alloc (.cells #[.string ⟨#[]⟩, .int .i64 0, .slice none 0 0, .string ⟨#[]⟩, .int .u8 0, .int .u8 0, .int .u8 0, .int .u8 0, .int .u8 0, .int .u8 0, .int .u8 0, .int .u8 0, .int .u8 0, .int .u8 0, .int .u8 0, .int .u8 0, .int .u8 0, .int .u8 0, .int .u8 0, .int .u8 0, .int .u8 0, .int .u8 0, .int .u8 0, .int .u8 0, .int .u8 0, .int .u8 0, .int .u8 0, .int .u8 0, .int .u8 0, .int .u8 0, .int .u8 0, .int .u8 0, .int .u8 0, .int .u8 0, .int .u8 0, .int .u8 0, .int .u8 0, .int .u8 0, .int .u8 0, .int .u8 0, .int .u8 0, .int .u8 0, .int .u8 0, .int .u8 0, .bool false] 116)) w.heap.size w2.heap.size R B (#[.string ⟨#[]⟩, .int .i64 0, .slice none 0 0, .string ⟨#[]⟩, .int .u8 0, .int .u8 0, .int .u8 0, .int .u8 0, .int .u8 0, .int .u8 0, .int .u8 0, .int .u8 0, .int .u8 0, .int .u8 0, .int .u8 0, .int .u8 0, .int .u8 0, .int .u8 0, .int .u8 0, .int .u8 0, .int .u8 0, .int .u8 0, .int .u8 0, .int .u8 0, .int .u8 0, .int .u8 0, .int .u8 0, .int .u8 0, .int .u8 0, .int .u8 0, .int .u8 0, .int .u8 0, .int .u8 0, .int .u8 0, .int .u8 0, .int .u8 0, .int .u8 0, .int .u8 0, .int .u8 0, .int .u8 0, .int .u8 0, .int .u8 0, .int .u8 0, .int .u8 0, .bool false] : Array Value).toList ⟨r1, 0⟩ := by
    obtain ⟨z, h1, h2⟩ := Hz1.out
    exact ⟨heap_alloc_new w2 _, ⟨z, heap_alloc_old (hm2.heap h1 (by simp; omega)), h2⟩, hr2.mods ((Mods.refl [] w2).alloc _) (by simp) (by simp), (HM1.out.trans hm2 (fun i hi => by simp at hi; right; omega)).alloc _, by omega, by omega, by omega, by omega, by omega, by omega, Nat.le_refl _⟩
  have I := I0.spl (#[.string name, .int .i64 0, .slice none 0 0, .string ⟨#[]⟩, .int .u8 0, .int .u8 0, .int .u8 0, .int .u8 0, .int .u8 0, .int .u8 0, .int .u8 0, .int .u8 0, .int .u8 0, .int .u8 0, .int .u8 0, .int .u8 0, .int .u8 0, .int .u8 0, .int .u8 0, .int .u8 0, .int .u8 0, .int .u8 0, .int .u8 0, .int .u8 0, .int .u8 0, .int .u8 0, .int .u8 0, .int .u8 0, .int .u8 0, .int .u8 0, .int .u8 0, .int .u8 0, .int .u8 0, .int .u8 0, .int .u8 0, .int .u8 0, .int .u8 0, .int .u8 0, .int .u8 0, .int .u8 0, .int .u8 0, .int .u8 0, .int .u8 0, .int .u8 0, .bool false] : Array Value).toList
  have HI := Lib.hid I
  clear I I0 hr2 hm2
  have hone : Hid ((#[.string name, .int .i64 0, .slice none 0 0, .string ⟨#[]⟩, .int .u8 0, .int .u8 0, .int .u8 0, .int .u8 0, .int .u8 0, .int .u8 0, .int .u8 0, .int .u8 0, .int .u8 0, .int .u8 0, .int .u8 0, .int .u8 0, .int .u8 0, .int .u8 0, .int .u8 0, .int .u8 0, .int .u8 0, .int .u8 0, .int .u8 0, .int .u8 0, .int .u8 0, .int .u8 0, .int .u8 0, .int .u8 0, .int .u8 0, .int .u8 0, .int .u8 0, .int .u8 0, .int .u8 0, .int .u8 0, .int .u8 0, .int .u8 0, .int .u8 0, .int .u8 0, .int .u8 0, .int .u8 0, .int .u8 0, .int .u8 0, .int .u8 0, .int .u8 0, .bool false] : Array Value).all (·.oneCell') = true) := accCells_one name 0 none 0 0 ⟨#[]⟩ (List.replicate 8 0) (List.replicate 32 0) false
  go_wp2_with (first
    | (refine wpList_store_row rfl 116 _ _ rfl w2.heap.size #[.string name, .int .i64 0, .slice none 0 0, .string ⟨#[]⟩, .int .u8 0, .int .u8 0, .int .u8 0, .int .u8 0, .int .u8 0, .int .u8 0, .int .u8 0, .int .u8 0, .int .u8 0, .int .u8 0, .int .u8 0, .int .u8 0, .int .u8 0, .int .u8 0, .int .u8 0, .int .u8 0, .int .u8 0, .int .u8 0, .int .u8 0, .int .u8 0, .int .u8 0, .int .u8 0, .int .u8 0, .int .u8 0, .int .u8 0, .int .u8 0, .int .u8 0, .int .u8 0, .int .u8 0, .int .u8 0, .int .u8 0, .int .u8 0, .int .u8 0, .int .u8 0, .int .u8 0, .int .u8 0, .int .u8 0, .int .u8 0, .int .u8 0, .int .u8 0, .bool false] rfl rfl 116 #[.string ⟨#[]⟩, .int .i64 0, .slice none 0 0, .string ⟨#[]⟩, .int .u8 0, .int .u8 0, .int .u8 0, .int .u8 0, .int .u8 0, .int .u8 0, .int .u8 0, .int .u8 0, .int .u8 0, .int .u8 0, .int .u8 0, .int .u8 0, .int .u8 0, .int .u8 0, .int .u8 0, .int .u8 0, .int .u8 0, .int .u8 0, .int .u8 0, .int .u8 0, .int .u8 0, .int .u8 0, .int .u8 0, .int .u8 0, .int .u8 0, .int .u8 0, .int .u8 0, .int .u8 0, .int .u8 0, .int .u8 0, .int .u8 0, .int .u8 0, .int .u8 0, .int .u8 0, .int .u8 0, .int .u8 0, .int .u8 0, .int .u8 0, .int .u8 0, .int .u8 0, .bool false] (heap_alloc_new w2 _) (by kernel_rfl) rfl hone.out ?_)
    | fail)
  obtain ⟨A0, hA0⟩ : ∃ A0, accCells name 0 (.slice none 0 0) ⟨#[]⟩ (List.replicate 8 0) (List.replicate 32 0) false = A0 := ⟨_, rfl⟩
  have HA0 := Lib.hid hA0
  have hl0 : A0.length = 45 := by rw [← hA0]; exact accCells_length rfl rfl
  obtain ⟨W3, hW3⟩ : ∃ W3, (w2.alloc (.cells #[.string ⟨#[]⟩, .int .i64 0, .slice none 0 0, .string ⟨#[]⟩, .int .u8 0, .int .u8 0, .int .u8 0, .int .u8 0, .int .u8 0, .int .u8 0, .int .u8 0, .int .u8 0, .int .u8 0, .int .u8 0, .int .u8 0, .int .u8 0, .int .u8 0, .int .u8 0, .int .u8 0, .int .u8 0, .int .u8 0, .int .u8 0, .int .u8 0, .int .u8 0, .int .u8 0, .int .u8 0, .int .u8 0, .int .u8 0, .int .u8 0, .int .u8 0, .int .u8 0, .int .u8 0, .int .u8 0, .int .u8 0, .int .u8 0, .int .u8 0, .int .u8 0, .int .u8 0, .int .u8 0, .int .u8 0, .int .u8 0, .int .u8 0, .int .u8 0, .int .u8 0, .bool false] 116)).setRow w2.heap.size #[.string name, .int .i64 0, .slice none 0 0, .string ⟨#[]⟩, .int .u8 0, .int .u8 0, .int .u8 0, .int .u8 0, .int .u8 0, .int .u8 0, .int .u8 0, .int .u8 0, .int .u8 0, .int .u8 0, .int .u8 0, .int .u8 0, .int .u8 0, .int .u8 0, .int .u8 0, .int .u8 0, .int .u8 0, .int .u8 0, .int .u8 0, .int .u8 0, .int .u8 0, .int .u8 0, .int .u8 0, .int .u8 0, .int .u8 0, .int .u8 0, .int .u8 0, .int .u8 0, .int .u8 0, .int .u8 0, .int .u8 0, .int .u8 0, .int .u8 0, .int .u8 0, .int .u8 0, .int .u8 0, .int .u8 0, .int .u8 0, .int .u8 0, .int .u8 0, .bool false] = W3 := ⟨_, rfl⟩
  have I : ADec w W3 w.heap.size w2.heap.size R B A0 ⟨r1, 0⟩ := by rw [← hW3, ← hA0]; exact HI.out
  rw [hW3]
  obtain ⟨b, hb⟩ : ∃ b, w2.heap.size = b := ⟨_, rfl⟩
  rw [hb] at I ⊢
  clear HI hone hW3 hA0 hb
  refine (readerNumber_any 65535 I.ir).mono ?_
  rw [T1.out]
  rintro e w3 ⟨rfl, hr3, hm3⟩
  replace I := I.read hr3 hm3
  clear hr3 hm3
  have f1 := frozen_of_heap I.a 1
  obtain ⟨v1, q1⟩ : ∃ v, w3.cell? ⟨b, 1, none⟩ = some v := ⟨_, (cell_of_heap I.a 1).trans (by rw [List.getElem?_toArray, List.getElem?_eq_getElem (by omega)])⟩
  replace I := I.set 1 (.int .i64 number)
  go_wp2_with fail
  refine (readerNumber_any 8 I.ir).mono ?_
  rw [T2.out]
  rintro e w4 ⟨rfl, hr4, hm4⟩
  replace I := I.read hr4 hm4
  clear hr4 hm4 f1 q1
  go_wp2_with fail
  go_loopw [22] (fun i wr => i = .int .i64 0 ∧ wr = w4) (fun _ _ => 0)
  case atStart => exact ⟨rfl, rfl⟩
  case round =>
    obtain ⟨rfl, rfl⟩ := hrel
    go_wp2_with fail
    refine (readerText_any 256 I.ir).mono ?_
    rw [T3.out]
    rintro e w5 ⟨rfl, hr5, hm5⟩
    replace I := I.read hr5 hm5
    clear hr5 hm5
    have f3 := frozen_of_heap I.a 3
    obtain ⟨v3, q3⟩ : ∃ v, w5.cell? ⟨b, 3, none⟩ = some v := ⟨_, (cell_of_heap I.a 3).trans (by rw [List.getElem?_toArray, List.getElem?_eq_getElem (by rw [List.length_set]; omega)])⟩
    replace I := I.set 3 (.string home)
    go_wp2_with fail
    refine (readerText_any 8 I.ir).mono ?_
    rw [T4.out]
    rintro e w6 ⟨rfl, hr6, hm6⟩
    replace I := I.read hr6 hm6
    clear hr6 hm6 f3 q3
    obtain ⟨SS, hSS⟩ : ∃ SS : ByteArray, (⟨salt.toArray⟩ : ByteArray) = SS := ⟨_, rfl⟩
    obtain ⟨SD, hSD⟩ : ∃ SD : ByteArray, (⟨digest.toArray⟩ : ByteArray) = SD := ⟨_, rfl⟩
    have HSS := Lib.hid hSS
    have HSD := Lib.hid hSD
    have sS : SS.size = 8 := by rw [← hSS]; simp [ByteArray.size, hs]
    have sD : SD.size = 32 := by rw [← hSD]; simp [ByteArray.size, hd]
    go_wp2_with fail
    refine (readerText_any 32 I.ir).mono ?_
    rw [T5.out]
    rintro e w7 ⟨rfl, hr7, hm7⟩
    replace I := I.read hr7 hm7
    clear hr7 hm7
    go_wp2_with fail
    refine (readerFlag_any I.ir).mono ?_
    rw [T6.out]
    rintro e w8 ⟨rfl, hr8, hm8⟩
    replace I := I.read hr8 hm8
    clear hr8 hm8
    have f44 := frozen_of_heap I.a 44
    obtain ⟨v44, q44⟩ : ∃ v, w8.cell? ⟨b, 44, none⟩ = some v := ⟨_, (cell_of_heap I.a 44).trans (by rw [List.getElem?_toArray, List.getElem?_eq_getElem (by rw [List.length_set, List.length_set]; omega)])⟩
    replace I := I.set 44 (.bool lk)
    obtain ⟨A1, hA1⟩ : ∃ A1, ((A0.set 1 (.int .i64 number)).set 3 (.string home)).set 44 (.bool lk) = A1 := ⟨_, rfl⟩
    have hl1 : A1.length = 45 := by rw [← hA1]; simp [hl0]
    rw [hA1] at I
    have HA1 := Lib.hid hA1
    obtain ⟨W8, hW8⟩ : ∃ W8, w8.setCell ⟨b, 44, none⟩ (.bool lk) = W8 := ⟨_, rfl⟩
    rw [hW8] at I
    have hc1 := fun ty => Lib.run_copy_row_string (P := Tryz.prog) W8 66 9 ty 5 b 4 8 8 SS _ _ Tryz.underlying66 infoU8 I.a (by omega) (by rw [List.size_toArray]; omega)
    replace I := I.spl (A1.take 4 ++ Lib.byteCells SS.data.toList ++ A1.drop (4 + SS.size))
    simp only at hc1
    obtain ⟨A2, hA2⟩ : ∃ A2, A1.take 4 ++ Lib.byteCells SS.data.toList ++ A1.drop (4 + SS.size) = A2 := ⟨_, rfl⟩
    simp only [hA2] at hc1
    rw [hA2] at I
    obtain ⟨W9, hW9⟩ : ∃ W9, W8.setRow b A2.toArray = W9 := ⟨_, rfl⟩
    simp only [hW9] at hc1
    rw [hW9] at I
    have hl2 : A2.length = 45 := by rw [← hA2]; simp [Lib.byteCells, sS]; omega
    have hc2 := fun ty => Lib.run_copy_row_string (P := Tryz.prog) W9 66 9 ty 5 b 12 32 32 SD _ _ Tryz.underlying66 infoU8 I.a (by omega) (by rw [List.size_toArray]; omega)
    replace I := I.spl (A2.take 12 ++ Lib.byteCells SD.data.toList ++ A2.drop (12 + SD.size))
    simp only at hc2
    obtain ⟨A3, hA3⟩ : ∃ A3, A2.take 12 ++ Lib.byteCells SD.data.toList ++ A2.drop (12 + SD.size) = A3 := ⟨_, rfl⟩
    simp only [hA3] at hc2
    rw [hA3] at I
    obtain ⟨W10, hW10⟩ : ∃ W10, W9.setRow b A3.toArray = W10 := ⟨_, rfl⟩
    simp only [hW10] at hc2
    rw [hW10] at I
    have HI := Lib.hid I
    have HA2 := Lib.hid hA2
    have HA3 := Lib.hid hA3
    clear hA1 hA2 hA3 hW9 hW10 I
    go_wp2_with fail
    have hA : A3 = accCells name number (.slice none 0 0) home salt digest lk := by
      refine accCells_put name home number (.slice none 0 0) salt digest lk hs hd A0 A1 A2 A3 HA0.out HA1.out ?_ ?_
      · have := HA2.out
        rw [sS, ← HSS.out] at this
        exact this
      · have := HA3.out
        rw [sD, ← HSD.out] at this
        exact this
    refine (readerFailed_any HI.out.ir).mono ?_
    rintro e w11 ⟨⟨at_, rfl⟩, hm11⟩
    have I := HI.out.mods hm11
    have hl3 : A3.length = 45 := by rw [hA]; exact accCells_length hs hd
    have hu116 := Tryz.underlying116
    have hi116 : (Tryz.prog.info? 116).map (·.size) = some A3.length := by rw [hl3]; kernel_rfl
    have hcl := fun W (h : IsReader W R B ⟨[], 0⟩) => readerClose_any h
    have hcz : rclose ⟨[], 0⟩ = 0 := rfl
    simp only [hcz] at hcl
    have hck := fun W => accCheck_core (W := W) name home number (IntsAt.nil W) (by omega) (by omega) A3.toArray (by rw [hA]; rfl) (by rw [hA]; rfl) (by rw [hA]; rfl) (by rw [hA]; rfl)
    simp only [hok] at hck
    have HK : Hid (∀ W', Mods [] w11 W' → W'.rangeAt b 0 A3 ∧ IsReader W' R B ⟨[], 0⟩ ∧ Mods [] w11 W') := by
      show ∀ _, _
      intro W' h
      have J := I.mods h
      refine ⟨fun j v hj => ?_, J.ir, h⟩
      rw [Nat.zero_add, cell_of_heap J.a, List.getElem?_toArray]; exact hj
    have HI11 := Lib.hid I
    have HA := Lib.hid hA
    clear I hm11 HI hA
    go_wp2_with fail
    have k7 := HK.out w11.drew (Mods.refl _ _).drew
    refine wp_region_held_drew (S := fun W' => W'.rangeAt b 0 A3 ∧ IsReader W' R B ⟨[], 0⟩ ∧ Mods [] w11 W') (by kernel_rfl) k7 (fun hHeld => ?_)
    refine wpAnyH_take (i := 12) (oi := { dst := some 67, op := Op.load 116 (Operand.tmp 5), type := 116, pos := "user.go:151", after := #[], guard := none }) (v := .agg A3.toArray) rfl (by kernel_rfl) (by kernel_rfl) (by kernel_rfl) (fun _ _ _ h => h) (yieldsIf_load_mid (by rfl) _ _ rfl b 0 rfl A3 _ (fun w h => h.1) hu116 rfl hi116) (by assumption) ?_
    try simp only [Act.put, List.setIfInBounds_toArray, List.set_cons_zero, List.set_cons_succ]
    refine wpAnyH_take (i := 0) (oi := { dst := some 55, op := Op.move (Operand.tmp 9), type := 22, pos := "user.go:151", after := #[], guard := none }) (v := .int .i64 0) rfl (by kernel_rfl) (by kernel_rfl) (by kernel_rfl) (fun _ _ _ h => h) (Or.inl ⟨by rfl, fun w hSw => by (try dsimp only at hSw); first | (go_simp; done) | (go_simp; with_reducible rfl)⟩) (by assumption) ?_
    try simp only [Act.put, List.setIfInBounds_toArray, List.set_cons_zero, List.set_cons_succ]
    refine wpAnyH_take (i := 1) (oi := { dst := some 56, op := Op.move (Operand.tmp 6), type := 9, pos := "user.go:151", after := #[], guard := none }) (v := .string SS) rfl (by kernel_rfl) (by kernel_rfl) (by kernel_rfl) (fun _ _ _ h => h) (Or.inl ⟨by rfl, fun w hSw => by (try dsimp only at hSw); first | (go_simp; done) | (go_simp; with_reducible rfl)⟩) (by assumption) ?_
    try simp only [Act.put, List.setIfInBounds_toArray, List.set_cons_zero, List.set_cons_succ]
    refine wpAnyH_take (i := 2) (oi := { dst := some 57, op := Op.call { callee := Callee.builtin Builtin.len, args := #[Operand.tmp 56], argTypes := #[9] }, type := 3, pos := "user.go:151", after := #[{ on := 1, ground := Ground.data }], guard := none }) (v := .int .i64 8) rfl (by kernel_rfl) (by kernel_rfl) (by kernel_rfl) (fun _ _ _ h => h) (Or.inl ⟨by rfl, fun w hSw => by (try dsimp only at hSw); first | (go_simp; done) | (go_simp; with_reducible rfl)⟩) (by assumption) ?_
    try simp only [Act.put, List.setIfInBounds_toArray, List.set_cons_zero, List.set_cons_succ]
    refine wpAnyH_take (i := 3) (oi := { dst := some 58, op := Op.binOp BinOp.lss 3 (Operand.tmp 57) (Operand.const (Value.int IntKind.i64 8)) 3, type := 4, pos := "user.go:151", after := #[{ on := 2, ground := Ground.data }], guard := none }) (v := .bool false) rfl (by kernel_rfl) (by kernel_rfl) (by kernel_rfl) (fun _ _ _ h => h) (Or.inl ⟨by rfl, fun w hSw => by (try dsimp only at hSw); first | (go_simp; done) | (go_simp; with_reducible rfl)⟩) (by assumption) ?_
    try simp only [Act.put, List.setIfInBounds_toArray, List.set_cons_zero, List.set_cons_succ]
    refine wpAnyH_take (i := 4) (oi := { dst := some 59, op := Op.move (Operand.tmp 58), type := 4, pos := "user.go:151", after := #[{ on := 3, ground := Ground.data }], guard := none }) (v := .bool false) rfl (by kernel_rfl) (by kernel_rfl) (by kernel_rfl) (fun _ _ _ h => h) (Or.inl ⟨by rfl, fun w hSw => by (try dsimp only at hSw); first | (go_simp; done) | (go_simp; with_reducible rfl)⟩) (by assumption) ?_
    try simp only [Act.put, List.setIfInBounds_toArray, List.set_cons_zero, List.set_cons_succ]
    refine wpAnyH_take (i := 5) (oi := { dst := some 60, op := Op.move (Operand.tmp 7), type := 9, pos := "user.go:151", after := #[{ on := 4, ground := Ground.guard }], guard := some (4, false) }) (v := .string SD) rfl (by kernel_rfl) (by kernel_rfl) (by kernel_rfl) (fun _ _ _ h => h) (Or.inl ⟨by rfl, fun w hSw => by (try dsimp only at hSw); first | (go_simp; done) | (go_simp; with_reducible rfl)⟩) (by assumption) ?_
    try simp only [Act.put, List.setIfInBounds_toArray, List.set_cons_zero, List.set_cons_succ]
    refine wpAnyH_take (i := 6) (oi := { dst := some 61, op := Op.call { callee := Callee.builtin Builtin.len, args := #[Operand.tmp 60], argTypes := #[9] }, type := 3, pos := "user.go:151", after := #[{ on := 5, ground := Ground.data }, { on := 4, ground := Ground.guard }], guard := some (4, false) }) (v := .int .i64 32) rfl (by kernel_rfl) (by kernel_rfl) (by kernel_rfl) (fun _ _ _ h => h) (Or.inl ⟨by rfl, fun w hSw => by (try dsimp only at hSw); first | (go_simp; done) | (go_simp; with_reducible rfl)⟩) (by assumption) ?_
    try simp only [Act.put, List.setIfInBounds_toArray, List.set_cons_zero, List.set_cons_succ]
    refine wpAnyH_take (i := 7) (oi := { dst := some 62, op := Op.binOp BinOp.lss 3 (Operand.tmp 61) (Operand.const (Value.int IntKind.i64 32)) 3, type := 4, pos := "user.go:151", after := #[{ on := 6, ground := Ground.data }, { on := 4, ground := Ground.guard }], guard := some (4, false) }) (v := .bool false) rfl (by kernel_rfl) (by kernel_rfl) (by kernel_rfl) (fun _ _ _ h => h) (Or.inl ⟨by rfl, fun w hSw => by (try dsimp only at hSw); first | (go_simp; done) | (go_simp; with_reducible rfl)⟩) (by assumption) ?_
    try simp only [Act.put, List.setIfInBounds_toArray, List.set_cons_zero, List.set_cons_succ]
    refine wpAnyH_take (i := 8) (oi := { dst := some 63, op := Op.pick (Operand.tmp 59) (Operand.const (Value.bool true)) (Operand.tmp 62), type := 4, pos := "user.go:151", after := #[{ on := 4, ground := Ground.data }, { on := 7, ground := Ground.data }], guard := none }) (v := .bool false) rfl (by kernel_rfl) (by kernel_rfl) (by kernel_rfl) (fun _ _ _ h => h) (Or.inl ⟨by rfl, fun w hSw => by (try dsimp only at hSw); first | (go_simp; done) | (go_simp; with_reducible rfl)⟩) (by assumption) ?_
    try simp only [Act.put, List.setIfInBounds_toArray, List.set_cons_zero, List.set_cons_succ]
    refine wpAnyH_take (i := 10) (oi := { dst := some 65, op := Op.move (Operand.tmp 4), type := 107, pos := "user.go:151", after := #[], guard := none }) (v := .pointer (some ⟨R, 0, none⟩)) rfl (by kernel_rfl) (by kernel_rfl) (by kernel_rfl) (fun _ _ _ h => h) (Or.inl ⟨by rfl, fun w hSw => by (try dsimp only at hSw); first | (go_simp; done) | (go_simp; with_reducible rfl)⟩) (by assumption) ?_
    try simp only [Act.put, List.setIfInBounds_toArray, List.set_cons_zero, List.set_cons_succ]
    refine wpAnyH_ready (rs := [9]) (by kernel_rfl) (by simp) ?_
    refine AllReadyH.cons (o := { dst := some 64, op := Op.call { callee := Callee.value (Operand.func 95), args := #[Operand.tmp 63, Operand.const (Value.int IntKind.i64 4)], argTypes := #[4, 22] }, type := 22, pos := "user.go:151", after := #[{ on := 8, ground := Ground.data }, { on := 4, ground := Ground.chain }], guard := none }) rfl (fun K hK => ?_) AllReadyH.nil
    go_simp
    refine (when_any _ _ _).mono ?_
    rintro e W8 ⟨rfl, rfl⟩
    go_wp2_with fail
    refine hK.out _ _ (k7) (fun hHeld => ?_)
    clear hK K
    try simp only [Act.put, List.setIfInBounds_toArray, List.set_cons_zero, List.set_cons_succ]
    refine wpAnyH_ready (rs := [11]) (by kernel_rfl) (by simp) ?_
    refine AllReadyH.cons (o := { dst := some 66, op := Op.call { callee := Callee.value (Operand.func 60), args := #[Operand.tmp 65], argTypes := #[107] }, type := 22, pos := "user.go:151", after := #[{ on := 10, ground := Ground.data }, { on := 9, ground := Ground.chain }], guard := none }) rfl (fun K hK => ?_) AllReadyH.nil
    go_simp
    refine (hcl _ k7.2.1).mono ?_
    rintro e W8 ⟨rfl, rfl⟩
    go_wp2_with fail
    refine hK.out _ _ (k7) (fun hHeld => ?_)
    clear hK K
    try simp only [Act.put, List.setIfInBounds_toArray, List.set_cons_zero, List.set_cons_succ]
    refine wpAnyH_ready (rs := [13]) (by kernel_rfl) (by simp) ?_
    refine AllReadyH.cons (o := { dst := some 68, op := Op.call { callee := Callee.value (Operand.func 94), args := #[Operand.tmp 67], argTypes := #[116] }, type := 22, pos := "user.go:151", after := #[{ on := 12, ground := Ground.data }, { on := 11, ground := Ground.chain }], guard := none }) rfl (fun K hK => ?_) AllReadyH.nil
    go_simp
    refine (hck _).mono ?_
    rintro e W8 ⟨rfl, hM8⟩
    have k8 := HK.out _ ((Mods.refl _ w11).drew.trans' hM8)
    go_wp2_with fail
    refine hK.out _ _ (k8) (fun hHeld => ?_)
    clear hK K
    try simp only [Act.put, List.setIfInBounds_toArray, List.set_cons_zero, List.set_cons_succ]
    refine wpAnyH_ready (rs := [14]) (by kernel_rfl) (by simp) ?_
    refine AllReadyH.cons (o := { dst := some 69, op := Op.buildSlice 189 4 #[(0, Operand.tmp 55), (1, Operand.tmp 64), (2, Operand.tmp 66), (3, Operand.tmp 68)], type := 189, pos := "user.go:151", after := #[{ on := 0, ground := Ground.data }, { on := 9, ground := Ground.data }, { on := 11, ground := Ground.data }, { on := 13, ground := Ground.data }], guard := none }) rfl (fun K hK => ?_) AllReadyH.nil
    go_simp
    refine hK.out _ _ (HK.out _ ((k8.2.2).alloc _)) (fun hHeld => ?_)
    clear hK K
    try simp only [Act.put, List.setIfInBounds_toArray, List.set_cons_zero, List.set_cons_succ]
    refine wpAnyH_ready (rs := [15]) (by kernel_rfl) (by simp) ?_
    refine AllReadyH.cons (o := { dst := some 70, op := Op.call { callee := Callee.value (Operand.func 93), args := #[Operand.tmp 69], argTypes := #[189] }, type := 22, pos := "user.go:151", after := #[{ on := 14, ground := Ground.data }, { on := 13, ground := Ground.chain }], guard := none }) rfl (fun K hK => ?_) AllReadyH.nil
    go_simp
    refine (uFirst_new _ [_, _, _, _] _ _ 4 4 rfl rfl (by simp)).mono ?_
    rintro e W9 ⟨rfl, rfl⟩
    go_wp2_with fail
    refine hK.out _ _ (HK.out _ ((k8.2.2).alloc _)) (fun hHeld => ?_)
    clear hK K
    try simp only [Act.put, List.setIfInBounds_toArray, List.set_cons_zero, List.set_cons_succ]
    refine wpAnyH_ready (rs := [16]) (by kernel_rfl) (by simp) ?_
    refine AllReadyH.cons (o := { dst := some 10, op := Op.assign (Operand.tmp 70), type := 22, pos := "user.go:151", after := #[{ on := 15, ground := Ground.data }, { on := 15, ground := Ground.chain }, { on := 0, ground := Ground.phase }, { on := 1, ground := Ground.phase }, { on := 2, ground := Ground.phase }, { on := 3, ground := Ground.phase }, { on := 4, ground := Ground.phase }, { on := 5, ground := Ground.phase }, { on := 6, ground := Ground.phase }, { on := 7, ground := Ground.phase }, { on := 8, ground := Ground.phase }, { on := 9, ground := Ground.phase }, { on := 10, ground := Ground.phase }, { on := 11, ground := Ground.phase }, { on := 12, ground := Ground.phase }, { on := 13, ground := Ground.phase }, { on := 14, ground := Ground.phase }, { on := 15, ground := Ground.phase }], guard := none }) rfl (fun K hK => ?_) AllReadyH.nil
    go_simp
    refine hK.out _ _ (HK.out _ ((k8.2.2).alloc _)) (fun hHeld => ?_)
    clear hK K
    try simp only [Act.put, List.setIfInBounds_toArray, List.set_cons_zero, List.set_cons_succ]
    refine wpAnyH_done (by kernel_rfl) ?_ _
    have hfe : firstE [0, whenF false 4, 0, 0] = 0 := rfl
    have hinf : Hid ((Tryz.prog.info? 116).map (·.size) = some A3.toArray.size) := by show _ = _; rw [List.size_toArray]; exact hi116
    have hone : Hid (A3.toArray.all (·.oneCell') = true) := by show _ = _; rw [HA.out]; exact accCells_one _ _ _ _ _ _ _ _ _
    have J := HI11.out.mods ((k8.2.2).alloc (.cells #[.int .i64 0, .int .i64 (whenF false 4), .int .i64 0, .int .i64 0] 22))
    obtain ⟨z, hz, hzs⟩ := J.rb
    have hzz : Hid (z.size = A3.toArray.size) := by show _ = _; rw [hzs, List.size_toArray, hl3]
    have HJ := Lib.hid J
    have HZ := Lib.hid hz
    clear J hz hzs k7 k8 hHeld hck hcl hM8
    go_wp2_with (first
      | (refine wpList_load_row rfl 116 _ rfl b rfl _ _ _ _ HJ.out.a Tryz.underlying116 rfl hinf.out ?_)
      | (refine wpList_store_row rfl 116 _ _ rfl w.heap.size _ rfl rfl _ _ HZ.out hinf.out hzz.out hone.out ?_))
    refine bodyPost_ret (results_cell_tmp Tryz.results103 _ _ w.heap.size _ _ _ _ rfl (setRow_heap _ _ _ _ _ _ HZ.out) Tryz.underlying116 rfl hinf.out) rfl ⟨?_, ?_⟩
    · rw [HA.out]; rfl
    · exact mods_setRow HJ.out.m (.inr (Nat.le_refl _))
end Go.Proofs.YtlaihnbappfbfaaGreatDoor
