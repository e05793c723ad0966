/- Walks of user: Create. -/
import Derived.Test.YtlaihnbappfbfaaGreatDoorA9
import Derived.Deep.MidRow
import Derived.Deep.RegionHeld3
namespace Go.Proofs.YtlaihnbappfbfaaGreatDoor
open Go.RowKit

theorem Usages.keepV {V : Nat} {w w' : World} (h : Usages w) (hk : Keep (VKeep V) w w') (h1 : 0 < V) : Usages w' := by
  intro k j hk' hj
  have := h k j hk' hj
  have hlt : (uRow k)[j]? = some ((uRow k)[j]'(by simpa [uRow] using hj)) := List.getElem?_eq_getElem _
  rw [hlt] at this ⊢
  exact keepV_cell hk h1 this
theorem Keep.fresh {P : Nat → Obj → Prop} {a w w' : World} {A : Nat} (h : Keep P a w) (hm : Mods [A] w w') (hA : a.heap.size ≤ A) : Keep P a w' :=
  ⟨hm.os.trans h.os, hm.tape.trans h.tape, hm.output.trans h.output, Nat.le_trans h.size hm.size, fun i o hi hP => hm.heap (h.block i o hi hP) (by
    have := lt_of_heap hi
    simp; omega)⟩

/-- What holds between two steps of a change of the view, with a row of its own in block A. -/
structure CrI (w wx : World) (A V n : Nat) (T : TypeId) (l : List ChgB) (arr : List Value) : Prop where
  a : wx.heap[A]? = some (.cells arr.toArray T (0, 0))
  v : ViewIs wx V n l
  u : Usages wx
  s : ShaTab wx
  k : Keep (VKeep V) w wx
  lo : w.heap.size ≤ A
  av : V < A
  g1 : 3 < V
  g2 : 2 < V
  g3 : 0 < V
  ne : T ≠ 93
theorem CrI.mods {w wx wy : World} {A V n : Nat} {T : TypeId} {l : List ChgB} {arr : List Value} (h : CrI w wx A V n T l arr) (hm : Mods [] wx wy) : CrI w wy A V n T l arr :=
  ⟨hm.heap h.a (by simp), h.v.mods hm, h.u.mods hm (by simp), h.s.keep hm, h.k.trans (Keep.of_mods hm (by simp)), h.lo, h.av, h.g1, h.g2, h.g3, h.ne⟩
theorem CrI.view {w wx wy : World} {A V n n' : Nat} {T : TypeId} {l l' : List ChgB} {arr : List Value} (h : CrI w wx A V n T l arr) (hv : ViewIs wy V n' l') (hk : Keep (VKeep V) wx wy) : CrI w wy A V n' T l' arr :=
  ⟨keepV_heap hk (by have := h.av; omega) h.ne h.a, hv, h.u.keepV hk h.g3, h.s.keepV hk h.g1 h.g2, h.k.trans hk, h.lo, h.av, h.g1, h.g2, h.g3, h.ne⟩
theorem CrI.set {w wx : World} {A V n : Nat} {T : TypeId} {l : List ChgB} {arr : List Value} (h : CrI w wx A V n T l arr) (o : Nat) (vs : List Value) (hl : o + vs.length ≤ arr.length) : CrI w (wx.setCells A o vs) A V n T l (spl arr o vs) := by
  have hm : Mods [A] wx (wx.setCells A o vs) := mods_setCells (.inl (by simp)) _ _ _ (Mods.refl _ _)
  have hk : Keep (VKeep V) w (wx.setCells A o vs) := h.k.fresh hm h.lo
  have hav := h.av
  refine ⟨heap_setCells A T vs o arr wx h.a hl, ?_, h.u.mods hm (by have := h.g3; simp; omega), ?_, hk, h.lo, h.av, h.g1, h.g2, h.g3, h.ne⟩
  · refine h.v.keep (P := fun k o => ¬ (k = A ∧ ∃ c, o = .cells c T (0, 0))) (Keep.of_mods hm (fun k o hkw hP hkA => ?_)) (fun _ e => by omega) (fun k _ _ hk e => by omega) (fun k cur e => ?_) (fun k _ hk e => by omega)
    · have : k = A := by simpa using hkA
      subst this
      exact hP ⟨rfl, _, Option.some.inj (hkw.symm.trans h.a)⟩
    · obtain ⟨_, c, e⟩ := e
      simp only [Obj.cells.injEq] at e
      exact h.ne e.2.1.symm
  · refine ⟨fun i hi => hm.keepS (h.s.1 i hi) (by have := h.g1; simp; omega), fun i hi => hm.keepS (h.s.2 i hi) (by have := h.g2; simp; omega)⟩

set_option maxRecDepth 100000 in
set_option maxHeartbeats 4000000 in
theorem create_ok {w : World} {V n : Nat} {l : List ChgB} (h : ViewIs w V n l) (hu : Usages w) (hsh : ShaTab w) (g1 : 3 < V) (g2 : 2 < V) (g3 : 0 < V) (hnn : n < 100000000) (name sec : ByteArray) (number : Nat) (salt dig0 dig : List UInt8) (hs : salt.length = 8) (hd0 : dig0.length = 32) (hdig : shaSmall (salt ++ sec.data.toList) = dig)
    (hn : name.size ≤ 16) (hsec : sec.size < 48) (hok : accE name.data.toList number [] [] = 0) (hnum : number < 100) (hdl : (Lib.decDigits number).length ≤ 2) (hnd : wordOK (numT number).data.toList = true)
    (hwd : wordOK name.data.toList = true) (hle : (encAcc name.data.toList number [] [] salt dig false).length ≤ 65536)
    (h1 : (getRes l (acct name)).2 = false) (h2 : (getRes l (acct (numT number))).2 = false) :
    Calls Tryz.prog 62 #[.pointer (some ⟨V, 0, none⟩), accVal name number (.slice none 0 0) ⟨#[]⟩ salt dig0 false, .string sec] w
      fun e w' => e = .returned (.int .i64 0) ∧ ViewIs w' V (n + 4) (l ++ [⟨acct name, ⟨(encAcc name.data.toList number [] [] salt dig false).toArray⟩, false⟩] ++ [⟨acct (numT number), name, false⟩]) ∧ Keep (VKeep V) w w' := by
  have hd : dig.length = 32 := by rw [← hdig]; exact digN_length _ _
  have hlen := accCells_length (name := name) (number := number) (g := .slice none 0 0) (home := ⟨#[]⟩) (lk := false) hs hd0
  have hlen' := accCells_length (name := name) (number := number) (g := .slice none 0 0) (home := ⟨#[]⟩) (lk := false) hs hd
  have e0 : (⟨#[]⟩ : ByteArray).data.toList = [] := rfl
  have hck := fun W => accCheck_core (W := W) name ⟨#[]⟩ number (IntsAt.nil W) (by omega) (by simp [ByteArray.size]) (accCells name number (.slice none 0 0) ⟨#[]⟩ salt dig0 false).toArray rfl rfl rfl rfl
  simp only [hok] at hck
  have hput := fun W n l (hv : ViewIs W V n l) (hU : Usages W) (hn' : n < 1000000000) => put_ok hv hU hn' name ⟨#[]⟩ number salt dig false (IntsAt.nil W) (by omega) (by simp [ByteArray.size]) hs hd (by rw [e0]; exact hok) (by omega) (by simp) (by simp) hwd (by rw [e0]; exact hle)
  simp only at hput
  have hspl : spl (accCells name number (.slice none 0 0) ⟨#[]⟩ salt dig0 false) 12 (bcells dig) = accCells name number (.slice none 0 0) ⟨#[]⟩ salt dig false := by
    have l12 : (([.string name, .int .i64 number, .slice none 0 0, .string ⟨#[]⟩] : List Value) ++ bcells salt).length = 12 := by simp [bcells, hs]
    have l44 : ((([.string name, .int .i64 number, .slice none 0 0, .string ⟨#[]⟩] : List Value) ++ bcells salt) ++ bcells dig0).length = 44 := by simp [bcells, hs, hd0]
    unfold spl accCells
    rw [bcells_length, hd, ← List.append_assoc, List.take_left' l12, ← List.append_assoc, List.drop_left' l44]
    simp
  unfold accVal at *
  have hoa := fun W => ofAccount_any name W
  have hnu := fun W => numbered_any number hnum (by omega) W
  have hh1 := fun W n (hv : ViewIs W V n l) (hU : Usages W) (hn' : n < 1000000000) => viewHas_any hv (acct name) (acct_fit (by omega)) (acct_ok hwd) hU hn'
  have hnts : (numT number).size ≤ 100 := by
    rw [numT, ByteArray.size_append]
    have : (⟨(Lib.decDigits number).toArray⟩ : ByteArray).size = (Lib.decDigits number).length := by simp [ByteArray.size]
    have : (⟨#[35]⟩ : ByteArray).size = 1 := rfl
    omega
  have hh2 := fun W n (hv : ViewIs W V n l) (hU : Usages W) (hn' : n < 1000000000) => viewHas_any hv (acct (numT number)) (acct_fit (by omega)) (acct_ok hnd) hU hn'
  have hse := fun W n l (hv : ViewIs W V n l) (hU : Usages W) (hn' : n < 1000000000) => viewSet_any hv (acct (numT number)) name (by omega) (acct_fit (by omega)) (acct_ok hnd) hU hn'
  simp only [h1] at hh1
  simp only [h2] at hh2
  have hha := fun W (hS : ShaTab W) => hash_small salt hs sec hsec W hS
  simp only [hdig] at hha
  have hfe2 : firstE [0, 0] = 0 := rfl
  have hs64 : decide ((64 : Int) < (sec.size : Int)) = false := by simp; omega
  have hfe : firstE [0, whenF (decide ((64 : Int) < (sec.size : Int))) 5] = 0 := by rw [hs64]; rfl
  clear hs64
  generalize (acct name).val = av1 at *
  generalize (acct (numT number)).val = av2 at *
  obtain ⟨enc, henc⟩ : ∃ enc : ByteArray, ⟨(encAcc name.data.toList number [] [] salt dig false).toArray⟩ = enc := ⟨_, rfl⟩
  simp only [henc] at hput
  rw [henc]
  obtain ⟨arr0, ha0⟩ : ∃ a, accCells name number (.slice none 0 0) ⟨#[]⟩ salt dig0 false = a := ⟨_, rfl⟩
  obtain ⟨arr1, ha1⟩ : ∃ a, accCells name number (.slice none 0 0) ⟨#[]⟩ salt dig false = a := ⟨_, rfl⟩
  rw [ha0] at hlen hck hspl ⊢
  rw [ha1] at hlen' hspl
  simp only [ha1] at hput
  have HQ0 : Hid (∀ (wx : World), wx.heap[w.heap.size]? = some (.cells arr0.toArray 116 (0, 0)) → wx.cell? ⟨w.heap.size, 0, none⟩ = some (.string name) ∧ wx.cell? ⟨w.heap.size, 1, none⟩ = some (.int .i64 number) ∧ wx.rangeAt w.heap.size 4 (bcells salt) ∧ wx.there w.heap.size 12 32) := by
    show ∀ _, _
    intro wx h
    rw [← ha0] at h
    refine ⟨(cell_of_heap h 0).trans rfl, (cell_of_heap h 1).trans rfl, fun j v hj => ?_, fun j hj => ⟨?_, frozen_of_heap h _⟩⟩
    · rw [cell_of_heap h]
      have hj8 : j < 8 := by have := (List.getElem?_eq_some_iff.1 hj).1; rw [bcells_length, hs] at this; exact this
      rw [List.getElem?_toArray, accCells_salt hs j hj8, ← hj]
      simp [bcells, hs, hj8]
    · rw [cell_of_heap h, List.getElem?_toArray, List.getElem?_eq_getElem (by rw [accCells_length hs hd0]; omega)]; rfl
  have HQ1 : Hid (∀ (wx : World), wx.heap[w.heap.size]? = some (.cells arr1.toArray 116 (0, 0)) → wx.cell? ⟨w.heap.size, 0, none⟩ = some (.string name) ∧ wx.cell? ⟨w.heap.size, 1, none⟩ = some (.int .i64 number) ∧ wx.rangeAt w.heap.size 0 arr1) := by
    show ∀ _, _
    intro wx h
    refine ⟨(cell_of_heap h 0).trans (by rw [← ha1]; rfl), (cell_of_heap h 1).trans (by rw [← ha1]; rfl), fun j v hj => ?_⟩
    rw [Nat.zero_add, cell_of_heap h, List.getElem?_toArray]; exact hj
  have hsz0 : Hid ((Tryz.prog.info? 116).map (·.size) = some arr0.toArray.size) := by show _ = _; rw [List.size_toArray, hlen]; kernel_rfl
  have hsz1 : Hid ((Tryz.prog.info? 116).map (·.size) = some arr1.length) := by show _ = _; rw [hlen']; kernel_rfl
  have hsz8 : Hid ((Tryz.prog.info? 113).map (·.size) = some (bcells salt).length) := by show _ = _; rw [bcells_length, hs]; kernel_rfl
  have hsz32 : Hid ((Tryz.prog.info? 114).map (·.size) = some (bcells dig).toArray.size) := by show _ = _; rw [List.size_toArray, bcells_length, hd]; kernel_rfl
  have hd32 : Hid ((bcells dig).toArray.size = 32) := by show _ = _; rw [List.size_toArray, bcells_length, hd]
  have hone : Hid ((bcells dig).toArray.all (·.oneCell') = true) := all_oneCell_toArray (bcells_one _)
  have hI : CrI w (w.alloc (.cells arr0.toArray 116)) w.heap.size V n 116 l arr0 := by
    have hm : Mods [] w (w.alloc (.cells arr0.toArray 116)) := (Mods.refl _ _).alloc _
    exact ⟨heap_alloc_new w _, h.mods hm, hu.mods hm (by simp), hsh.keep hm, Keep.of_mods hm (by simp), Nat.le_refl _, h.lt, g1, g2, g3, by decide⟩
  have I := hI
  obtain ⟨c0, c1, r4, t12⟩ := HQ0.out _ I.a
  have HCK := Lib.hid hck
  have HPUT := Lib.hid hput
  have HH1 := Lib.hid hh1
  have HH2 := Lib.hid hh2
  have HSE := Lib.hid hse
  have HHA := Lib.hid hha
  have HSPL := Lib.hid hspl
  clear hck hput hh1 hh2 hse hha hspl ha0 ha1 hI h hu hsh hdig hok h1 h2 hwd hnd henc
  go_enter Tryz.func62, Tryz.ntmps62
  go_wp2_with (first
    | (refine wpList_load_row rfl 116 _ rfl w.heap.size rfl _ _ _ _ I.a Tryz.underlying116 rfl hsz0.out ?_)
    | (go_at_call 94; refine (HCK.out _).mono ?_; rintro e w1 ⟨rfl, hm1⟩; replace I := I.mods hm1)
    | (go_at_call 95; refine (when_any _ _ _).mono ?_; rintro e w2 ⟨rfl, rfl⟩)
    | (go_at_call 93; refine (uFirst_new _ [_, _] _ _ 2 2 rfl rfl (by simp)).mono ?_; rintro e w3 ⟨rfl, hw3⟩; rw [hfe]; have hm3 : Mods [] w1 w3 := (by rw [← hw3]; exact (Mods.refl _ _).alloc _); clear hw3; replace I := I.mods hm3; clear c0 c1; obtain ⟨c0, c1, r4, t12⟩ := HQ0.out _ I.a)
    | (go_at_call 44; refine (hoa _).mono ?_; rintro e w2 ⟨rfl, hm2⟩; replace I := I.mods hm2)
    | (go_at_call 97; refine (hnu _).mono ?_; rintro e w2 ⟨rfl, hm2⟩; replace I := I.mods hm2))
  refine (HH1.out _ _ I.v I.u (by omega)).mono ?_
  rintro e w4 ⟨rfl, hv4, hk4⟩
  replace I := I.view hv4 hk4
  clear c0 c1 r4 t12
  obtain ⟨c0, c1, r4, t12⟩ := HQ0.out _ I.a
  clear hv4 hk4
  go_wp2_with (first
    | (go_at_call 97; refine (hnu _).mono ?_; rintro e w5 ⟨rfl, hm5⟩; replace I := I.mods hm5)
    | (go_at_call 96; refine (HH2.out _ _ I.v I.u (by omega)).mono ?_; rintro e w6 ⟨rfl, hv6, hk6⟩; replace I := I.view hv6 hk6; clear c0 c1 r4 t12; obtain ⟨c0, c1, r4, t12⟩ := HQ0.out _ I.a)
    | (refine wpList_load_mid rfl 113 _ rfl w.heap.size 4 rfl _ _ r4 Tryz.underlying113 rfl hsz8.out ?_)
    | (go_at_call 98; refine (HHA.out _ I.s).mono ?_; rintro e w7 ⟨rfl, hm7⟩; replace I := I.mods hm7; clear c0 c1 r4 t12; obtain ⟨c0, c1, r4, t12⟩ := HQ0.out _ I.a)
    | (refine wpList_store_mid rfl 114 _ _ rfl w.heap.size 12 (bcells dig).toArray rfl rfl (by rw [hd32.out]; exact t12) hsz32.out hone.out ?_))
  replace I := I.set 12 (bcells dig) (by rw [bcells_length, hd, hlen]; omega)
  rw [HSPL.out] at I
  obtain ⟨W8, hW8⟩ : ∃ W8, w7.setCells w.heap.size 12 (bcells dig) = W8 := ⟨_, rfl⟩
  rw [hW8] at I ⊢
  obtain ⟨A, hA⟩ : ∃ A, w.heap.size = A := ⟨_, rfl⟩
  have HS : Hid (∀ W' : World, W'.heap[A]? = some (.cells arr1.toArray 116 (0, 0)) → W'.rangeAt A 0 arr1 ∧ W'.cell? ⟨A, 0, none⟩ = some (.string name) ∧ W'.cell? ⟨A, 1, none⟩ = some (.int .i64 number)) := by
    show ∀ _, _
    intro W' h'
    rw [← hA] at h' ⊢
    obtain ⟨q0, q1, q2⟩ := HQ1.out _ h'
    exact ⟨q2, q0, q1⟩
  rw [hA] at I ⊢
  replace I := I.mods ((Mods.refl [] W8).drew)
  clear c0 c1 r4 t12 hW8 HCK HH1 HH2 HHA HSPL
  refine wp_region_held_drew (S := fun W' => W'.rangeAt A 0 arr1 ∧ W'.cell? ⟨A, 0, none⟩ = some (.string name) ∧ W'.cell? ⟨A, 1, none⟩ = some (.int .i64 number)) (by kernel_rfl) (HS.out _ I.a) (fun hHeld => ?_)
  refine wpAnyH_take (i := 0) (oi := { dst := some 36, op := Go.Op.move (Go.Operand.tmp 0), type := 49, pos := "user.go:187", after := #[], guard := none }) (v := .pointer (some ⟨V, 0, none⟩)) rfl (by kernel_rfl) (by kernel_rfl) (by kernel_rfl) (fun _ _ _ h => h) (Or.inl ⟨by rfl, fun w hSw => by (try dsimp only at hSw); first | (go_simp; done) | (go_simp; with_reducible rfl)⟩) (by assumption) ?_
  try simp only [Act.put, List.setIfInBounds_toArray, List.set_cons_zero, List.set_cons_succ]
  refine wpAnyH_take (i := 1) (oi := { dst := some 37, op := Go.Op.load 116 (Go.Operand.tmp 4), type := 116, pos := "user.go:187", after := #[], guard := none }) (v := .agg (arr1).toArray) rfl (by kernel_rfl) (by kernel_rfl) (by kernel_rfl) (fun _ _ _ h => h) (yieldsIf_load_mid (by rfl) _ _ rfl A 0 rfl arr1 _ (fun w h => h.1) Tryz.underlying116 rfl hsz1.out) (by assumption) ?_
  try simp only [Act.put, List.setIfInBounds_toArray, List.set_cons_zero, List.set_cons_succ]
  refine wpAnyH_take (i := 3) (oi := { dst := some 39, op := Go.Op.move (Go.Operand.tmp 0), type := 49, pos := "user.go:187", after := #[], guard := none }) (v := .pointer (some ⟨V, 0, none⟩)) rfl (by kernel_rfl) (by kernel_rfl) (by kernel_rfl) (fun _ _ _ h => h) (Or.inl ⟨by rfl, fun w hSw => by (try dsimp only at hSw); first | (go_simp; done) | (go_simp; with_reducible rfl)⟩) (by assumption) ?_
  try simp only [Act.put, List.setIfInBounds_toArray, List.set_cons_zero, List.set_cons_succ]
  refine wpAnyH_take (i := 4) (oi := { dst := some 40, op := Go.Op.fieldAddr 116 (Go.Operand.tmp 4) 1, type := 0, pos := "user.go:187", after := #[], guard := none }) (v := .pointer (some ⟨A, 1, none⟩)) rfl (by kernel_rfl) (by kernel_rfl) (by kernel_rfl) (fun _ _ _ h => h) (Or.inl ⟨by rfl, fun w hSw => by (try dsimp only at hSw); first | (go_simp; done) | (go_simp; with_reducible rfl)⟩) (by assumption) ?_
  try simp only [Act.put, List.setIfInBounds_toArray, List.set_cons_zero, List.set_cons_succ]
  refine wpAnyH_take (i := 5) (oi := { dst := some 41, op := Go.Op.load 3 (Go.Operand.tmp 40), type := 3, pos := "user.go:187", after := #[{ on := 4, ground := Go.Ground.data }], guard := none }) (v := .int .i64 number) rfl (by kernel_rfl) (by kernel_rfl) (by kernel_rfl) (fun _ _ _ h => h) (Or.inl ⟨by rfl, fun w hSw => by (try dsimp only at hSw); first | (go_simp; done) | (go_simp; with_reducible rfl)⟩) (by assumption) ?_
  try simp only [Act.put, List.setIfInBounds_toArray, List.set_cons_zero, List.set_cons_succ]
  refine wpAnyH_take (i := 7) (oi := { dst := some 43, op := Go.Op.fieldAddr 116 (Go.Operand.tmp 4) 0, type := 0, pos := "user.go:187", after := #[], guard := none }) (v := .pointer (some ⟨A, 0, none⟩)) rfl (by kernel_rfl) (by kernel_rfl) (by kernel_rfl) (fun _ _ _ h => h) (Or.inl ⟨by rfl, fun w hSw => by (try dsimp only at hSw); first | (go_simp; done) | (go_simp; with_reducible rfl)⟩) (by assumption) ?_
  try simp only [Act.put, List.setIfInBounds_toArray, List.set_cons_zero, List.set_cons_succ]
  refine wpAnyH_take (i := 8) (oi := { dst := some 44, op := Go.Op.load 9 (Go.Operand.tmp 43), type := 9, pos := "user.go:187", after := #[{ on := 7, ground := Go.Ground.data }], guard := none }) (v := .string name) rfl (by kernel_rfl) (by kernel_rfl) (by kernel_rfl) (fun _ _ _ h => h) (Or.inl ⟨by rfl, fun w hSw => by (try dsimp only at hSw); first | (go_simp; done) | (go_simp; with_reducible rfl)⟩) (by assumption) ?_
  try simp only [Act.put, List.setIfInBounds_toArray, List.set_cons_zero, List.set_cons_succ]
  refine wpAnyH_ready (rs := [2]) (by kernel_rfl) (by simp) ?_
  refine AllReadyH.cons (o := { dst := some 38, op := Go.Op.call { callee := Go.Callee.value (Go.Operand.func 99), args := #[Go.Operand.tmp 36, Go.Operand.tmp 37], argTypes := #[49, 116] }, type := 22, pos := "user.go:187", after := #[{ on := 0, ground := Go.Ground.data }, { on := 1, ground := Go.Ground.data }], guard := none }) rfl (fun K hK => ?_) AllReadyH.nil
  go_simp
  refine (HPUT.out _ _ _ I.v I.u (by omega)).mono ?_
  rintro e w9 ⟨rfl, hv9, hk9⟩
  replace I := I.view hv9 hk9
  clear hv9 hk9
  go_wp2_with fail
  refine hK.out _ _ (HS.out _ I.a) (fun hHeld => ?_)
  clear hK K
  try simp only [Act.put, List.setIfInBounds_toArray, List.set_cons_zero, List.set_cons_succ]
  refine wpAnyH_ready (rs := [6]) (by kernel_rfl) (by simp) ?_
  refine AllReadyH.cons (o := { dst := some 42, op := Go.Op.call { callee := Go.Callee.value (Go.Operand.func 97), args := #[Go.Operand.tmp 41], argTypes := #[3] }, type := 80, pos := "user.go:187", after := #[{ on := 5, ground := Go.Ground.data }, { on := 2, ground := Go.Ground.chain }], guard := none }) rfl (fun K hK => ?_) AllReadyH.nil
  go_simp
  refine (hnu _).mono ?_
  rintro e w10 ⟨rfl, hm10⟩
  replace I := I.mods hm10
  go_wp2_with fail
  refine hK.out _ _ (HS.out _ I.a) (fun hHeld => ?_)
  clear hK K
  try simp only [Act.put, List.setIfInBounds_toArray, List.set_cons_zero, List.set_cons_succ]
  refine wpAnyH_ready (rs := [9]) (by kernel_rfl) (by simp) ?_
  refine AllReadyH.cons (o := { dst := some 45, op := Go.Op.call { callee := Go.Callee.value (Go.Operand.func 35), args := #[Go.Operand.tmp 39, Go.Operand.tmp 42, Go.Operand.tmp 44], argTypes := #[49, 80, 9] }, type := 22, pos := "user.go:187", after := #[{ on := 3, ground := Go.Ground.data }, { on := 6, ground := Go.Ground.data }, { on := 8, ground := Go.Ground.data }, { on := 6, ground := Go.Ground.chain }], guard := none }) rfl (fun K hK => ?_) AllReadyH.nil
  go_simp
  refine (HSE.out _ _ _ I.v I.u (by omega)).mono ?_
  rintro e w11 ⟨rfl, hv11, hk11⟩
  replace I := I.view hv11 hk11
  clear hv11 hk11
  go_wp2_with fail
  refine hK.out _ _ (HS.out _ I.a) (fun hHeld => ?_)
  clear hK K
  try simp only [Act.put, List.setIfInBounds_toArray, List.set_cons_zero, List.set_cons_succ]
  refine wpAnyH_ready (rs := [10]) (by kernel_rfl) (by simp) ?_
  refine AllReadyH.cons (o := { dst := some 46, op := Go.Op.buildSlice 189 2 #[(0, Go.Operand.tmp 38), (1, Go.Operand.tmp 45)], type := 189, pos := "user.go:187", after := #[{ on := 2, ground := Go.Ground.data }, { on := 9, ground := Go.Ground.data }], guard := none }) rfl (fun K hK => ?_) AllReadyH.nil
  go_simp
  refine hK.out _ _ (HS.out _ (I.mods ((Mods.refl _ _).alloc _)).a) (fun hHeld => ?_)
  clear hK K
  try simp only [Act.put, List.setIfInBounds_toArray, List.set_cons_zero, List.set_cons_succ]
  refine wpAnyH_ready (rs := [11]) (by kernel_rfl) (by simp) ?_
  refine AllReadyH.cons (o := { dst := some 47, op := Go.Op.call { callee := Go.Callee.value (Go.Operand.func 93), args := #[Go.Operand.tmp 46], argTypes := #[189] }, type := 22, pos := "user.go:187", after := #[{ on := 10, ground := Go.Ground.data }, { on := 9, ground := Go.Ground.chain }], guard := none }) rfl (fun K hK => ?_) AllReadyH.nil
  go_simp
  refine (uFirst_new _ [_, _] _ _ 2 2 rfl rfl (by simp)).mono ?_
  rintro e w12 ⟨rfl, rfl⟩
  rw [hfe2]
  go_wp2_with fail
  refine hK.out _ _ (HS.out _ (I.mods ((Mods.refl _ _).alloc _)).a) (fun hHeld => ?_)
  clear hK K
  try simp only [Act.put, List.setIfInBounds_toArray, List.set_cons_zero, List.set_cons_succ]
  refine wpAnyH_ready (rs := [12]) (by kernel_rfl) (by simp) ?_
  refine AllReadyH.cons (o := { dst := some 6, op := Go.Op.assign (Go.Operand.tmp 47), type := 22, pos := "user.go:187", after := #[{ on := 11, ground := Go.Ground.data }, { on := 11, ground := Go.Ground.chain }, { on := 0, ground := Go.Ground.phase }, { on := 1, ground := Go.Ground.phase }, { on := 2, ground := Go.Ground.phase }, { on := 3, ground := Go.Ground.phase }, { on := 4, ground := Go.Ground.phase }, { on := 5, ground := Go.Ground.phase }, { on := 6, ground := Go.Ground.phase }, { on := 7, ground := Go.Ground.phase }, { on := 8, ground := Go.Ground.phase }, { on := 9, ground := Go.Ground.phase }, { on := 10, ground := Go.Ground.phase }, { on := 11, ground := Go.Ground.phase }], guard := none }) rfl (fun K hK => ?_) AllReadyH.nil
  go_simp
  refine hK.out _ _ (HS.out _ (I.mods ((Mods.refl _ _).alloc _)).a) (fun hHeld => ?_)
  clear hK K
  try simp only [Act.put, List.setIfInBounds_toArray, List.set_cons_zero, List.set_cons_succ]
  refine wpAnyH_done (by kernel_rfl) ?_ _
  have hk := (I.mods ((Mods.refl [] w11).alloc (.cells #[.int .i64 0, .int .i64 0] 22))).k
  have hv := (I.mods ((Mods.refl [] w11).alloc (.cells #[.int .i64 0, .int .i64 0] 22))).v
  clear I
  go_wp2
  go_ret
  exact ⟨rfl, hv, hk⟩
end Go.Proofs.YtlaihnbappfbfaaGreatDoor
