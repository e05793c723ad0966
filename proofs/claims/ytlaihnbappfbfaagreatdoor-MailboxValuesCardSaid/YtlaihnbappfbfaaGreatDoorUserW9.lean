/- Walks of user: Get of an account that is there. -/
import Derived.Test.YtlaihnbappfbfaaGreatDoorUserW8
namespace Go.Proofs.YtlaihnbappfbfaaGreatDoor
open Go.RowKit

/-- A row is stored into a variable that was just made: the world behind it gets a name. -/
theorem wpList_store_new {P : Program} {ops : Array Oper} {rest : List Oper} {o : Oper} {a : Act} {w0 : World} {Q : Exit → Act → World → Prop} (hgd : o.guard = none) (ty : TypeId) (x y : Operand) (ho : o.op = .store ty x y)
    (cells : Array Value) (hx : a.eval x = .pointer (some ⟨w0.heap.size, 0, none⟩)) (hy : a.eval y = .agg cells)
    (t : TypeId) (old : Array Value) (hi : (P.info? ty).map (·.size) = some cells.size) (hold : old.size = cells.size) (h1 : cells.all (·.oneCell') = true)
    (h : ∀ W4 : World, W4.heap[w0.heap.size]? = some (.cells cells t (0, 0)) → Mods [] w0 W4 → wpList P ops Q rest (a.put o.dst undef) W4) : wpList P ops Q (o :: rest) a (w0.alloc (.cells old t)) :=
  wpList_store_row hgd ty x y ho w0.heap.size cells hx hy t old (heap_alloc_new w0 _) hi hold h1 (h _ (setRow_heap _ _ _ _ _ _ (heap_alloc_new w0 _)) (mods_setRow ((Mods.refl _ _).alloc _) (.inr (Nat.le_refl _))))

/-- What holds between two steps of a reading of the view, with a row of results in block R. -/
structure GeI (w wx : World) (R V n : Nat) (T : TypeId) (sz : Nat) (l : List ChgB) : Prop where
  rb : ∃ z, wx.heap[R]? = some (.cells z T (0, 0)) ∧ z.size = sz
  v : ViewIs wx V n l
  u : Usages wx
  k : Keep (VKeep V) w wx
  lo : w.heap.size ≤ R
  vr : V < R
  g3 : 0 < V
  ne : T ≠ 93
theorem GeI.mods {w wx wy : World} {R V n sz : Nat} {T : TypeId} {l : List ChgB} (h : GeI w wx R V n T sz l) (hm : Mods [] wx wy) : GeI w wy R V n T sz l := by
  obtain ⟨z, h1, h2⟩ := h.rb
  exact ⟨⟨z, hm.heap h1 (by simp), h2⟩, h.v.mods hm, h.u.mods hm (by simp), h.k.trans (Keep.of_mods hm (by simp)), h.lo, h.vr, h.g3, h.ne⟩
theorem GeI.view {w wx wy : World} {R V n n' sz : Nat} {T : TypeId} {l l' : List ChgB} (h : GeI w wx R V n T sz l) (hv : ViewIs wy V n' l') (hk : Keep (VKeep V) wx wy) : GeI w wy R V n' T sz l' := by
  obtain ⟨z, h1, h2⟩ := h.rb
  exact ⟨⟨z, keepV_heap hk (by have := h.vr; omega) h.ne h1, h2⟩, hv, h.u.keepV hk h.g3, h.k.trans hk, h.lo, h.vr, h.g3, h.ne⟩
/-- The results are laid. -/
theorem GeI.out {w wx : World} {R V n sz : Nat} {T : TypeId} {l : List ChgB} (h : GeI w wx R V n T sz l) (c : Array Value) : ViewIs (wx.setRow R c) V n l ∧ Keep (VKeep V) w (wx.setRow R c) := by
  obtain ⟨z, h1, h2⟩ := h.rb
  have hm : Mods [R] wx (wx.setRow R c) := mods_setRow (Mods.refl _ _) (.inl (by simp))
  have hvr := h.vr
  refine ⟨?_, h.k.fresh hm h.lo⟩
  refine h.v.keep (P := fun k o => ¬ (k = R ∧ ∃ c, o = .cells c T (0, 0))) (Keep.of_mods hm (fun k o hkw hP hkA => ?_)) (fun _ e => by omega) (fun k _ _ hk e => by omega) (fun k cur e => ?_) (fun k _ hk e => by omega)
  · have : k = R := by simpa using hkA
    subst this
    exact hP ⟨rfl, _, Option.some.inj (hkw.symm.trans h1)⟩
  · obtain ⟨_, c, e⟩ := e
    simp only [Obj.cells.injEq] at e
    exact h.ne e.2.1.symm

set_option maxRecDepth 100000 in
set_option maxHeartbeats 4000000 in
theorem uGet_ok {w : World} {V n : Nat} {l : List ChgB} (h : ViewIs w V n l) (hu : Usages w) (g3 : 0 < V) (hnn : n < 100000000) (name home enc : ByteArray) (number : Nat) (salt digest : List UInt8) (lk : Bool)
    (hn : name.size ≤ 16) (hh : home.size ≤ 256) (hs : salt.length = 8) (hd : digest.length = 32) (hok : accE name.data.toList number [] home.data.toList = 0) (hnum : number ≤ 65535)
    (hun : uname name.data.toList = 0) (hwd : wordOK name.data.toList = true) (henc : enc.data.toList = encAcc name.data.toList number [] home.data.toList salt digest lk) (hget : getRes l (acct name) = (enc, true)) :
    Calls Tryz.prog 67 #[.pointer (some ⟨V, 0, none⟩), .string name] w
      fun e w' => e = .returned (.tuple #[accVal name number (.slice none 0 0) home salt digest lk, .int .i64 0]) ∧ ViewIs w' V (n + 1) l ∧ Keep (VKeep V) w w' := by
  have hlen := accCells_length (name := name) (number := number) (g := .slice none 0 0) (home := home) (lk := lk) hs hd
  have hcn := fun W => checkName_any name W (by omega)
  simp only [hun] at hcn
  have hoa := fun W => ofAccount_any name W
  have hvg := fun W n (hv : ViewIs W V n l) (hU : Usages W) (hn' : n < 1000000000) => viewGet_any hv (acct name) (acct_fit (by omega)) (acct_ok hwd) hU hn'
  simp only [hget] at hvg
  have hde := fun W => accDecode_ok (w := W) enc name home number salt digest lk hn hh hs hd hok hnum henc
  unfold accVal at *
  obtain ⟨arr, ha⟩ : ∃ a, accCells name number (.slice none 0 0) home salt digest lk = a := ⟨_, rfl⟩
  have q0 : arr[0]? = some (.string name) := by rw [← ha]; rfl
  have hone : Hid (arr.toArray.all (·.oneCell') = true) := by show _ = _; rw [← ha]; exact accCells_one _ _ _ _ _ _ _ _ _
  rw [ha] at hlen ⊢
  simp only [ha] at hde
  have hsz : Hid ((Tryz.prog.info? 116).map (·.size) = some arr.toArray.size) := by show _ = _; rw [List.size_toArray, hlen]; kernel_rfl
  have h45 : Hid (45 = arr.toArray.size) := by show _ = _; rw [List.size_toArray, hlen]
  generalize (acct name).val = av1 at *
  have HVG := Lib.hid hvg
  have HDE := Lib.hid hde
  have HV := Lib.hid h
  have HU := Lib.hid hu
  have HQ := Lib.hid q0
  have hfe : firstE [0, whenF false 3] = 0 := rfl
  clear hvg hde h hu hget hok hwd hun henc ha q0
  go_enter Tryz.func67, Tryz.ntmps67
  go_wp2_with (go_at_call 17; refine (hcn _).mono ?_; rintro e w1 ⟨rfl, rfl⟩)
  have I0 : ∀ z : Array Value, z.size = 45 → GeI w (w.alloc (.cells z 116)) w.heap.size V n 116 45 l := fun z hz =>
    have hm : Mods [] w (w.alloc (.cells z 116)) := (Mods.refl _ _).alloc _
    ⟨⟨z, heap_alloc_new w _, hz⟩, HV.out.mods hm, HU.out.mods hm (by simp), Keep.of_mods hm (by simp), Nat.le_refl _, HV.out.lt, g3, by decide⟩
  refine (hoa _).mono ?_
  rintro e w1 ⟨rfl, hm1⟩
  have I := (I0 _ rfl).mods hm1
  clear I0 hm1
  go_wp2_with (go_at_call 102; refine (HVG.out _ _ I.v I.u (by omega)).mono ?_; rintro e w2 ⟨rfl, hv2, hk2⟩; replace I := I.view hv2 hk2)
  refine (HDE.out _).mono ?_
  rintro e w3 ⟨rfl, hm3⟩
  replace I := I.mods hm3
  clear hv2 hk2 hm3
  have HI := Lib.hid I
  clear I
  go_wp2_with (first
    | (refine wpList_store_new rfl 116 _ _ rfl _ rfl rfl 116 _ hsz.out h45.out hone.out ?_; intro W4 hA4 hm4; have c4 : W4.cell? ⟨w3.heap.size, 0, none⟩ = some (.string name) := (cell_of_heap hA4 0).trans (by rw [List.getElem?_toArray]; exact HQ.out))
    | (go_at_call 95; refine (when_any _ _ _).mono ?_; rintro e w5 ⟨rfl, rfl⟩)
    | (go_at_call 93; refine (uFirst_new _ [_, _] _ _ 2 2 rfl rfl (by simp)).mono ?_; rintro e w6 ⟨rfl, hw6⟩; have hm6 : Mods [] W4 w6 := (by rw [← hw6]; exact (Mods.refl _ _).alloc _); clear hw6; have hA6 := hm6.heap hA4 (by simp); clear c4 hA4; have J := (HI.out.mods hm4).mods hm6; obtain ⟨z, hz, hzs⟩ := J.rb; have hzz : z.size = arr.toArray.size := (by rw [hzs]; exact h45.out))
    | (refine wpList_load_row rfl 116 _ rfl w3.heap.size rfl _ _ _ _ hA6 Tryz.underlying116 rfl hsz.out ?_)
    | (refine wpList_store_row rfl 116 _ _ rfl w.heap.size _ rfl rfl _ _ hz hsz.out hzz hone.out ?_))
  refine bodyPost_ret (results_cell_tmp Tryz.results67 _ _ w.heap.size _ _ _ _ rfl (setRow_heap _ _ _ _ _ _ hz) Tryz.underlying116 rfl hsz.out) rfl ⟨rfl, ?_⟩
  exact J.out _
end Go.Proofs.YtlaihnbappfbfaaGreatDoor
