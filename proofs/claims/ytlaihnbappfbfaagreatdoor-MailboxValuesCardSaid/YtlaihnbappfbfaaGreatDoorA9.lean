/- Walks of user: numbered, put, Create, Get (accounts without groups). Walks of user: put. -/
import Derived.Test.YtlaihnbappfbfaaGreatDoorUserW5
import Derived.Test.YtlaihnbappfbfaaGreatDoorA8
namespace Go.Proofs.YtlaihnbappfbfaaGreatDoor
open Go.RowKit

theorem nameVal_one (m : NameB) : ∃ c : Array Value, m.val = .agg c ∧ c.size = 5 ∧ c.all (·.oneCell') = true :=
  ⟨#[.int .i64 m.k, .string m.o, .int .i64 m.n, .int .i64 m.i, .string m.t], rfl, rfl, all_oneCell_toArray (cs := [.int .i64 m.k, .string m.o, .int .i64 m.n, .int .i64 m.i, .string m.t]) (fun v hv => by
    simp at hv
    rcases hv with rfl | rfl | rfl | rfl | rfl <;> rfl)⟩
/-- The text of the object of a number. -/
def numT (n : Nat) : ByteArray := ⟨#[35]⟩ ++ ⟨(Lib.decDigits n).toArray⟩
set_option maxRecDepth 100000 in
theorem numbered_any (n : Nat) (hn : n < 100) (hdl : (Lib.decDigits n).length ≤ 100) (w : World) : Calls Tryz.prog 97 #[.int .i64 n] w fun e w' => e = .returned (acct (numT n)).val ∧ Mods [] w w' := by
  have hit := fun W => Tryz.strconv_Itoa_small n hn W
  have hoa := fun W => ofAccount_any (numT n) W
  obtain ⟨c, hc, hcs, hc1⟩ := nameVal_one (acct (numT n))
  rw [hc] at hoa ⊢
  have H0 := heap_alloc_new w (.cells #[.int .i64 0, .string ⟨#[]⟩, .int .i64 0, .int .i64 0, .string ⟨#[]⟩] 80)
  have hM0 : Mods [] w (w.alloc (.cells #[.int .i64 0, .string ⟨#[]⟩, .int .i64 0, .int .i64 0, .string ⟨#[]⟩] 80)) := (Mods.refl _ _).alloc _
  have hinf : Hid ((Tryz.prog.info? 80).map (·.size) = some c.size) := by show _ = _; rw [hcs]; kernel_rfl
  have hnt : (⟨#[35]⟩ : ByteArray) ++ ⟨(Lib.decDigits n).toArray⟩ = numT n := rfl
  have hds : (⟨(Lib.decDigits n).toArray⟩ : ByteArray).size ≤ 100 := by
    simpa [ByteArray.size] using hdl
  generalize numT n = T at *
  generalize (⟨(Lib.decDigits n).toArray⟩ : ByteArray) = D at *
  have HH := Lib.hid H0
  have HM := Lib.hid hM0
  have HC1 := Lib.hid hc1
  have HCS := Lib.hid hcs
  clear H0 hM0 hc1 hcs hc
  go_enter Tryz.func97, Tryz.ntmps97
  go_wp2_with (first
    | (go_at_call 124; refine (hit _).mono ?_; rintro e w1 ⟨rfl, rfl⟩)
    | (go_at_call 44; refine (hoa _).mono ?_; rintro e w2 ⟨rfl, hm2⟩; have h2 := hm2.heap HH.out (by simp))
    | (refine wpList_store_row rfl 80 _ _ rfl w.heap.size _ rfl rfl _ _ h2 hinf.out HCS.out.symm HC1.out ?_))
  refine bodyPost_ret (results_cell_row Tryz.results97 _ _ w.heap.size _ _ _ _ rfl (setRow_heap _ _ _ _ _ _ h2) Tryz.underlying80 rfl hinf.out) rfl ⟨rfl, ?_⟩
  exact mods_setRow (HM.out.trans' hm2) (.inr (Nat.le_refl _))
end Go.Proofs.YtlaihnbappfbfaaGreatDoor

namespace Go.Proofs.YtlaihnbappfbfaaGreatDoor
open Go.RowKit

/-- The cells of blocks below the view stay. -/
theorem keepV_cell {V : Nat} {w w' : World} (h : Keep (VKeep V) w w') {k i : Nat} {v : Value} (hk : k < V) (hc : w.cell? ⟨k, i, none⟩ = some v) : w'.cell? ⟨k, i, none⟩ = some v := by
  have hlt := lt_of_cell hc
  have hs : w.heap[k]? = some w.heap[k] := Array.getElem?_eq_getElem hlt
  rw [h.cell hs ⟨by omega, .inr fun es c e => ?_, .inl (by omega)⟩]
  · exact hc
  · rw [e] at hs
    simp [World.cell?, hs] at hc
/-- Blocks of cells that are neither the view nor its list stay. -/
theorem keepV_heap {V : Nat} {w w' : World} (h : Keep (VKeep V) w w') {k : Nat} {c : Array Value} {t : TypeId} {fz : Nat × Nat} (hk : k ≠ V) (ht : t ≠ 93) (hc : w.heap[k]? = some (.cells c t fz)) : w'.heap[k]? = some (.cells c t fz) :=
  h.block _ _ hc ⟨hk, .inr fun _ _ e => (by cases e), .inr (fun _ e => by cases e; exact ht rfl)⟩
theorem ShaTab.keepV {V : Nat} {w w' : World} (h : ShaTab w) (hk : Keep (VKeep V) w w') (h1 : 3 < V) (h2 : 2 < V) : ShaTab w' :=
  ⟨fun i hi => keepV_cell hk h1 (h.1 i hi), fun i hi => keepV_cell hk h2 (h.2 i hi)⟩

set_option maxRecDepth 100000 in
set_option maxHeartbeats 1000000 in
theorem put_ok {w : World} {V n : Nat} {l : List ChgB} (h : ViewIs w V n l) (hu : Usages w) (hnn : n < 1000000000) (name home : ByteArray) (number : Nat) {g : Value} {groups : List Int} (salt digest : List UInt8) (lk : Bool) (hg : IntsAt w g groups) (hn : name.size ≤ 1000000) (hh : home.size ≤ 1000000) (hs : salt.length = 8) (hd : digest.length = 32)
    (hok : accE name.data.toList number groups home.data.toList = 0) (hnum : number ≤ 65535) (hgl : groups.length ≤ 8) (hgs : ∀ x ∈ groups, 0 ≤ x ∧ x ≤ 65535)
    (hwd : wordOK name.data.toList = true) (hle : (encAcc name.data.toList number groups home.data.toList salt digest lk).length ≤ 65536) :
    Calls Tryz.prog 99 #[.pointer (some ⟨V, 0, none⟩), accVal name number g home salt digest lk] w
      fun e w' => e = .returned (.int .i64 0) ∧ ViewIs w' V (n + 1) (l ++ [⟨acct name, ⟨(encAcc name.data.toList number groups home.data.toList salt digest lk).toArray⟩, false⟩]) ∧ Keep (VKeep V) w w' := by
  have hlen := accCells_length (name := name) (number := number) (g := g) (home := home) (lk := lk) hs hd
  have hen := fun W (hW : Mods [] w W) => accEncode_ok (w := W) name home number salt digest lk (hg.keep hW) hn hh hs hd hok hnum hgl hgs
  have hoa := fun W => ofAccount_any name W
  unfold accVal at *
  obtain ⟨arr, harr⟩ : ∃ arr, accCells name number g home salt digest lk = arr := ⟨_, rfl⟩
  have q0 : arr[0]? = some (.string name) := by rw [← harr]; rfl
  rw [harr] at hlen hen ⊢
  obtain ⟨enc, henc⟩ : ∃ enc : ByteArray, ⟨(encAcc name.data.toList number groups home.data.toList salt digest lk).toArray⟩ = enc := ⟨_, rfl⟩
  have hes : enc.size ≤ 65536 := by rw [← henc]; simpa [ByteArray.size] using hle
  rw [henc] at hen ⊢
  have hset := fun W (hW : ViewIs W V n l) (hU : Usages W) => viewSet_any hW (acct name) enc hes (acct_fit hn) (acct_ok hwd) hU hnn
  have hsz : Hid ((Tryz.prog.info? 116).map (·.size) = some arr.toArray.size) := by show _ = _; rw [List.size_toArray, hlen]; kernel_rfl
  have hM0 : Mods [] w (w.alloc (.cells arr.toArray 116)) := (Mods.refl _ _).alloc _
  have hA0 := heap_alloc_new w (.cells arr.toArray 116)
  have HQ : Hid (∀ (wx : World), wx.heap[w.heap.size]? = some (.cells arr.toArray 116 (0, 0)) → wx.cell? ⟨w.heap.size, 0, none⟩ = some (.string name)) := by
    show ∀ _, _
    exact fun wx h => (cell_of_heap h 0).trans (by simpa using q0)
  have HM0 := Lib.hid hM0
  have HA0 := Lib.hid hA0
  have HV := Lib.hid h
  have HU := Lib.hid hu
  have HEN := Lib.hid hen
  have HSET := Lib.hid hset
  generalize hac : (acct name).val = acv at *
  clear hM0 hA0 h hu hen hset hg hok hgs harr q0 hwd henc hac
  go_enter Tryz.func99, Tryz.ntmps99
  go_wp2_with (first
    | (refine wpList_load_row rfl 116 _ rfl w.heap.size rfl _ _ _ _ HA0.out Tryz.underlying116 rfl hsz.out ?_)
    | (go_at_call 126; refine (HEN.out _ HM0.out).mono ?_; rintro e w1 ⟨rfl, hm1⟩; have hA1 := hm1.heap HA0.out (by simp); have hM1 := HM0.out.trans' hm1; have c1 := HQ.out _ hA1)
    | (go_at_call 44; refine (hoa _).mono ?_; rintro e w2 ⟨rfl, hm2⟩; have hM2 := hM1.trans' hm2)
    | (go_at_call 35; refine (HSET.out _ (HV.out.mods hM2) (HU.out.mods hM2 (by simp))).mono ?_; rintro e w3 ⟨rfl, hv3, hk3⟩))
  go_ret
  exact ⟨rfl, hv3, (Keep.of_mods hM2 (by simp)).trans hk3⟩
end Go.Proofs.YtlaihnbappfbfaaGreatDoor
