/- Walks of the law's package: begin. Walks of the law's package: known. -/
import Derived.Test.YtlaihnbappfbfaaGreatDoorBoxW9
namespace Go.Proofs.YtlaihnbappfbfaaGreatDoor
open Go.RowKit

def sAnn : ByteArray := ⟨#[97, 110, 110]⟩
def sBob : ByteArray := ⟨#[98, 111, 98]⟩
theorem dd5 : Lib.decDigits 5 = [53] := by unfold Lib.decDigits; rfl
theorem dd6 : Lib.decDigits 6 = [54] := by unfold Lib.decDigits; rfl
theorem numT5 : numT 5 = ⟨#[35, 53]⟩ := by unfold numT; rw [dd5]; rfl
theorem numT6 : numT 6 = ⟨#[35, 54]⟩ := by unfold numT; rw [dd6]; rfl
theorem acct_inj {a b : ByteArray} : (acct a = acct b) = (a = b) := by simp [acct]
theorem boxN_inj {a b : ByteArray} : (boxN a = boxN b) = (a = b) := by simp [boxN]
theorem acct_box {a b : ByteArray} : (acct a = boxN b) = False := by simp [acct, boxN]
theorem box_acct {a b : ByteArray} : (boxN a = acct b) = False := by simp [acct, boxN]
def z8 : List UInt8 := List.replicate 8 0
def z32 : List UInt8 := List.replicate 32 0
/-- The encoding of an account of the examples. -/
def encEx (nm : ByteArray) (k : Nat) (d : List UInt8) : ByteArray := ⟨(encAcc nm.data.toList k [] [] z8 d false).toArray⟩
theorem encEx_len (nm : ByteArray) (k : Nat) (d : List UInt8) (hn : nm.size ≤ 16) (hk : k ≤ 65535) (hd : d.length = 32) : (encAcc nm.data.toList k [] [] z8 d false).length ≤ 65536 := by
  have hl := slen nm
  have h1 := encNat_length_u64 k (by omega)
  have h2 := encNat_length_u64 nm.data.toList.length (by omega)
  have h3 := encNat_length_u64 0 (by omega)
  have h4 := encNat_length_u64 z8.length (by decide)
  have h5 := encNat_length_u64 d.length (by omega)
  have h6 : z8.length = 8 := rfl
  simp only [encAcc, encText, encFlag, List.length_append, List.flatMap_nil, List.length_nil, List.length_singleton]; omega
/-- The calls of begin. -/
def accs (d1 d2 : List UInt8) : List ChgB := [⟨acct sAnn, encEx sAnn 5 d1, false⟩, ⟨acct (numT 5), sAnn, false⟩, ⟨acct sBob, encEx sBob 6 d2, false⟩, ⟨acct (numT 6), sBob, false⟩]
theorem lastCall_app (l r : List ChgB) (m : NameB) (h : ∀ c ∈ r, c.name ≠ m) : lastCall (l ++ r) m = lastCall l m := by
  unfold lastCall
  rw [List.reverse_append, List.find?_append]
  have : r.reverse.find? (fun c => decide (c.name = m)) = none := by
    rw [List.find?_eq_none]
    intro c hc
    simpa using h c (by simpa using hc)
  rw [this]; rfl
theorem keepV_mods {V : Nat} {w w1 w2 : World} (h : Mods [] w w1) (hk : Keep (VKeep V) w1 w2) (hV : w.heap.size + 2 < V + 1) : Mods [] w w2 :=
  ⟨hk.os.trans h.os, hk.tape.trans h.tape, hk.output.trans h.output, Nat.le_trans h.size hk.size, fun i hi _ => by
    have hs : w.heap[i]? = some w.heap[i] := Array.getElem?_eq_getElem hi
    rw [hk.block i _ (h.heap hs (by simp)) ⟨by omega, .inl (by omega), .inl (by omega)⟩, hs]⟩
theorem accAnn : accVal sAnn ((5 : Nat) : Int) (.slice none 0 0) ⟨#[]⟩ z8 z32 false = .agg #[.string sAnn, .int .i64 5, .slice none 0 0, .string ⟨#[]⟩, .int .u8 0, .int .u8 0, .int .u8 0, .int .u8 0, .int .u8 0, .int .u8 0, .int .u8 0, .int .u8 0, .int .u8 0, .int .u8 0, .int .u8 0, .int .u8 0, .int .u8 0, .int .u8 0, .int .u8 0, .int .u8 0, .int .u8 0, .int .u8 0, .int .u8 0, .int .u8 0, .int .u8 0, .int .u8 0, .int .u8 0, .int .u8 0, .int .u8 0, .int .u8 0, .int .u8 0, .int .u8 0, .int .u8 0, .int .u8 0, .int .u8 0, .int .u8 0, .int .u8 0, .int .u8 0, .int .u8 0, .int .u8 0, .int .u8 0, .int .u8 0, .int .u8 0, .int .u8 0, .bool false] := by rfl
theorem accBob : accVal sBob ((6 : Nat) : Int) (.slice none 0 0) ⟨#[]⟩ z8 z32 false = .agg #[.string sBob, .int .i64 6, .slice none 0 0, .string ⟨#[]⟩, .int .u8 0, .int .u8 0, .int .u8 0, .int .u8 0, .int .u8 0, .int .u8 0, .int .u8 0, .int .u8 0, .int .u8 0, .int .u8 0, .int .u8 0, .int .u8 0, .int .u8 0, .int .u8 0, .int .u8 0, .int .u8 0, .int .u8 0, .int .u8 0, .int .u8 0, .int .u8 0, .int .u8 0, .int .u8 0, .int .u8 0, .int .u8 0, .int .u8 0, .int .u8 0, .int .u8 0, .int .u8 0, .int .u8 0, .int .u8 0, .int .u8 0, .int .u8 0, .int .u8 0, .int .u8 0, .int .u8 0, .int .u8 0, .int .u8 0, .int .u8 0, .int .u8 0, .int .u8 0, .bool false] := by rfl

/-- What begin answers. -/
def BeginPost (w : World) (e : Ending) (w' : World) : Prop :=
  ∃ V d1 d2, e = .returned (.tuple #[.pointer (some ⟨V, 0, none⟩), .bool true]) ∧ ViewIs w' V 8 (accs d1 d2) ∧ d1.length = 32 ∧ d2.length = 32 ∧ w.heap.size + 3 ≤ V ∧ Mods [] w w'

set_option maxRecDepth 100000 in
set_option maxHeartbeats 1000000 in
theorem begin_any {w : World} (hu : Usages w) (hsh : ShaTab w) : Calls Tryz.prog 28 #[] w (BeginPost w) := by
  obtain ⟨d1, hd1⟩ : ∃ d, shaSmall (z8 ++ (⟨#[97]⟩ : ByteArray).data.toList) = d := ⟨_, rfl⟩
  obtain ⟨d2, hd2⟩ : ∃ d, shaSmall (z8 ++ (⟨#[98]⟩ : ByteArray).data.toList) = d := ⟨_, rfl⟩
  have hl1 : d1.length = 32 := by rw [← hd1]; exact digN_length _ _
  have hl2 : d2.length = 32 := by rw [← hd2]; exact digN_length _ _
  have g1 : 3 < w.heap.size := lt_of_cell (hsh.1 0 (by omega))
  have g2 : 2 < w.heap.size := lt_of_cell (hsh.2 0 (by omega))
  have g3 : 0 < w.heap.size := lt_of_cell (hu 0 0 (by omega) (by decide))
  have hc1 := fun W V (hV : w.heap.size ≤ V) (hv : ViewIs W V 0 []) (hU : Usages W) (hS : ShaTab W) => create_ok (w := W) hv hU hS (by omega) (by omega) (by omega) (by omega) sAnn ⟨#[97]⟩ 5 z8 z32 d1 rfl rfl hd1 (by decide) (by decide) (by decide) (by omega) (by rw [dd5]; decide) (by rw [numT5]; decide) (by decide) (encEx_len sAnn 5 d1 (by decide) (by omega) hl1) rfl rfl
  have hc2 := fun W V (hV : w.heap.size ≤ V) (hv : ViewIs W V 4 [⟨acct sAnn, encEx sAnn 5 d1, false⟩, ⟨acct (numT 5), sAnn, false⟩]) (hU : Usages W) (hS : ShaTab W) => create_ok (w := W) hv hU hS (by omega) (by omega) (by omega) (by omega) sBob ⟨#[98]⟩ 6 z8 z32 d2 rfl rfl hd2 (by decide) (by decide) (by decide) (by omega) (by rw [dd6]; decide) (by rw [numT6]; decide) (by decide) (encEx_len sBob 6 d2 (by decide) (by omega) hl2)
    (by unfold getRes; rw [show lastCall [⟨acct sAnn, encEx sAnn 5 d1, false⟩, ⟨acct (numT 5), sAnn, false⟩] (acct sBob) = none from lastCall_app [] _ _ (by intro c hc; simp only [List.mem_cons, List.not_mem_nil, or_false] at hc; rcases hc with rfl | rfl <;> simp only [ne_eq, acct_inj, numT5] <;> decide)])
    (by unfold getRes; rw [show lastCall [⟨acct sAnn, encEx sAnn 5 d1, false⟩, ⟨acct (numT 5), sAnn, false⟩] (acct (numT 6)) = none from lastCall_app [] _ _ (by intro c hc; simp only [List.mem_cons, List.not_mem_nil, or_false] at hc; rcases hc with rfl | rfl <;> simp only [ne_eq, acct_inj, numT5, numT6] <;> decide)])
  rw [accAnn] at hc1
  rw [accBob] at hc2
  have HU := Lib.hid hu
  have HS := Lib.hid hsh
  have HC1 := Lib.hid hc1
  have HC2 := Lib.hid hc2
  have HA := fun W V => viewNew_any (w := W) (S := V)
  clear hc1 hc2 hu hsh hd1 hd2
  go_enter Tryz.func28, Tryz.ntmps28
  go_wp2_with fail
  refine (stateNew_any _).mono ?_
  rintro e w1 ⟨rfl, rfl⟩
  have hM1 : Mods [] w (w.alloc (.cells #[.pointer none] 159)) := (Mods.refl _ _).alloc _
  go_wp2_with fail
  refine (viewNew_any (heap_alloc_new w _)).mono ?_
  obtain ⟨V, hV⟩ : ∃ V, (w.alloc (.cells #[.pointer none] 159)).heap.size + 2 = V := ⟨_, rfl⟩
  have hV3 : w.heap.size + 3 ≤ V := by rw [← hV, World.size_alloc]; omega
  rw [hV]
  rintro e w2 ⟨rfl, hv2, hm2⟩
  have hM2 := hM1.trans' hm2
  clear hV hM1 hm2
  go_wp2_with fail
  refine (HC1.out w2 V (by omega) hv2 (HU.out.mods hM2 (by simp)) (HS.out.keep hM2)).mono ?_
  rintro e w3 ⟨rfl, hv3, hk3⟩
  have hM3 := keepV_mods hM2 hk3 (by omega)
  clear hk3 hv2 hM2
  go_wp2_with fail
  refine (HC2.out w3 V (by omega) hv3 (HU.out.mods hM3 (by simp)) (HS.out.keep hM3)).mono ?_
  rintro e w4 ⟨rfl, hv4, hk4⟩
  have hM4 := Lib.hid (keepV_mods hM3 hk4 (by omega))
  have HV := Lib.hid hv4
  clear hk4 hv3 hM3 hv4
  go_wp2
  go_ret2
  exact ⟨V, d1, d2, rfl, HV.out, hl1, hl2, hV3, hM4.out⟩
end Go.Proofs.YtlaihnbappfbfaaGreatDoor

namespace Go.Proofs.YtlaihnbappfbfaaGreatDoor
open Go.RowKit

theorem getRes_hit {l r : List ChgB} {c : ChgB} {m : NameB} (hc : c.name = m) (h : ∀ x ∈ r, x.name ≠ m) : getRes (l ++ c :: r) m = (c.value, !c.absent) := by
  unfold getRes
  have e : l ++ c :: r = (l ++ [c]) ++ r := by simp
  rw [e, lastCall_app _ _ _ h, lastCall_snoc, if_pos hc]
theorem getRes_miss {l : List ChgB} {m : NameB} (h : ∀ x ∈ l, x.name ≠ m) : getRes l m = (⟨#[]⟩, false) := by
  unfold getRes
  have := lastCall_app [] l m h
  rw [List.nil_append] at this
  rw [this, lastCall_nil]
theorem acc_ann (d1 d2 : List UInt8) : getRes (accs d1 d2) (acct sAnn) = (encEx sAnn 5 d1, true) :=
  getRes_hit (l := []) rfl (by intro c hc; simp only [List.mem_cons, List.not_mem_nil, or_false] at hc; rcases hc with rfl | rfl | rfl <;> simp only [ne_eq, acct_inj, numT5, numT6] <;> decide)
theorem acc_bob (d1 d2 : List UInt8) : getRes (accs d1 d2) (acct sBob) = (encEx sBob 6 d2, true) :=
  getRes_hit (l := [_, _]) rfl (by intro c hc; simp only [List.mem_cons, List.not_mem_nil, or_false] at hc; rcases hc with rfl; simp only [ne_eq, acct_inj, numT6]; decide)
theorem acc_box (d1 d2 : List UInt8) (t : ByteArray) : getRes (accs d1 d2) (boxN t) = (⟨#[]⟩, false) :=
  getRes_miss (by intro c hc; simp only [accs, List.mem_cons, List.not_mem_nil, or_false] at hc; rcases hc with rfl | rfl | rfl | rfl <;> simp [acct_box])
/-- Get of an account of the examples. -/
theorem uGet_ex {w : World} {V n : Nat} {l : List ChgB} {ml : Int} (h : ViewIs w V n l) (G : Glob w V ml) (hn : n < 100000000) (nm : ByteArray) (k : Nat) (d : List UInt8) (hd : d.length = 32) (hnm : unameOK nm.data.toList = true) (hk : k ≤ 65535)
    (hok : accE nm.data.toList k [] [] = 0) (hget : getRes l (acct nm) = (encEx nm k d, true)) :
    Calls Tryz.prog 67 #[.pointer (some ⟨V, 0, none⟩), .string nm] w
      fun e w' => e = .returned (.tuple #[.agg (accCells nm k (.slice none 0 0) ⟨#[]⟩ z8 d false).toArray, .int .i64 0]) ∧ ViewIs w' V (n + 1) l ∧ Keep (VKeep V) w w' :=
  uGet_ok h G.u G.g0 hn nm ⟨#[]⟩ (encEx nm k d) k z8 d false (size_of_uname hnm) (by decide) rfl hd hok hk (uname_zero hnm) (wordOK_of_uname hnm) rfl hget

def sBobx : ByteArray := ⟨#[98, 111, 98, 64, 120]⟩
def sHi : ByteArray := ⟨#[104, 105]⟩
def boxEx : BoxV := boxPlus ⟨0, []⟩ sBobx.data.toList 5 sHi.data.toList
theorem boxEx_ok : boxE boxEx = 0 := by decide

theorem strEq (S : ByteArray) (l : List UInt8) (h : S = ⟨l.toArray⟩) : S.toList = l := by subst h; rw [ByteArray.toList_eq]

set_option maxRecDepth 100000 in
set_option maxHeartbeats 2000000 in
theorem known_any {w : World} (hu : Usages w) (hsh : ShaTab w) (ml : Int) (hm : w.cell? ⟨1, 0, none⟩ = some (.int .i64 ml)) :
    Calls Tryz.prog 15 #[] w fun e w' => e = .returned (.bool true) ∧ Mods [] w w' := by
  have hbg := begin_any hu hsh
  have g0 : 0 < w.heap.size := lt_of_cell (hu 0 0 (by omega) (by decide))
  have g1 : 1 < w.heap.size := lt_of_cell hm
  have hdl := fun W V d1 d2 (hv : ViewIs W V 8 (accs d1 d2)) (hd1 : d1.length = 32) (hG : Glob W V ml) => deliver_ok (w := W) hv hG (by omega) sAnn sBobx sHi 5 (by decide) (by decide) (accCells sAnn ((5 : Nat) : Int) (.slice none 0 0) ⟨#[]⟩ z8 d1 false) (accCells_length rfl hd1) (accCells_one _ _ _ _ _ _ _ _ _)
    (fun W n' hv hG hn => uGet_ex hv hG hn sAnn 5 d1 hd1 (by decide) (by omega) (by decide) (acc_ann d1 d2)) (by decide) (b := ⟨0, []⟩) (by unfold boxOf; rw [acc_box]; rfl) (by decide) (by decide) (by decide) boxEx_ok
  have hbx : ∀ d1 d2, boxGet (accs d1 d2 ++ [⟨boxN sAnn, ⟨(encBox boxEx).toArray⟩, false⟩]) sAnn = (some boxEx, 0) := by
    intro d1 d2
    have e : boxOf (accs d1 d2 ++ [⟨boxN sAnn, ⟨(encBox boxEx).toArray⟩, false⟩]) sAnn = some boxEx := by
      unfold boxOf
      rw [getRes_hit (r := []) rfl (by simp)]
      exact decBox_fwd (by decide) (by decide) boxEx_ok
    unfold boxGet
    rw [if_neg (by decide), e]; rfl
  have hrm := fun W V d1 d2 (hv : ViewIs W V 11 (accs d1 d2 ++ [⟨boxN sAnn, ⟨(encBox boxEx).toArray⟩, false⟩])) (hG : Glob W V ml) => boxReadM_any (w := W) hv hG (by omega) sAnn (by decide) 0 (fun b hb => by rw [hbx] at hb; obtain rfl := Option.some.inj hb; exact boxEx_ok) (fun _ => ⟨by decide, by decide⟩)
  simp only [hbx] at hrm
  have hrr : ∀ l, readRes sAnn l (some boxEx, 0) 0 = (⟨0, sBobx.data.toList, 5, sHi.data.toList, false⟩, 0, 2, l ++ [⟨boxN sAnn, ⟨(encBox (markSeen boxEx 0)).toArray⟩, false⟩]) := fun l => rfl
  simp only [hrr] at hrm
  have hsp := fun W (hW : Mods [] w W) => split_any sBobx ml W (by decide) (hW.keep hm)
  rw [show splitF sBobx.data.toList = ([98, 111, 98], [120], 0) by decide] at hsp
  unfold splitVal at hsp
  simp only at hsp
  have HB := Lib.hid hbg
  have HD := Lib.hid hdl
  have HR := Lib.hid hrm
  have HS := Lib.hid hsp
  have HG := fun W V (hW : Mods [] w W) (hV : w.heap.size + 3 ≤ V) => (⟨hu.mods hW (by simp), hW.keep hm, by omega, by omega⟩ : Glob W V ml)
  have HGL := Lib.hid HG
  clear hbg hdl hrm hsp HG hu hsh hm hbx hrr
  go_enter Tryz.func15, Tryz.ntmps15
  go_wp2_with fail
  refine HB.out.mono ?_
  rintro e w1 ⟨V, d1, d2, rfl, hv1, hd1, hd2, hV, hm1⟩
  go_wp2_with fail
  refine (HD.out w1 V d1 d2 hv1 hd1 (HGL.out _ _ hm1 hV)).mono ?_
  rintro e w2 ⟨rfl, hv2, hk2⟩
  have hm2 := keepV_mods hm1 hk2 (by omega)
  clear hv1 hk2 hm1
  go_wp2_with fail
  refine (HR.out w2 V d1 d2 hv2 (HGL.out _ _ hm2 hV)).mono ?_
  rintro e w3 ⟨he, hv3, hk3⟩
  have hm3 := keepV_mods hm2 hk3 (by omega)
  clear hv2 hk3 hm2 hv3
  obtain ⟨S, hS⟩ : ∃ S : ByteArray, sBobx = S := ⟨_, rfl⟩
  obtain ⟨T, hT⟩ : ∃ T : ByteArray, sHi = T := ⟨_, rfl⟩
  obtain ⟨U, hU⟩ : ∃ U : ByteArray, (⟨#[98, 111, 98]⟩ : ByteArray) = U := ⟨_, rfl⟩
  obtain ⟨X, hX⟩ : ∃ X : ByteArray, (⟨#[120]⟩ : ByteArray) = X := ⟨_, rfl⟩
  replace he : e = .returned (.tuple #[.agg #[.int .i64 0, .string S, .int .i64 5, .string T, .bool false], .int .i64 0]) := he.trans (by rw [← hS, ← hT]; rfl)
  subst he
  have hsp := fun W (hW : Mods [] w W) => HS.out W hW
  rw [show (⟨[98, 111, 98].toArray⟩ : ByteArray) = U from hU, show (⟨[120].toArray⟩ : ByteArray) = X from hX] at hsp
  have HS2 : Hid (∀ W, Mods [] w W → Calls Tryz.prog 13 #[.string ⟨#[98, 111, 98, 64, 120]⟩] W fun e w' => e = .returned (.tuple #[.string U, .string X, .int .i64 0]) ∧ ∃ n, w' = W.drewN n) := hsp
  have bS : (S.toList == [98, 111, 98, 64, 120]) = true := by rw [strEq S [98, 111, 98, 64, 120] hS.symm]; rfl
  have bT : (T.toList == [104, 105]) = true := by rw [strEq T [104, 105] hT.symm]; rfl
  have bU : (U.toList == [98, 111, 98]) = true := by rw [strEq U [98, 111, 98] hU.symm]; rfl
  have bX : (X.toList == [120]) = true := by rw [strEq X [120] hX.symm]; rfl
  have HM3 := Lib.hid hm3
  clear hS hT hU hX hsp hm3
  go_wp2_with fail
  refine (HS2.out _ (HM3.out.alloc _)).mono ?_
  rintro e w4 ⟨rfl, k4, rfl⟩
  go_wp2
  go_ret
  exact ⟨rfl, (HM3.out.alloc _).drewN _⟩
end Go.Proofs.YtlaihnbappfbfaaGreatDoor
