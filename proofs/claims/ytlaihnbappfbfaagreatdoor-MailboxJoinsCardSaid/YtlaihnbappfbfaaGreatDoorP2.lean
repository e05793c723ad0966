/- The statement MailboxJoins: its walk. The row of MailboxJoins, and its card. -/
import Derived.Test.YtlaihnbappfbfaaGreatDoorK1
import Derived.Test.YtlaihnbappfbfaaGreatDoorRowK
import Derived.Test.YtlaihnbappfbfaaGreatDoorL1
namespace Go.Proofs.YtlaihnbappfbfaaGreatDoor
open Go.RowKit

set_option maxRecDepth 100000 in
set_option maxHeartbeats 4000000 in
theorem mailboxJoins_any (s t : ByteArray) {w : World} (hu : Usages w) (hsh : ShaTab w) (ml : Int) (hm : w.cell? ⟨1, 0, none⟩ = some (.int .i64 ml)) (hs : s.size ≤ 9223372036854775807) (ht : t.size ≤ 9223372036854775807) :
    Calls Tryz.prog 4 #[.string s, .string t] w fun e w' => e = .returned (.bool true) ∧ Mods [] w w' := by
  have hk := fun W (hW : Mods [] w W) => known_any (w := W) (hu.mods hW (by simp)) (hsh.keep hW) ml (hW.keep hm)
  have HK := Lib.hid hk
  have HMC := Lib.hid hm
  have hsz : (s.extract 0 (min (s.size : Int) 40).toNat).size ≤ 40 := by rw [ByteArray.size_extract]; omega
  have htz : (t.extract 0 (min (t.size : Int) 40).toNat).size ≤ 40 := by rw [ByteArray.size_extract]; omega
  clear hk hu hsh hm
  go_enter Tryz.func4, Tryz.ntmps4
  go_wp2
  go_quiet (fail)
  go_wp2_with fail
  generalize s.extract 0 (min (s.size : Int) 40).toNat = U at *
  generalize t.extract 0 (min (t.size : Int) 40).toNat = H at *
  have hM : Mods [] w (w.drewN nq) := (Mods.refl _ _).drewN _
  generalize w.drewN nq = W0 at *
  have HM := Lib.hid hM
  have hlu := slen U
  have hlh := slen H
  have hj := fun W => join_any U H W (by omega) (by omega)
  have hcn := fun W => checkName_any U W (by omega)
  have hrh := fun W => refHost_any H W (by omega)
  clear hM
  by_cases h1 : unameOK U.data.toList = false
  · have hjf : joinF U.data.toList H.data.toList = ([], 12) := by unfold joinF; rw [if_pos h1]
    simp only [hjf] at hj
    simp only [uname_err h1] at hcn
    clear hrh hjf h1
    go_wp2_with (first
      | (go_at_call 16; refine (hj _).mono ?_; rintro e w1 ⟨rfl, rfl⟩)
      | (go_at_call 17; refine (hcn _).mono ?_; rintro e w2 ⟨rfl, rfl⟩)
      | (go_at_call 15; refine (HK.out _ HM.out).mono ?_; rintro e w3 ⟨rfl, hm3⟩; have HM3 := HM.out.trans' hm3; clear hm3))
    go_ret
    exact ⟨rfl, HM3⟩
  have h1' : unameOK U.data.toList = true := by simpa using h1
  simp only [uname_zero h1'] at hcn
  by_cases h2 : H.data.toList = []
  · have hjf : joinF U.data.toList H.data.toList = (U.data.toList, 0) := by unfold joinF; rw [if_neg h1, if_pos h2]
    have hsj := split_join (u := U.data.toList) (h := H.data.toList) (by rw [hjf])
    rw [hjf] at hsj
    simp only [hjf, show (⟨U.data.toList.toArray⟩ : ByteArray) = U from rfl] at hj
    have hsp := fun W (hW : Mods [] w W) => split_any U ml W (by omega) (hW.keep HMC.out)
    rw [show splitF U.data.toList = (U.data.toList, H.data.toList, 0) from hsj] at hsp
    unfold splitVal at hsp
    simp only [show (⟨U.data.toList.toArray⟩ : ByteArray) = U from rfl, show (⟨H.data.toList.toArray⟩ : ByteArray) = H from rfl] at hsp
    have HSP := Lib.hid hsp
    have h2' : H.toList = [] := by rw [ByteArray.toList_eq]; exact h2
    clear hrh hjf h1 h1' hsj hsp h2
    go_wp2_with (first
      | (go_at_call 16; refine (hj _).mono ?_; rintro e w1 ⟨rfl, rfl⟩)
      | (go_at_call 17; refine (hcn _).mono ?_; rintro e w2 ⟨rfl, rfl⟩)
      | (go_at_call 15; refine (HK.out _ HM.out).mono ?_; rintro e w3 ⟨rfl, hm3⟩; have HM3 := HM.out.trans' hm3; clear hm3)
      | (go_at_call 13; refine (HSP.out _ HM3).mono ?_; rintro e w5 ⟨rfl, n5, rfl⟩; have HM5 := HM3.drewN n5))
    go_ret
    exact ⟨rfl, HM5⟩
  have h2' : H.toList ≠ [] := by rw [ByteArray.toList_eq]; exact h2
  have h2'' : H.toList.isEmpty = false := by simpa using h2'
  obtain ⟨x, hx⟩ : ∃ x, hostE H.data.toList = x := ⟨_, rfl⟩
  simp only [hx] at hrh
  by_cases hx0 : x = 0
  · subst hx0
    have hjf : joinF U.data.toList H.data.toList = (U.data.toList ++ 64 :: H.data.toList, 0) := by unfold joinF; rw [if_neg h1, if_neg h2, hx, if_neg (by simp)]
    have hsj := split_join (u := U.data.toList) (h := H.data.toList) (by rw [hjf])
    rw [hjf] at hsj
    simp only [hjf] at hj
    obtain ⟨J, hJ⟩ : ∃ J : ByteArray, (⟨(U.data.toList ++ 64 :: H.data.toList).toArray⟩ : ByteArray) = J := ⟨_, rfl⟩
    have hJl : J.data.toList = U.data.toList ++ 64 :: H.data.toList := by rw [← hJ]
    have hJs : J.size ≤ 1000000 := by have := slen J; rw [hJl, List.length_append, List.length_cons] at this; omega
    clear hJl
    rw [hJ] at hj
    have hsp := fun W (hW : Mods [] w W) => split_any J ml W hJs (hW.keep HMC.out)
    rw [show splitF J.data.toList = (U.data.toList, H.data.toList, 0) by rw [← hJ]; exact hsj] at hsp
    unfold splitVal at hsp
    simp only [show (⟨U.data.toList.toArray⟩ : ByteArray) = U from rfl, show (⟨H.data.toList.toArray⟩ : ByteArray) = H from rfl] at hsp
    have HSP := Lib.hid hsp
    clear hjf h1 h1' hsj hsp h2 hx hJ hJs
    go_wp2_with (first
      | (go_at_call 16; refine (hj _).mono ?_; rintro e w1 ⟨rfl, rfl⟩)
      | (go_at_call 17; refine (hcn _).mono ?_; rintro e w2 ⟨rfl, rfl⟩)
      | (go_at_call 18; refine (hrh _).mono ?_; rintro e w4 ⟨rfl, rfl⟩)
      | (go_at_call 15; refine (HK.out _ HM.out).mono ?_; rintro e w3 ⟨rfl, hm3⟩; have HM3 := HM.out.trans' hm3; clear hm3)
      | (go_at_call 13; refine (HSP.out _ HM3).mono ?_; rintro e w5 ⟨rfl, n5, rfl⟩; have HM5 := HM3.drewN n5))
    go_ret
    exact ⟨rfl, HM5⟩
  · have hjf : joinF U.data.toList H.data.toList = ([], x) := by unfold joinF; rw [if_neg h1, if_neg h2, hx, if_pos hx0]
    simp only [hjf] at hj
    have hx1 : (x != 0) = true := by simpa using hx0
    clear hjf h1 h1' h2 hx
    go_wp2_with (first
      | (go_at_call 16; refine (hj _).mono ?_; rintro e w1 ⟨rfl, rfl⟩)
      | (go_at_call 17; refine (hcn _).mono ?_; rintro e w2 ⟨rfl, rfl⟩)
      | (go_at_call 18; refine (hrh _).mono ?_; rintro e w4 ⟨rfl, rfl⟩)
      | (go_at_call 15; refine (HK.out _ HM.out).mono ?_; rintro e w3 ⟨rfl, hm3⟩; have HM3 := HM.out.trans' hm3; clear hm3))
    go_ret
    exact ⟨rfl, HM3⟩
end Go.Proofs.YtlaihnbappfbfaaGreatDoor

namespace Go.Proofs.YtlaihnbappfbfaaGreatDoor
open Go.ChangeShapes Go.WideShapes Go.ChangeAt Go.WideMaps Go.WideElems Go.ChangeMaps Go.RowKit Go.Lib

set_option maxRecDepth 100000 in
theorem mailboxJoins_lifted (os : Os) (started : os.Started) (H : Type) (enc : TypeId × Value → H) :
    ReturnsInHanded {} Tryz.checked os 4 .any (fun w args => (Rows.mailboxJoinsSpec.pre enc Tryz.prog Tryz.f4 [] false w args ∧ laidMetH Tryz.prog Rows.mailboxJoinsRow.laid w) ∧ sizedMet enc Tryz.prog Tryz.f4 (OpenSpec.ofChange Rows.mailboxJoinsSpec) false w args)
      (Rows.mailboxJoinsSpec.post enc Tryz.prog Tryz.f4 false true false false) := by
  refine handed_and_shaped (C := Tryz.checked) (X := fun w _ => laidMetH Tryz.prog Rows.mailboxJoinsRow.laid w) (fun _ _ _ hh h => h.of_heap hh) own started (by kernel_rfl) Tryz.func4
    (ChangeSpec.witness_shaped (enc := enc) (C := Tryz.checked) (os := os) (X := fun w _ => laidMetH Tryz.prog Rows.mailboxJoinsRow.laid w) false (World.laidAll Tryz.prog os Rows.mailboxJoinsRow.laid) #[.string ⟨#[]⟩, .string ⟨#[]⟩] 8 (World.laidAll_os _ _ _)
      (World.shaped_of_ZipB (by kernel_rfl) (by kernel_rfl)) (by kernel_rfl) (by kernel_rfl) (by kernel_rfl)
      (by rw [MakeChecks.laidMetH_plain _ _ _ (by kernel_rfl)]; exact laidMet_laidAll _ (by kernel_rfl) (by kernel_rfl))) ?_
  intro W base args ds gs before hval0 hW hsh0 hL
  have hval : ∀ (j : Nat) t v, Tryz.f4.params[j]? = some t → args[j]? = some v → Value.okWide Tryz.prog W .any base t v := hval0
  have hW' := hW
  obtain ⟨p, q, hA0, hV, rfl, _, _⟩ := hW
  have hA : DataW.TrodAll enc Tryz.prog W 0 (fun _ => true) true Tryz.f4.params.toList args.toList ds p := hA0
  rw [Tryz.params4] at hA hval
  obtain ⟨v0, v1, d0, d1, p0, p1, rfl, rfl, rfl, h0, h1⟩ := trodAll_two hA
  obtain ⟨rfl, rfl⟩ := trodVars_none hV
  obtain ⟨s, rfl, rfl, rfl, ws⟩ := open_string Tryz.underlying9 (hval 0 9 v0 rfl rfl) h0
  obtain ⟨s2, rfl, rfl, rfl, ws2⟩ := open_string Tryz.underlying9 (hval 1 9 v1 rfl rfl) h1
  simp only [List.append_nil] at hW'
  rw [MakeChecks.laidMetH_plain _ _ _ (by kernel_rfl)] at hL
  have hu : Usages W := usages_of_reads (Lib.laidMet.reads hL (by simp [Rows.mailboxJoinsRow]))
  have hsh : ShaTab W := shaTab_of_reads (Lib.laidMet.reads hL (by simp [Rows.mailboxJoinsRow])) (Lib.laidMet.reads hL (by simp [Rows.mailboxJoinsRow]))
  obtain ⟨ml, hml⟩ := maxLen_of_shape hsh0
  refine (mailboxJoins_any s s2 hu hsh ml hml ws ws2).mono fun e W' ⟨he, hb⟩ => ?_
  subst he
  exact ⟨_, rfl, _, _, _, [], [], [], hW', trodAll_mk1 (shut_bool Tryz.underlying4 _), trodAll_mk2 (shut_string Tryz.underlying9 ws) (shut_string Tryz.underlying9 ws2), rfl, hb.below.frame _, fun h => by cases h⟩

theorem mailboxJoins_row : Rows.MailboxJoinsSaid :=
  OpenClaim.holds_of_wide 4 Tryz.f4 rfl rfl rfl rfl rfl rfl rfl ⟨rfl, rfl, rfl, rfl, rfl⟩ rfl rfl rfl rfl rfl (by kernel_rfl) Tryz.func4 (by kernel_rfl)
    (of_decide_eq_true (by kernel_rfl)) (by unfold Func.isWrapper; first | (rw [if_pos (by decide +kernel)]; kernel_rfl) | (rw [if_neg (by decide +kernel)]; exact ⟨rfl, rfl⟩))
    (fun os started H enc _ => mailboxJoins_lifted os started H enc)

theorem mailboxJoins_holds : Rows.MailboxJoinsCardSaid :=
  Claim7.holds_tied_plain_at .later [] [.data, .data, .data, .data, .data, .data] true (true, "16e04b311f33d060bc106180dd2eea7d1dbf36eaaa65ec193247d04cef9db3ce") false mailboxJoins_row (fun _ h => by cases h) (by kernel_rfl) (fun _ h => by cases h) mailboxJoins_row_tie rfl ⟨rfl, rfl⟩ (by kernel_rfl) rfl
    (fun f fn hf hfn => by
      obtain rfl : f = 4 := Option.some.inj ((show Tryz.prog.funcNamed "replevin/replevinlaw38.MailboxJoins" = some 4 by kernel_rfl).symm.trans hf) |>.symm
      obtain rfl : fn = Tryz.f4 := (Option.some.inj (Tryz.func4.symm.trans hfn)).symm
      exact ⟨by kernel_rfl, fun j t ht => by
        rw [Tryz.params4] at ht
        have hm : t ∈ [9, 9] := by simpa using Array.mem_of_getElem? ht
        have hall : ([9, 9].all fun u => !Tryz.prog.wantsStandIn u) = true := by kernel_rfl
        exact (show Tryz.prog.wantsStandIn t = false by simpa using List.all_eq_true.1 hall t hm)⟩)
    (by kernel_rfl)
end Go.Proofs.YtlaihnbappfbfaaGreatDoor
