/- The statement MailboxAddresses: its walk. The row of MailboxAddresses, and its card. -/
import Derived.Test.YtlaihnbappfbfaaGreatDoorK1
import Derived.Test.YtlaihnbappfbfaaGreatDoorRowK
import Derived.Test.YtlaihnbappfbfaaGreatDoorL1
namespace Go.Proofs.YtlaihnbappfbfaaGreatDoor
open Go.RowKit

theorem splitF_parts (s : List UInt8) : (splitF s).1.length ≤ s.length ∧ (splitF s).2.1.length ≤ s.length := by
  have h1 : (cutAt s).1.length ≤ s.length := (List.takeWhile_sublist _).length_le
  have h2 : (cutAt s).2.1.length ≤ s.length := by
    have := (List.dropWhile_sublist (fun x : UInt8 => x != 64) (l := s)).length_le
    show (List.drop 1 (List.dropWhile _ _)).length ≤ _
    rw [List.length_drop]; omega
  unfold splitF
  repeat' split
  all_goals first | exact ⟨h1, h2⟩ | simp

set_option maxRecDepth 100000 in
set_option maxHeartbeats 2000000 in
theorem mailboxAddresses_any (s : ByteArray) {w : World} (hu : Usages w) (hsh : ShaTab w) (ml : Int) (hm : w.cell? ⟨1, 0, none⟩ = some (.int .i64 ml)) (hs : s.size ≤ 9223372036854775807) :
    Calls Tryz.prog 3 #[.string s] w fun e w' => e = .returned (.bool true) ∧ Mods [] w w' := by
  have hk := fun W (hW : Mods [] w W) => known_any (w := W) (hu.mods hW (by simp)) (hsh.keep hW) ml (hW.keep hm)
  have hsz : (s.extract 0 (min (s.size : Int) 60).toNat).size ≤ 60 := by rw [ByteArray.size_extract]; omega
  have hp := splitF_parts (s.extract 0 (min (s.size : Int) 60).toNat).data.toList
  have hl := slen (s.extract 0 (min (s.size : Int) 60).toNat)
  have hsp := fun W (hW : Mods [] w W) => split_any (s.extract 0 (min (s.size : Int) 60).toNat) ml W (by omega) (hW.keep hm)
  have hrs := fun W => refSplit_any (s.extract 0 (min (s.size : Int) 60).toNat) W (by omega)
  have hj0 := @join_split (s.extract 0 (min (s.size : Int) 60).toNat).data.toList
  have HK := Lib.hid hk
  go_enter Tryz.func3, Tryz.ntmps3
  go_wp2_with fail
  generalize s.extract 0 (min (s.size : Int) 60).toNat = t at *
  unfold splitVal at hsp hrs
  generalize splitF t.data.toList = sp at *
  obtain ⟨u, h, E⟩ := sp
  simp only at hp hj0 hsp hrs
  have hj := fun W => join_any ⟨u.toArray⟩ ⟨h.toArray⟩ W (by simp [ByteArray.size]; omega) (by simp [ByteArray.size]; omega)
  obtain ⟨U, hU⟩ : ∃ U : ByteArray, (⟨u.toArray⟩ : ByteArray) = U := ⟨_, rfl⟩
  obtain ⟨H, hH⟩ : ∃ H : ByteArray, (⟨h.toArray⟩ : ByteArray) = H := ⟨_, rfl⟩
  have eU : U.data.toList = u := by rw [← hU]
  have eH : H.data.toList = h := by rw [← hH]
  rw [hU, hH, eU, eH] at hj
  rw [hU, hH] at hsp hrs
  have HSP := Lib.hid hsp
  have HRS := Lib.hid hrs
  clear hU hH eU eH hp hl hsp hrs hu hsh hm hk
  refine (HSP.out w (Mods.refl _ _)).mono ?_
  rintro e w1 ⟨rfl, n1, rfl⟩
  go_wp2_with fail
  refine (HRS.out _).mono ?_
  rintro e w2 ⟨rfl, n2, rfl⟩
  by_cases hE : E = 0
  · subst hE
    have hjj := hj0 rfl
    rw [hjj] at hj
    simp only [show (⟨t.data.toList.toArray⟩ : ByteArray) = t from rfl] at hj
    clear hj0 hjj
    go_wp2_with (first
      | (go_at_call 15; refine (HK.out _ ((Mods.refl _ _).drewN _)).mono ?_; rintro e w3 ⟨rfl, hm3⟩; have HM3' := ((Mods.refl [] w).drewN (n1 + n2)).trans' hm3; clear hm3)
      | (go_at_call 16; refine (hj _).mono ?_; rintro e w4 ⟨rfl, rfl⟩))
    go_ret
    exact ⟨rfl, HM3'⟩
  · have hE1 : (E != 0) = true := by simpa using hE
    clear hj0
    go_wp2_with (first
      | (go_at_call 15; refine (HK.out _ ((Mods.refl _ _).drewN _)).mono ?_; rintro e w3 ⟨rfl, hm3⟩; have HM3' := ((Mods.refl [] w).drewN (n1 + n2)).trans' hm3; clear hm3)
      | (go_at_call 16; refine (hj _).mono ?_; rintro e w4 ⟨rfl, rfl⟩))
    go_ret
    exact ⟨rfl, HM3'⟩
end Go.Proofs.YtlaihnbappfbfaaGreatDoor

namespace Go.Proofs.YtlaihnbappfbfaaGreatDoor
open Go.ChangeShapes Go.WideShapes Go.ChangeAt Go.WideMaps Go.WideElems Go.ChangeMaps Go.RowKit Go.Lib

set_option maxRecDepth 100000 in
theorem mailboxAddresses_lifted (os : Os) (started : os.Started) (H : Type) (enc : TypeId × Value → H) :
    ReturnsInHanded {} Tryz.checked os 3 .any (fun w args => (Rows.mailboxAddressesSpec.pre enc Tryz.prog Tryz.f3 [] false w args ∧ laidMetH Tryz.prog Rows.mailboxAddressesRow.laid w) ∧ sizedMet enc Tryz.prog Tryz.f3 (OpenSpec.ofChange Rows.mailboxAddressesSpec) false w args)
      (Rows.mailboxAddressesSpec.post enc Tryz.prog Tryz.f3 false true false false) := by
  refine handed_and_shaped (C := Tryz.checked) (X := fun w _ => laidMetH Tryz.prog Rows.mailboxAddressesRow.laid w) (fun _ _ _ hh h => h.of_heap hh) own started (by kernel_rfl) Tryz.func3
    (ChangeSpec.witness_shaped (enc := enc) (C := Tryz.checked) (os := os) (X := fun w _ => laidMetH Tryz.prog Rows.mailboxAddressesRow.laid w) false (World.laidAll Tryz.prog os Rows.mailboxAddressesRow.laid) #[.string ⟨#[]⟩] 8 (World.laidAll_os _ _ _)
      (World.shaped_of_ZipB (by kernel_rfl) (by kernel_rfl)) (by kernel_rfl) (by kernel_rfl) (by kernel_rfl)
      (by rw [MakeChecks.laidMetH_plain _ _ _ (by kernel_rfl)]; exact laidMet_laidAll _ (by kernel_rfl) (by kernel_rfl))) ?_
  intro W base args ds gs before hval0 hW hsh0 hL
  have hval : ∀ (j : Nat) t v, Tryz.f3.params[j]? = some t → args[j]? = some v → Value.okWide Tryz.prog W .any base t v := hval0
  have hW' := hW
  obtain ⟨p, q, hA0, hV, rfl, _, _⟩ := hW
  have hA : DataW.TrodAll enc Tryz.prog W 0 (fun _ => true) true Tryz.f3.params.toList args.toList ds p := hA0
  rw [Tryz.params3] at hA hval
  obtain ⟨v0, d0, rfl, rfl, h0⟩ := trodAll_one hA
  obtain ⟨rfl, rfl⟩ := trodVars_none hV
  obtain ⟨s, rfl, rfl, rfl, ws⟩ := open_string Tryz.underlying9 (hval 0 9 v0 rfl rfl) h0
  simp only [List.append_nil] at hW'
  rw [MakeChecks.laidMetH_plain _ _ _ (by kernel_rfl)] at hL
  have hu : Usages W := usages_of_reads (Lib.laidMet.reads hL (by simp [Rows.mailboxAddressesRow]))
  have hsh : ShaTab W := shaTab_of_reads (Lib.laidMet.reads hL (by simp [Rows.mailboxAddressesRow])) (Lib.laidMet.reads hL (by simp [Rows.mailboxAddressesRow]))
  obtain ⟨ml, hml⟩ := maxLen_of_shape hsh0
  refine (mailboxAddresses_any s hu hsh ml hml ws).mono fun e W' ⟨he, hb⟩ => ?_
  subst he
  exact ⟨_, rfl, _, _, _, [], [], [], hW', trodAll_mk1 (shut_bool Tryz.underlying4 _), trodAll_mk1 (shut_string Tryz.underlying9 ws), rfl, hb.below.frame _, fun h => by cases h⟩

theorem mailboxAddresses_row : Rows.MailboxAddressesSaid :=
  OpenClaim.holds_of_wide 3 Tryz.f3 rfl rfl rfl rfl rfl rfl rfl ⟨rfl, rfl, rfl, rfl, rfl⟩ rfl rfl rfl rfl rfl (by kernel_rfl) Tryz.func3 (by kernel_rfl)
    (of_decide_eq_true (by kernel_rfl)) (by unfold Func.isWrapper; first | (rw [if_pos (by decide +kernel)]; kernel_rfl) | (rw [if_neg (by decide +kernel)]; exact ⟨rfl, rfl⟩))
    (fun os started H enc _ => mailboxAddresses_lifted os started H enc)

theorem mailboxAddresses_holds : Rows.MailboxAddressesCardSaid :=
  Claim7.holds_tied_plain_at .later [] [.data, .data, .data, .data, .data, .data] true (true, "16e04b311f33d060bc106180dd2eea7d1dbf36eaaa65ec193247d04cef9db3ce") false mailboxAddresses_row (fun _ h => by cases h) (by kernel_rfl) (fun _ h => by cases h) mailboxAddresses_row_tie rfl ⟨rfl, rfl⟩ (by kernel_rfl) rfl
    (fun f fn hf hfn => by
      obtain rfl : f = 3 := Option.some.inj ((show Tryz.prog.funcNamed "replevin/replevinlaw38.MailboxAddresses" = some 3 by kernel_rfl).symm.trans hf) |>.symm
      obtain rfl : fn = Tryz.f3 := (Option.some.inj (Tryz.func3.symm.trans hfn)).symm
      exact ⟨by kernel_rfl, fun j t ht => by
        rw [Tryz.params3] at ht
        have hm : t ∈ [9] := by simpa using Array.mem_of_getElem? ht
        have hall : ([9].all fun u => !Tryz.prog.wantsStandIn u) = true := by kernel_rfl
        exact (show Tryz.prog.wantsStandIn t = false by simpa using List.all_eq_true.1 hall t hm)⟩)
    (by kernel_rfl)
end Go.Proofs.YtlaihnbappfbfaaGreatDoor
