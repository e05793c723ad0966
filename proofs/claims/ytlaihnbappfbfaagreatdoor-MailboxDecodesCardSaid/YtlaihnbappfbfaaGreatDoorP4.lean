/- The statement MailboxDecodes: its walk. The row of MailboxDecodes, and its card. -/
import Derived.Test.YtlaihnbappfbfaaGreatDoorK1
import Derived.Test.YtlaihnbappfbfaaGreatDoorB3
import Derived.Test.YtlaihnbappfbfaaGreatDoorEqM
import Derived.Test.YtlaihnbappfbfaaGreatDoorRowK
import Derived.Test.YtlaihnbappfbfaaGreatDoorL1
namespace Go.Proofs.YtlaihnbappfbfaaGreatDoor
open Go.RowKit

set_option maxRecDepth 100000 in
set_option maxHeartbeats 4000000 in
theorem mailboxDecodes_any (s : ByteArray) {w : World} (hu : Usages w) (hsh : ShaTab w) (ml : Int) (hm : w.cell? ⟨1, 0, none⟩ = some (.int .i64 ml)) (hs : s.size ≤ 9223372036854775807) :
    Calls Tryz.prog 6 #[.string s] w fun e w' => e = .returned (.bool true) ∧ Mods [] w w' := by
  have hk := fun W (hW : Mods [] w W) => known_any (w := W) (hu.mods hW (by simp)) (hsh.keep hW) ml (hW.keep hm)
  have HK := Lib.hid hk
  have HMC := Lib.hid hm
  have hsz : (s.extract 0 (min (s.size : Int) 400).toNat).size ≤ 400 := by rw [ByteArray.size_extract]; omega
  clear hk hu hsh hm
  go_enter Tryz.func6, Tryz.ntmps6
  go_wp2_with fail
  generalize s.extract 0 (min (s.size : Int) 400).toNat = t at *
  have hde := boxDecode_any (w := w) t (by omega) ml HMC.out
  have hpa := fun W => refParse_any (w := W) t (by omega)
  rw [decBox_agree (a' := 1048575) (c' := 49) (by decide) (by decide) (by decide) (by decide)] at hpa
  have hbw := fun b => @decBox_bwd 1048575 49 t.data.toList b
  generalize decBox 1048575 49 t.data.toList = x at *
  have HPA := Lib.hid hpa
  refine hde.mono ?_
  intro e w1 hd
  clear hde hpa
  cases x with
  | none =>
    obtain ⟨rfl, hm1⟩ := hd
    have he0 := fun W (hW : Mods [] w W) => boxEncode_ok 0 (MsgsAt.nil W) (by simp) ml (hW.keep HMC.out) (by decide)
    have HM1 := Lib.hid hm1
    clear hm1 hbw
    go_wp2_with fail
    refine (HPA.out _).mono ?_
    rintro e w2 ⟨rfl, hm2⟩
    have hM2 := (HM1.out.alloc (.cells #[.int .i64 0, .slice none 0 0] 34)).trans' hm2
    have g0 := hm2.keep (cell_of_heap (heap_alloc_new w1 (.cells #[.int .i64 0, .slice none 0 0] 34)) 0)
    have g1 := hm2.keep (cell_of_heap (heap_alloc_new w1 (.cells #[.int .i64 0, .slice none 0 0] 34)) 1)
    try simp only [List.getElem?_toArray, List.getElem?_cons_zero, List.getElem?_cons_succ] at g0 g1
    have hq := fun W => boxEqual_any (w := W) 0 0 (MsgsAt.nil W) (MsgsAt.nil W)
    simp only [show ((0 : Int) == 0 && eqMsgs [] []) = true from rfl] at hq
    have j0 := cell_of_heap (heap_alloc_new w2 (.cells #[.int .i64 0, .slice none 0 0] 34)) 0
    have j1 := cell_of_heap (heap_alloc_new w2 (.cells #[.int .i64 0, .slice none 0 0] 34)) 1
    try simp only [List.getElem?_toArray, List.getElem?_cons_zero, List.getElem?_cons_succ] at j0 j1
    have ha2 : Mods [] w2 (w2.alloc (.cells #[.int .i64 0, .slice none 0 0] 34)) := (Mods.refl _ _).alloc _
    have HM2 := Lib.hid (hM2.trans' ha2)
    have HG0 := Lib.hid (ha2.keep g0)
    have HG1 := Lib.hid (ha2.keep g1)
    have HJ0 := Lib.hid j0
    have HJ1 := Lib.hid j1
    clear g0 g1 j0 j1 ha2 hM2 hm2
    go_wp2_with fail
    refine (HK.out _ HM2.out).mono ?_
    rintro e w3 ⟨rfl, hm3⟩
    have k0 := hm3.keep HG0.out
    have k1 := hm3.keep HG1.out
    have k2 := hm3.keep HJ0.out
    have k3 := hm3.keep HJ1.out
    have HM3 := Lib.hid (HM2.out.trans' hm3)
    clear hm3
    go_wp2_with (first
      | (go_at_call 24; refine (hq _).mono ?_; rintro e w4 ⟨rfl, hm4⟩; have HM4 := Lib.hid (HM3.out.trans' hm4); have k4 := hm4.keep k0; have k5 := hm4.keep k1; clear hm4)
      | (go_at_call 21; refine (he0 _ HM4.out).mono ?_; rintro e w5 ⟨rfl, hm5⟩; have HM5 := Lib.hid (HM4.out.trans' hm5); clear hm5))
    go_ret
    exact ⟨rfl, HM5.out⟩
  | some b =>
    obtain ⟨v, rfl, ho, hm1⟩ := hd
    obtain ⟨hbe, hbt⟩ := hbw b rfl
    obtain ⟨va, vn, vc, rfl⟩ := owns_shape ho
    have hb32 := (boxE_zero hbe).2.2.1
    have hll : (b.msgs.map MsgV.b).length ≤ 1000000000 := by rw [List.length_map]; omega
    have hen : (⟨(encBox b).toArray⟩ : ByteArray) = t := by rw [hbt]
    have he0 := fun W (hW : Mods [] w W) (hv : MsgsAt W (.slice va vn vc) (b.msgs.map MsgV.b)) => boxEncode_ok b.next hv (fun m hm => by
      obtain ⟨y, hy, rfl⟩ := List.mem_map.1 hm
      have h1 := (msgE_zero (msgsE_zero (boxE_zero hbe).2.2.2 y hy)).2.2.1
      have h2 := splitF_len h1
      show y.sender.toArray.size ≤ _
      rw [List.size_toArray]; omega) ml (hW.keep HMC.out) (by rw [map_b_v]; exact hbe)
    rw [map_b_v, show (⟨b.next, b.msgs⟩ : BoxV) = b from rfl, hen] at he0
    have HE0 := Lib.hid he0
    have HAT := Lib.hid (ho.at hll)
    have HM1 := Lib.hid hm1
    clear hm1 hbw he0 ho hbt hen
    go_wp2_with fail
    refine (HPA.out _).mono ?_
    rintro e w2 ⟨v2, rfl, ho2, hm2⟩
    obtain ⟨va', vn', vc', rfl⟩ := owns_shape ho2
    have hM2 := (HM1.out.alloc (.cells #[.int .i64 b.next, .slice va vn vc] 34)).trans' hm2
    have g0 := hm2.keep (cell_of_heap (heap_alloc_new w1 (.cells #[.int .i64 b.next, .slice va vn vc] 34)) 0)
    have g1 := hm2.keep (cell_of_heap (heap_alloc_new w1 (.cells #[.int .i64 b.next, .slice va vn vc] 34)) 1)
    try simp only [List.getElem?_toArray, List.getElem?_cons_zero, List.getElem?_cons_succ] at g0 g1
    have j0 := cell_of_heap (heap_alloc_new w2 (.cells #[.int .i64 b.next, .slice va' vn' vc'] 34)) 0
    have j1 := cell_of_heap (heap_alloc_new w2 (.cells #[.int .i64 b.next, .slice va' vn' vc'] 34)) 1
    try simp only [List.getElem?_toArray, List.getElem?_cons_zero, List.getElem?_cons_succ] at j0 j1
    have ha2 : Mods [] w2 (w2.alloc (.cells #[.int .i64 b.next, .slice va' vn' vc'] 34)) := (Mods.refl _ _).alloc _
    have HM2 := Lib.hid (hM2.trans' ha2)
    have HT1 := Lib.hid (((HAT.out.keep ((Mods.refl [] w1).alloc (.cells #[.int .i64 b.next, .slice va vn vc] 34))).keep hm2).keep ha2)
    have HT2 := Lib.hid ((ho2.at hll).keep ha2)
    have HG0 := Lib.hid (ha2.keep g0)
    have HG1 := Lib.hid (ha2.keep g1)
    have HJ0 := Lib.hid j0
    have HJ1 := Lib.hid j1
    clear g0 g1 j0 j1 ha2 hM2 hm2 ho2
    go_wp2_with fail
    refine (HK.out _ HM2.out).mono ?_
    rintro e w3 ⟨rfl, hm3⟩
    have k0 := hm3.keep HG0.out
    have k1 := hm3.keep HG1.out
    have k2 := hm3.keep HJ0.out
    have k3 := hm3.keep HJ1.out
    have HM3 := Lib.hid (HM2.out.trans' hm3)
    have hq := boxEqual_any b.next b.next (HT1.out.keep hm3) (HT2.out.keep hm3)
    rw [show (b.next == b.next && eqMsgs (b.msgs.map MsgV.b) (b.msgs.map MsgV.b)) = true by rw [(eqMsgs_iff _ _).2 rfl]; simp] at hq
    have HT3 := Lib.hid (HT1.out.keep hm3)
    clear hm3
    go_wp2_with (first
      | (go_at_call 24; refine hq.mono ?_; rintro e w4 ⟨rfl, hm4⟩; have HM4 := Lib.hid (HM3.out.trans' hm4); have HT4 := Lib.hid (HT3.out.keep hm4); have k4 := hm4.keep k0; have k5 := hm4.keep k1; clear hm4)
      | (go_at_call 21; refine (HE0.out _ HM4.out HT4.out).mono ?_; rintro e w5 ⟨rfl, hm5⟩; have HM5 := Lib.hid (HM4.out.trans' hm5); clear hm5))
    go_ret
    exact ⟨rfl, HM5.out⟩
end Go.Proofs.YtlaihnbappfbfaaGreatDoor

namespace Go.Proofs.YtlaihnbappfbfaaGreatDoor
open Go.ChangeShapes Go.WideShapes Go.ChangeAt Go.WideMaps Go.WideElems Go.ChangeMaps Go.RowKit Go.Lib

set_option maxRecDepth 100000 in
theorem mailboxDecodes_lifted (os : Os) (started : os.Started) (H : Type) (enc : TypeId × Value → H) :
    ReturnsInHanded {} Tryz.checked os 6 .any (fun w args => (Rows.mailboxDecodesSpec.pre enc Tryz.prog Tryz.f6 [] false w args ∧ laidMetH Tryz.prog Rows.mailboxDecodesRow.laid w) ∧ sizedMet enc Tryz.prog Tryz.f6 (OpenSpec.ofChange Rows.mailboxDecodesSpec) false w args)
      (Rows.mailboxDecodesSpec.post enc Tryz.prog Tryz.f6 false true false false) := by
  refine handed_and_shaped (C := Tryz.checked) (X := fun w _ => laidMetH Tryz.prog Rows.mailboxDecodesRow.laid w) (fun _ _ _ hh h => h.of_heap hh) own started (by kernel_rfl) Tryz.func6
    (ChangeSpec.witness_shaped (enc := enc) (C := Tryz.checked) (os := os) (X := fun w _ => laidMetH Tryz.prog Rows.mailboxDecodesRow.laid w) false (World.laidAll Tryz.prog os Rows.mailboxDecodesRow.laid) #[.string ⟨#[]⟩] 8 (World.laidAll_os _ _ _)
      (World.shaped_of_ZipB (by kernel_rfl) (by kernel_rfl)) (by kernel_rfl) (by kernel_rfl) (by kernel_rfl)
      (by rw [MakeChecks.laidMetH_plain _ _ _ (by kernel_rfl)]; exact laidMet_laidAll _ (by kernel_rfl) (by kernel_rfl))) ?_
  intro W base args ds gs before hval0 hW hsh0 hL
  have hval : ∀ (j : Nat) t v, Tryz.f6.params[j]? = some t → args[j]? = some v → Value.okWide Tryz.prog W .any base t v := hval0
  have hW' := hW
  obtain ⟨p, q, hA0, hV, rfl, _, _⟩ := hW
  have hA : DataW.TrodAll enc Tryz.prog W 0 (fun _ => true) true Tryz.f6.params.toList args.toList ds p := hA0
  rw [Tryz.params6] at hA hval
  obtain ⟨v0, d0, rfl, rfl, h0⟩ := trodAll_one hA
  obtain ⟨rfl, rfl⟩ := trodVars_none hV
  obtain ⟨s, rfl, rfl, rfl, ws⟩ := open_string Tryz.underlying9 (hval 0 9 v0 rfl rfl) h0
  simp only [List.append_nil] at hW'
  rw [MakeChecks.laidMetH_plain _ _ _ (by kernel_rfl)] at hL
  have hu : Usages W := usages_of_reads (Lib.laidMet.reads hL (by simp [Rows.mailboxDecodesRow]))
  have hsh : ShaTab W := shaTab_of_reads (Lib.laidMet.reads hL (by simp [Rows.mailboxDecodesRow])) (Lib.laidMet.reads hL (by simp [Rows.mailboxDecodesRow]))
  obtain ⟨ml, hml⟩ := maxLen_of_shape hsh0
  refine (mailboxDecodes_any s hu hsh ml hml ws).mono fun e W' ⟨he, hb⟩ => ?_
  subst he
  exact ⟨_, rfl, _, _, _, [], [], [], hW', trodAll_mk1 (shut_bool Tryz.underlying4 _), trodAll_mk1 (shut_string Tryz.underlying9 ws), rfl, hb.below.frame _, fun h => by cases h⟩

theorem mailboxDecodes_row : Rows.MailboxDecodesSaid :=
  OpenClaim.holds_of_wide 6 Tryz.f6 rfl rfl rfl rfl rfl rfl rfl ⟨rfl, rfl, rfl, rfl, rfl⟩ rfl rfl rfl rfl rfl (by kernel_rfl) Tryz.func6 (by kernel_rfl)
    (of_decide_eq_true (by kernel_rfl)) (by unfold Func.isWrapper; first | (rw [if_pos (by decide +kernel)]; kernel_rfl) | (rw [if_neg (by decide +kernel)]; exact ⟨rfl, rfl⟩))
    (fun os started H enc _ => mailboxDecodes_lifted os started H enc)

theorem mailboxDecodes_holds : Rows.MailboxDecodesCardSaid :=
  Claim7.holds_tied_plain_at .later [] [.data, .data, .data, .data, .data, .data] true (true, "16e04b311f33d060bc106180dd2eea7d1dbf36eaaa65ec193247d04cef9db3ce") false mailboxDecodes_row (fun _ h => by cases h) (by kernel_rfl) (fun _ h => by cases h) mailboxDecodes_row_tie rfl ⟨rfl, rfl⟩ (by kernel_rfl) rfl
    (fun f fn hf hfn => by
      obtain rfl : f = 6 := Option.some.inj ((show Tryz.prog.funcNamed "replevin/replevinlaw38.MailboxDecodes" = some 6 by kernel_rfl).symm.trans hf) |>.symm
      obtain rfl : fn = Tryz.f6 := (Option.some.inj (Tryz.func6.symm.trans hfn)).symm
      exact ⟨by kernel_rfl, fun j t ht => by
        rw [Tryz.params6] at ht
        have hm : t ∈ [9] := by simpa using Array.mem_of_getElem? ht
        have hall : ([9].all fun u => !Tryz.prog.wantsStandIn u) = true := by kernel_rfl
        exact (show Tryz.prog.wantsStandIn t = false by simpa using List.all_eq_true.1 hall t hm)⟩)
    (by kernel_rfl)
end Go.Proofs.YtlaihnbappfbfaaGreatDoor
