/- Walks of the reference of layer 4: Encode (printed by gen_refw7.py). -/
import Derived.Test.YtedlfmjgbehgkaaGreatDoorRefW6
namespace Go.Proofs.YtedlfmjgbehgkaaGreatDoor
open Go.RowKit

/-- What holds between two appends of the reference's Encode. -/
def EncR (w : World) (nv : Array Value) (wx : World) (v : Value) (acc : List UInt8) : Prop :=
  wx.ownsRow (w.heap.size + 1) 5 1 v acc.length (bcells acc) ∧ wx.heap[w.heap.size]? = some (.cells nv 30 (0, 0)) ∧ Mods [] w wx ∧ w.heap.size + 1 ≤ wx.heap.size
theorem encR_call {w wx wy : World} {nv : Array Value} {v : Value} {acc : List UInt8} (h : EncR w nv wx v acc) (hm : Mods [] wx wy) : EncR w nv wy v acc :=
  ⟨owns_of_block h.1 fun k hk => hm.block k (h.1.lt k hk).2 (by simp), hm.heap h.2.1 (by simp), h.2.2.1.trans' hm, Nat.le_trans h.2.2.2 hm.size⟩
theorem encR_app {w wx wy : World} {nv : Array Value} {v v' : Value} {acc p : List UInt8} (h : EncR w nv wx v acc) (ho : wy.ownsRow (w.heap.size + 1) 5 1 v' (acc.length + p.length) (bcells acc ++ bcells p)) (hg : wx.grownBy wy v.ownBlock) : EncR w nv wy v' (acc ++ p) := by
  have hlt := fun k hk => h.1.lt k hk
  refine ⟨by rw [bcells_append, List.length_append]; exact ho, ?_, h.2.2.1.grown hg fun k hk => .inr (by have := (hlt k hk).1; omega), Nat.le_trans h.2.2.2 hg.size⟩
  rw [hg.block w.heap.size (by have := h.2.2.2; omega) (fun e => by have := (hlt _ e.symm).1; omega)]
  exact h.2.1
theorem encR_cells {w wx : World} {a b c d e : Value} {v : Value} {acc : List UInt8} (h : EncR w #[a, b, c, d, e] wx v acc) :
    (wx.cell? ⟨w.heap.size, 0, none⟩ = some a ∧ wx.cell? ⟨w.heap.size, 1, none⟩ = some b ∧ wx.cell? ⟨w.heap.size, 2, none⟩ = some c ∧ wx.cell? ⟨w.heap.size, 3, none⟩ = some d ∧ wx.cell? ⟨w.heap.size, 4, none⟩ = some e) :=
  ⟨cell_of_heap h.2.1 0, cell_of_heap h.2.1 1, cell_of_heap h.2.1 2, cell_of_heap h.2.1 3, cell_of_heap h.2.1 4⟩
/-- The cells of a row that a call has made. -/
theorem news_of_owns {w : World} {base : Nat} {l : List UInt8} {g n cap : Nat} (h : w.ownsRow base 5 1 (.slice (some ⟨g, 0, none⟩) n cap) l.length (bcells l)) : ∀ j u, (bcells l)[j]? = some u → w.cell? ((⟨g, 0, none⟩ : Addr).add j) = some u :=
  fun j u hj => h.cells (g := g) rfl j u hj

theorem owns_form {w : World} {base : Nat} {v : Value} {l : List UInt8} (h : w.ownsRow base 5 1 v l.length (bcells l)) (hl : 0 < l.length) : ∃ g cap, v = .slice (some ⟨g, 0, none⟩) l.length cap := by
  obtain ⟨_, ⟨_, h0⟩ | ⟨g, cap, cur, hv, _⟩⟩ := h
  · omega
  · exact ⟨g, cap, hv⟩

theorem checkV_small {k : Nat} {o t : List UInt8} {n i : Int} (hk1 : 1 ≤ k) (hk2 : k ≤ 20) (h : checkV ⟨k, o, n, i, t⟩ = 0) :
    (uNumber k = true → 0 ≤ n) ∧ (uNumber k = true → n ≤ 1073741824) ∧ (uIndex k = true → 0 ≤ i) ∧ (uIndex k = true → i ≤ 1073741824) := by
  rw [checkV_core hk1 hk2] at h
  unfold checkB at h
  have hm : uMost k ≤ 1073741824 := by unfold uMost; split <;> (try split) <;> omega
  split at h
  · cases h
  split at h
  · cases h
  split at h
  · cases h
  rename_i h3
  have h4 : ∀ b, uNumber k = b → ∀ c, uIndex k = c → ¬ ((b = true ∧ ¬ (0 ≤ n ∧ n ≤ 1073741824)) ∨ (c = true ∧ ¬ (0 ≤ i ∧ i ≤ uMost k))) := fun b hb c hc => by rw [← hb, ← hc]; exact h3
  refine ⟨fun hb => ?_, fun hb => ?_, fun hb => ?_, fun hb => ?_⟩
  · have := h4 _ hb _ rfl; simp only [true_and] at this; omega
  · have := h4 _ hb _ rfl; simp only [true_and] at this; omega
  · have := h4 _ rfl _ hb; simp only [true_and] at this; omega
  · have := h4 _ rfl _ hb; simp only [true_and] at this; omega

theorem refEncode_err (k : Int) (o t : ByteArray) (n i : Int) (w : World) (ho : o.size ≤ 1000000) (ht : t.size ≤ 1000000)
    (hc : checkV ⟨k, o.data.toList, n, i, t.data.toList⟩ ≠ 0) :
    Calls Tryz.prog 29 #[nameVal k o n i t] w fun e w' => e = .returned (.tuple #[.string ⟨#[]⟩, .int .i64 (checkV ⟨k, o.data.toList, n, i, t.data.toList⟩)]) ∧ Mods [] w w' := by
  obtain ⟨c, hcc⟩ : ∃ c, checkV ⟨k, o.data.toList, n, i, t.data.toList⟩ = c := ⟨_, rfl⟩
  have b1 : (c == 0) = false := by rw [← hcc]; simpa using hc
  have b2 : (c != 0) = true := by rw [← hcc]; simpa using hc
  have Hc := Lib.hid hcc
  rw [hcc]
  clear hc hcc
  unfold nameVal
  go_enter Tryz.func29, Tryz.ntmps29
  go_wp2_with fail
  refine (refCheck_any k o t n i _ (by omega) (by omega)).mono ?_
  rintro e w1 ⟨rfl, hm⟩
  rw [Hc.out]
  have Hm := Lib.hid hm
  clear hm
  go_wp2
  go_ret2
  exact ⟨rfl, ((Mods.refl [] w).alloc _).trans' Hm.out⟩

set_option maxRecDepth 100000 in
set_option maxHeartbeats 4000000 in
theorem refEncode_ok (k : Nat) (o t : ByteArray) (n i : Int) (w : World) (ho : o.size ≤ 1000000) (ht : t.size ≤ 1000000) (hk1 : 1 ≤ k) (hk2 : k ≤ 20)
    (hc : checkV ⟨k, o.data.toList, n, i, t.data.toList⟩ = 0) :
    Calls Tryz.prog 29 #[nameVal k o n i t] w fun e w' => e = .returned (.tuple #[.string ⟨(encV k o.data.toList n.toNat i.toNat t.data.toList).toArray⟩, .int .i64 0]) ∧ Mods [] w w' := by
  obtain ⟨i0, hi, hz0, hz1, hz2⟩ := info_parts infoByte
  obtain ⟨hn0, hn1, hi0, hi1⟩ := checkV_small hk1 hk2 hc
  have e1 := encNat_length_u64 k (by omega)
  have e2 := encText_length o.data.toList (by rw [slen]; omega)
  have e3 := encText_length t.data.toList (by rw [slen]; omega)
  rw [slen] at e2 e3
  have hkw : IntKind.u64.wrap (k : Int) = (k : Int) := IntWalk.u64_in _ (by omega)
  have HO : Hid (∀ w, Calls Tryz.prog 24 #[.int .i64 k] w fun e w' => e = .returned (.bool (uOwner k)) ∧ w = w') := fun w => refOwned_any k w
  have HN : Hid (∀ w, Calls Tryz.prog 26 #[.int .i64 k] w fun e w' => e = .returned (.bool (uNumber k)) ∧ w = w') := fun w => refNumbered_any k w
  have HX : Hid (∀ w, Calls Tryz.prog 27 #[.int .i64 k] w fun e w' => e = .returned (.int .i64 (rMost k)) ∧ w = w') := fun w => refMost_any k w
  have HT : Hid (∀ w, Calls Tryz.prog 28 #[.int .i64 k] w fun e w' => e = .returned (.bool (uText k)) ∧ w = w') := fun w => refTexted_any k w
  unfold nameVal
  go_enter Tryz.func29, Tryz.ntmps29
  go_wp2_with fail
  refine (refCheck_any k o t n i _ (by omega) (by omega)).mono ?_
  rintro e w1 ⟨rfl, hm⟩
  rw [hc]
  have hN := hm.heap (heap_alloc_new w (.cells #[.int .i64 k, .string o, .int .i64 n, .int .i64 i, .string t] 30)) (by simp)
  obtain ⟨n0, n1, n2, n3, n4⟩ := And.intro (cell_of_heap hN 0) (And.intro (cell_of_heap hN 1) (And.intro (cell_of_heap hN 2) (And.intro (cell_of_heap hN 3) (cell_of_heap hN 4))))
  simp only [List.getElem?_toArray, List.getElem?_cons_zero, List.getElem?_cons_succ] at n0 n1 n2 n3 n4
  have hs1 := hm.size
  rw [World.size_alloc] at hs1
  have Hm := Lib.hid (((Mods.refl [] w).alloc _).trans' hm)
  have HNh := Lib.hid hN
  clear hm hN hc
  go_wp2_with fail
  refine (refNatural_any k (by omega) w1).mono ?_
  rintro e w2 ⟨v1, rfl, ho1, hm1⟩
  have I1 : EncR w #[.int .i64 k, .string o, .int .i64 n, .int .i64 i, .string t] w2 v1 (encNat k) := ⟨⟨ho1.1, ho1.2.imp id fun ⟨g, cap, cur, h1, h2, h3⟩ => ⟨g, cap, cur, h1, by omega, h3⟩⟩, hm1.heap HNh.out (by simp), Hm.out.trans' hm1, Nat.le_trans hs1 hm1.size⟩
  obtain ⟨a1, m1, c1, rfl⟩ := owns_shape I1.1
  obtain ⟨x00, x10, x20, x30, x40⟩ := encR_cells I1
  have HI1 := Lib.hid I1
  clear I1 ho1 hm1 n0 n1 n2 n3 n4 Hm HNh
  have LN : (if uNumber k then encNat n.toNat else []).length ≤ 10 := by
    split
    · exact encNat_length_u64 _ (by have := hn0 ‹_›; have := hn1 ‹_›; omega)
    · simp
  have LI : (if uIndex k then encNat i.toNat else []).length ≤ 10 := by
    split
    · exact encNat_length_u64 _ (by have := hi0 ‹_›; have := hi1 ‹_›; omega)
    · simp
  have LO : (if uOwner k then encText o.data.toList else []).length ≤ 1000020 := by
    split
    · omega
    · simp
  have HLN := Lib.hid LN
  have HLI := Lib.hid LI
  have HLO := Lib.hid LO
  clear LN LI LO
  go_upto_if 17 with ((go_at_call 24; refine (HO.out _).mono ?_; rintro e w' ⟨rfl, rfl⟩))
  go_cut [5] (fun v wc => Hid (EncR w #[.int .i64 k, .string o, .int .i64 n, .int .i64 i, .string t] wc v (encNat k ++ (if uOwner k then encText o.data.toList else []))))
  case first =>
    obtain ⟨acc, hacc⟩ : ∃ acc, acc = (encNat k) := ⟨_, rfl⟩
    rw [← hacc] at HI1
    have hal : acc.length ≤ 10000000 := by rw [hacc]; have h1 := HLO.out; have h2 := HLN.out; have h3 := HLI.out; (try simp only [List.length_append]); omega
    have Hacc := Lib.hid hacc
    clear hacc
    cases hb : uOwner k with
    | true =>
      have Hb := Lib.hid hb
      clear hb
      go_wp2_with fail
      refine (refText_any o _ (by omega)).mono ?_
      rintro e wy ⟨v2, rfl, ho2, hm2⟩
      have I2 := encR_call HI1.out hm2
      obtain ⟨g, cap, rfl⟩ := owns_form ho2 (by have := encNat_length_pos o.data.toList.length; unfold encText; rw [List.length_append]; omega)
      have hnw := news_of_owns ho2
      have hl1 : acc.length + (encText o.data.toList).length ≤ 100000000 := by omega
      have HI2 := Lib.hid I2
      have hbz : w.heap.size + 1 ≤ wy.heap.size := I2.2.2.2
      have Hn := Lib.hid hnw
      clear I2 ho2 hm2 hnw
      go_wp2_with (at_builtin; refine wpList_append_own _ rfl _ _ 51 rfl (w.heap.size + 1) 5 i0 (.int .u8 0) 1 1 Tryz.underlying51 hi hz0 hz1 hz2 rfl (by decide) _ _ _ rfl HI2.out.1 ⟨g, 0, none⟩ (encText o.data.toList).length cap (bcells (encText o.data.toList)) rfl (by rw [bcells_length, Nat.mul_one]) Hn.out (bcells_one _) (by unfold maxLen; omega) (by omega) hbz ?_)
      intro v' w3 ho3 hg3 _
      have I3 := Lib.hid (encR_app HI2.out ho3 hg3)
      clear ho3 hg3
      go_wp2
      go_meet
      have I4 := I3.out
      clear I3
      show EncR _ _ _ _ _
      rw [Hb.out, ← Hacc.out]
      exact I4
    | false =>
      have Hb := Lib.hid hb
      clear hb
      go_wp2
      go_meet
      show EncR _ _ _ _ _
      rw [Hb.out, ← Hacc.out]
      simpa using HI1.out
  case rest =>
  have HI2 := hcut
  clear hcut HI1 x00 x10 x20 x30 x40
  obtain ⟨a2, m2, c2, rfl⟩ := owns_shape HI2.out.1
  obtain ⟨x01, x11, x21, x31, x41⟩ := encR_cells HI2.out
  go_upto_if 25 with ((go_at_call 26; refine (HN.out _).mono ?_; rintro e w' ⟨rfl, rfl⟩))
  go_cut [5] (fun v wc => Hid (EncR w #[.int .i64 k, .string o, .int .i64 n, .int .i64 i, .string t] wc v (encNat k ++ (if uOwner k then encText o.data.toList else []) ++ (if uNumber k then encNat n.toNat else []))))
  case first =>
    obtain ⟨acc, hacc⟩ : ∃ acc, acc = (encNat k ++ (if uOwner k then encText o.data.toList else [])) := ⟨_, rfl⟩
    rw [← hacc] at HI2
    have hal : acc.length ≤ 10000000 := by rw [hacc]; have h1 := HLO.out; have h2 := HLN.out; have h3 := HLI.out; (try simp only [List.length_append]); omega
    have Hacc := Lib.hid hacc
    clear hacc
    cases hb : uNumber k with
    | true =>
      have Hb := Lib.hid hb
      obtain ⟨nn, hnn⟩ := Int.eq_ofNat_of_zero_le (hn0 Hb.out)
      have hx1 := hn1 Hb.out
      subst hnn
      have hxw : IntKind.u64.wrap (nn : Int) = (nn : Int) := IntWalk.u64_in _ (by omega)
      have hxl := encNat_length_u64 nn (by omega)
      clear hb
      go_wp2_with fail
      refine (refNatural_any nn (by omega) _).mono ?_
      rintro e wy ⟨v2, rfl, ho2, hm2⟩
      have I2 := encR_call HI2.out hm2
      obtain ⟨g, cap, rfl⟩ := owns_form ho2 (by exact encNat_length_pos _)
      have hnw := news_of_owns ho2
      have hl1 : acc.length + (encNat nn).length ≤ 100000000 := by omega
      have HI2 := Lib.hid I2
      have hbz : w.heap.size + 1 ≤ wy.heap.size := I2.2.2.2
      have Hn := Lib.hid hnw
      clear I2 ho2 hm2 hnw hx1 hxw hxl
      go_wp2_with (at_builtin; refine wpList_append_own _ rfl _ _ 51 rfl (w.heap.size + 1) 5 i0 (.int .u8 0) 1 1 Tryz.underlying51 hi hz0 hz1 hz2 rfl (by decide) _ _ _ rfl HI2.out.1 ⟨g, 0, none⟩ (encNat nn).length cap (bcells (encNat nn)) rfl (by rw [bcells_length, Nat.mul_one]) Hn.out (bcells_one _) (by unfold maxLen; omega) (by omega) hbz ?_)
      intro v' w3 ho3 hg3 _
      have I3 := Lib.hid (encR_app HI2.out ho3 hg3)
      clear ho3 hg3
      go_wp2
      go_meet
      have I4 := I3.out
      clear I3
      show EncR _ _ _ _ _
      rw [Hb.out, ← Hacc.out]
      exact I4
    | false =>
      have Hb := Lib.hid hb
      clear hb
      go_wp2
      go_meet
      show EncR _ _ _ _ _
      rw [Hb.out, ← Hacc.out]
      simpa using HI2.out
  case rest =>
  have HI3 := hcut
  clear hcut HI2 x01 x11 x21 x31 x41
  obtain ⟨a3, m3, c3, rfl⟩ := owns_shape HI3.out.1
  obtain ⟨x02, x12, x22, x32, x42⟩ := encR_cells HI3.out
  go_upto_if 35 with ((go_at_call 27; refine (HX.out _).mono ?_; rintro e w' ⟨rfl, rfl⟩))
  go_cut [5] (fun v wc => Hid (EncR w #[.int .i64 k, .string o, .int .i64 n, .int .i64 i, .string t] wc v (encNat k ++ (if uOwner k then encText o.data.toList else []) ++ (if uNumber k then encNat n.toNat else []) ++ (if uIndex k then encNat i.toNat else []))))
  case first =>
    obtain ⟨acc, hacc⟩ : ∃ acc, acc = (encNat k ++ (if uOwner k then encText o.data.toList else []) ++ (if uNumber k then encNat n.toNat else [])) := ⟨_, rfl⟩
    rw [← hacc] at HI3
    have hal : acc.length ≤ 10000000 := by rw [hacc]; have h1 := HLO.out; have h2 := HLN.out; have h3 := HLI.out; (try simp only [List.length_append]); omega
    have Hacc := Lib.hid hacc
    clear hacc
    cases hb : uIndex k with
    | true =>
      have Hb := Lib.hid hb
      obtain ⟨ii, hii⟩ := Int.eq_ofNat_of_zero_le (hi0 Hb.out)
      have hx1 := hi1 Hb.out
      subst hii
      have hxw : IntKind.u64.wrap (ii : Int) = (ii : Int) := IntWalk.u64_in _ (by omega)
      have hxl := encNat_length_u64 ii (by omega)
      have hmx : 0 ≤ rMost k := by unfold rMost; rw [if_pos Hb.out]; omega
      clear hb
      go_wp2_with fail
      refine (refNatural_any ii (by omega) _).mono ?_
      rintro e wy ⟨v2, rfl, ho2, hm2⟩
      have I2 := encR_call HI3.out hm2
      obtain ⟨g, cap, rfl⟩ := owns_form ho2 (by exact encNat_length_pos _)
      have hnw := news_of_owns ho2
      have hl1 : acc.length + (encNat ii).length ≤ 100000000 := by omega
      have HI2 := Lib.hid I2
      have hbz : w.heap.size + 1 ≤ wy.heap.size := I2.2.2.2
      have Hn := Lib.hid hnw
      clear I2 ho2 hm2 hnw hx1 hxw hxl
      go_wp2_with (at_builtin; refine wpList_append_own _ rfl _ _ 51 rfl (w.heap.size + 1) 5 i0 (.int .u8 0) 1 1 Tryz.underlying51 hi hz0 hz1 hz2 rfl (by decide) _ _ _ rfl HI2.out.1 ⟨g, 0, none⟩ (encNat ii).length cap (bcells (encNat ii)) rfl (by rw [bcells_length, Nat.mul_one]) Hn.out (bcells_one _) (by unfold maxLen; omega) (by omega) hbz ?_)
      intro v' w3 ho3 hg3 _
      have I3 := Lib.hid (encR_app HI2.out ho3 hg3)
      clear ho3 hg3
      go_wp2
      go_meet
      have I4 := I3.out
      clear I3
      show EncR _ _ _ _ _
      rw [Hb.out, ← Hacc.out]
      exact I4
    | false =>
      have Hb := Lib.hid hb
      have hmx : ¬ 0 ≤ rMost k := by unfold rMost; rw [if_neg (by rw [Hb.out]; decide)]; decide
      clear hb
      go_wp2
      go_meet
      show EncR _ _ _ _ _
      rw [Hb.out, ← Hacc.out]
      simpa using HI3.out
  case rest =>
  have HI4 := hcut
  clear hcut HI3 x02 x12 x22 x32 x42
  obtain ⟨a4, m4, c4, rfl⟩ := owns_shape HI4.out.1
  obtain ⟨x03, x13, x23, x33, x43⟩ := encR_cells HI4.out
  go_upto_if 44 with ((go_at_call 28; refine (HT.out _).mono ?_; rintro e w' ⟨rfl, rfl⟩))
  go_cut [5] (fun v wc => Hid (EncR w #[.int .i64 k, .string o, .int .i64 n, .int .i64 i, .string t] wc v (encNat k ++ (if uOwner k then encText o.data.toList else []) ++ (if uNumber k then encNat n.toNat else []) ++ (if uIndex k then encNat i.toNat else []) ++ (if uText k then encText t.data.toList else []))))
  case first =>
    obtain ⟨acc, hacc⟩ : ∃ acc, acc = (encNat k ++ (if uOwner k then encText o.data.toList else []) ++ (if uNumber k then encNat n.toNat else []) ++ (if uIndex k then encNat i.toNat else [])) := ⟨_, rfl⟩
    rw [← hacc] at HI4
    have hal : acc.length ≤ 10000000 := by rw [hacc]; have h1 := HLO.out; have h2 := HLN.out; have h3 := HLI.out; (try simp only [List.length_append]); omega
    have Hacc := Lib.hid hacc
    clear hacc
    cases hb : uText k with
    | true =>
      have Hb := Lib.hid hb
      clear hb
      go_wp2_with fail
      refine (refText_any t _ (by omega)).mono ?_
      rintro e wy ⟨v2, rfl, ho2, hm2⟩
      have I2 := encR_call HI4.out hm2
      obtain ⟨g, cap, rfl⟩ := owns_form ho2 (by have := encNat_length_pos t.data.toList.length; unfold encText; rw [List.length_append]; omega)
      have hnw := news_of_owns ho2
      have hl1 : acc.length + (encText t.data.toList).length ≤ 100000000 := by omega
      have HI2 := Lib.hid I2
      have hbz : w.heap.size + 1 ≤ wy.heap.size := I2.2.2.2
      have Hn := Lib.hid hnw
      clear I2 ho2 hm2 hnw
      go_wp2_with (at_builtin; refine wpList_append_own _ rfl _ _ 51 rfl (w.heap.size + 1) 5 i0 (.int .u8 0) 1 1 Tryz.underlying51 hi hz0 hz1 hz2 rfl (by decide) _ _ _ rfl HI2.out.1 ⟨g, 0, none⟩ (encText t.data.toList).length cap (bcells (encText t.data.toList)) rfl (by rw [bcells_length, Nat.mul_one]) Hn.out (bcells_one _) (by unfold maxLen; omega) (by omega) hbz ?_)
      intro v' w3 ho3 hg3 _
      have I3 := Lib.hid (encR_app HI2.out ho3 hg3)
      clear ho3 hg3
      go_wp2
      go_meet
      have I4 := I3.out
      clear I3
      show EncR _ _ _ _ _
      rw [Hb.out, ← Hacc.out]
      exact I4
    | false =>
      have Hb := Lib.hid hb
      clear hb
      go_wp2
      go_meet
      show EncR _ _ _ _ _
      rw [Hb.out, ← Hacc.out]
      simpa using HI4.out
  case rest =>
  have HI5 := hcut
  clear hcut HI4 x03 x13 x23 x33 x43
  obtain ⟨a5, m5, c5, rfl⟩ := owns_shape HI5.out.1
  obtain ⟨x04, x14, x24, x34, x44⟩ := encR_cells HI5.out
  obtain ⟨L, hL⟩ : ∃ L, L = encNat k ++ (if uOwner k then encText o.data.toList else []) ++ (if uNumber k then encNat n.toNat else []) ++ (if uIndex k then encNat i.toNat else []) ++ (if uText k then encText t.data.toList else []) := ⟨_, rfl⟩
  rw [← hL] at HI5
  have hLp : 0 < L.length := by rw [hL]; have := encNat_length_pos k; simp only [List.length_append]; omega
  have HLe := Lib.hid hL
  clear hL
  obtain ⟨g, cap, hv⟩ := owns_form HI5.out.1 hLp
  have hb := bytesIn_of_owns HI5.out.1 (g := g) (by rw [hv]; rfl)
  rw [hv] at hb ⊢
  have hrs := hb.run_string
  have Hm5 := Lib.hid HI5.out.2.2.1
  clear hb hv
  go_wp2
  go_ret2
  exact ⟨by rw [HLe.out]; simp [encV], Hm5.out⟩
end Go.Proofs.YtedlfmjgbehgkaaGreatDoor
