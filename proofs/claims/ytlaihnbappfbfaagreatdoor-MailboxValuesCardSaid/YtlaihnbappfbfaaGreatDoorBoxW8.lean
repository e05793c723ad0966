/- Walks of mailbox: find. -/
import Derived.Test.YtlaihnbappfbfaaGreatDoorBoxW7
namespace Go.Proofs.YtlaihnbappfbfaaGreatDoor
open Go.RowKit

/-- The index of the message with a number, or -1 (the list begins at index k). -/
def idxF (number : Int) : List MsgV → Nat → Int
  | [], _ => -1
  | m :: r, k => if m.number = number then k else idxF number r (k + 1)
theorem idxF_spec (number : Int) (l : List MsgV) (k : Nat) : idxF number l k = -1 ∨ ∃ i, ∃ h : i < l.length, idxF number l k = ((k + i : Nat) : Int) ∧ l[i].number = number := by
  induction l generalizing k with
  | nil => exact .inl rfl
  | cons m r ih =>
    unfold idxF
    by_cases h : m.number = number
    · rw [if_pos h]
      exact .inr ⟨0, by simp, rfl, h⟩
    · rw [if_neg h]
      rcases ih (k + 1) with h1 | ⟨i, hi, h1, h2⟩
      · exact .inl h1
      · exact .inr ⟨i + 1, by simp; omega, by rw [h1]; congr 1; omega, by simpa using h2⟩

theorem find1_any (m : MsgB) (number : Int) (P : Nat) (w : World) (hP : w.cell? ⟨P, 0, none⟩ = some (.int .i64 number)) :
    Calls Tryz.prog 101 #[.agg #[.int .i64 m.number, .string m.sender, .int .i64 m.second, .string m.text, .bool m.seen], .pointer (some ⟨P, 0, none⟩)] w fun e w' => e = .returned (.bool (m.number == number)) ∧ Mods [] w w' := by
  have hM : Mods [] w (w.alloc (.cells #[.int .i64 m.number, .string m.sender, .int .i64 m.second, .string m.text, .bool m.seen] 57)) := (Mods.refl _ _).alloc _
  have c0 := hM.keep hP
  have HM := Lib.hid hM
  clear hM hP
  go_enter Tryz.func101, Tryz.ntmps101
  go_wp2
  go_ret
  exact ⟨rfl, HM.out⟩

set_option maxRecDepth 100000 in
theorem indexMsg_any {w : World} {v : Value} {l : List MsgB} (number : Int) (P : Nat) (hv : MsgsAt w v l) (hP : w.cell? ⟨P, 0, none⟩ = some (.int .i64 number)) :
    Calls Tryz.prog 100 #[v, .func (.func 101) #[] #[.pointer (some ⟨P, 0, none⟩)]] w fun e w' => e = .returned (.int .i64 (idxF number (l.map MsgB.v) 0)) ∧ Mods [] w w' := by
  obtain ⟨p, cap, rfl, hcap, hln, hat⟩ := hv
  have HAT := Lib.hid hat
  have HP := Lib.hid hP
  obtain ⟨E, hE⟩ : ∃ E, idxF number (l.map MsgB.v) 0 = E := ⟨_, rfl⟩
  rw [hE]
  have HE : Hid (E = idxF number (l.map MsgB.v) 0) := hE.symm
  clear hat hP hE
  go_enter Tryz.func100, Tryz.ntmps100
  go_wp2
  go_loopw [5, 8] (fun _ i wr => ∃ k : Nat, i = .int .i64 k ∧ k ≤ l.length ∧ Hid (Mods [] w wr) ∧ Hid (E = idxF number ((l.drop k).map MsgB.v) k)) (fun _ i _ => l.length - (intOf i).toNat)
  case atStart => exact ⟨0, rfl, by omega, Lib.hid (Mods.refl _ _), HE⟩
  case round =>
    clear HE
    obtain ⟨k, rfl, hk, hMw, hRk⟩ := hrel
    by_cases hlt : k < l.length
    · obtain ⟨B, off, rfl, hcell⟩ := HAT.out.resolve_left (by rintro rfl; simp at hlt)
      obtain ⟨m, hmk⟩ : ∃ m, l[k] = m := ⟨_, rfl⟩
      have hr := rangeAt_keep hMw.out (hcell k hlt)
      rw [hmk] at hr
      obtain ⟨c0, c1, c2, c3, c4⟩ := msg_cells hr
      have hdr : (l.drop k).map MsgB.v = m.v :: (l.drop (k + 1)).map MsgB.v := by rw [List.drop_eq_getElem_cons hlt, hmk]; rfl
      have hRk' : Hid (E = if m.number = number then (k : Int) else idxF number ((l.drop (k + 1)).map MsgB.v) (k + 1)) := by
        show _ = _; rw [hRk.out, hdr]; rfl
      have h1 := find1_any m number P wr (hMw.out.keep HP.out)
      obtain ⟨num, snd, sec, txt, seen⟩ := m
      simp only at c0 c1 c2 c3 c4 h1 hRk'
      have H1 := Lib.hid h1
      have hkl : (k : Int) < (l.length : Int) := by omega
      clear hr hcell hmk hdr hRk h1
      have hF : ∀ r : Int, E = r → Hid (E = r) := fun _ h => h
      by_cases hnn : num = number
      · have hR := hF k (by rw [hRk'.out, if_pos hnn])
        have hb : (num == number) = true := by simpa using hnn
        rw [hb] at H1
        clear hRk' hF hb hnn
        go_wp2_with (go_at_call 101; refine H1.out.mono ?_; rintro e w3 ⟨rfl, hm3⟩)
        go_ret
        rw [hR.out]; exact ⟨rfl, hMw.out.trans' hm3⟩
      · have hR := hF _ (by rw [hRk'.out, if_neg hnn])
        have hb : (num == number) = false := by simpa using hnn
        rw [hb] at H1
        clear hRk' hF hb hnn
        go_wp2_with (go_at_call 101; refine H1.out.mono ?_; rintro e w3 ⟨rfl, hm3⟩)
        go_round
        case rel => exact ⟨k + 1, by go_num, by omega, Lib.hid (hMw.out.trans' hm3), hR⟩
        case measure => simp [intOf] <;> omega
    · have hR0 : Hid (E = -1) := by
        show _ = _; rw [hRk.out, List.drop_eq_nil_of_le (by omega)]; rfl
      have hkn : ¬ (k : Int) < (l.length : Int) := by omega
      clear hRk
      go_wp2
      go_ret
      rw [hR0.out]; exact ⟨rfl, hMw.out⟩

theorem results_cell_tmp2 {P : Program} {fn : Func} {p q r : Tmp} {ty : TypeId} (h : fn.results = #[.cell p ty, .tmp q, .tmp r]) (tmps : Array Value) (w : World) (g : Nat) (t : TypeId) (cs : Array Value) (fr : Nat × Nat) (d : TypeDesc)
    (hp : tmps.getD p undef = .pointer (some ⟨g, 0, none⟩)) (hg : w.heap[g]? = some (.cells cs t fr))
    (hu : P.underlying ty = some d) (hd : (match d with | .struct _ | .array _ _ => true | _ => false) = true) (hi : (P.info? ty).map (·.size) = some cs.size) :
    (results fn tmps).run P w = .ok (.tuple #[.agg cs, tmps.getD q undef, tmps.getD r undef]) w := by
  have hp' : tmps[p]?.getD undef = .pointer (some ⟨g, 0, none⟩) := by simpa using hp
  simp [results, h, hp', asAddr, run_loadVar_row w g t ty cs fr d hg hu hd hi]

theorem boxGet_err {l : List ChgB} {nm : ByteArray} (h : (boxGet l nm).1 = none) : (boxGet l nm).2 ≠ 0 := by
  unfold boxGet at h ⊢
  split
  · decide
  · rename_i h1
    rw [if_neg h1] at h
    simp only at h ⊢
    rw [h]; decide

/-- What find answers. -/
def FindPost (w : World) (V n : Nat) (l : List ChgB) (x : Option BoxV × Int) (number : Int) (e : Ending) (w' : World) : Prop :=
  ViewIs w' V (n + 1) l ∧ Keep (VKeep V) w w' ∧
  match x.1 with
  | none => e = .returned (.tuple #[.agg #[.int .i64 0, .slice none 0 0], .int .i64 0, .int .i64 x.2])
  | some b => if idxF number b.msgs 0 = -1 then e = .returned (.tuple #[.agg #[.int .i64 0, .slice none 0 0], .int .i64 0, .int .i64 8])
    else ∃ v, e = .returned (.tuple #[.agg #[.int .i64 b.next, v], .int .i64 (idxF number b.msgs 0), .int .i64 0]) ∧ MsgsOwn w' w.heap.size v (b.msgs.map MsgV.b)

set_option maxRecDepth 100000 in
set_option maxHeartbeats 1000000 in
theorem boxFind_any {w : World} {V n : Nat} {l : List ChgB} {ml : Int} (h : ViewIs w V n l) (G : Glob w V ml) (hn : n < 100000000) (nm : ByteArray) (hsz : nm.size ≤ 1000000) (number : Int) (hbl : ∀ b, (boxGet l nm).1 = some b → b.msgs.length ≤ 1000000) :
    Calls Tryz.prog 63 #[.pointer (some ⟨V, 0, none⟩), .string nm, .int .i64 number] w (FindPost w V n l (boxGet l nm) number) := by
  have hm1 : Mods [] w (w.alloc (.cells #[.int .i64 number] 3)) := (Mods.refl _ _).alloc _
  have hm2 : Mods [] w ((w.alloc (.cells #[.int .i64 number] 3)).alloc (.cells #[.int .i64 0, .slice none 0 0] 34)) := hm1.alloc _
  have hI : GeI w ((w.alloc (.cells #[.int .i64 number] 3)).alloc (.cells #[.int .i64 0, .slice none 0 0] 34)) (w.heap.size + 1) V n 34 2 l := by
    have e := heap_alloc_new (w.alloc (.cells #[.int .i64 number] 3)) (.cells #[.int .i64 0, .slice none 0 0] 34)
    rw [World.size_alloc] at e
    exact ⟨⟨_, e, rfl⟩, h.mods hm2, G.u.mods hm2 (by simp), Keep.of_mods hm2 (by simp), by omega, by have := h.lt; omega, G.g0, by decide⟩
  have hp2 : ((w.alloc (.cells #[.int .i64 number] 3)).alloc (.cells #[.int .i64 0, .slice none 0 0] 34)).heap[w.heap.size]? = some (.cells #[.int .i64 number] 3 (0, 0)) := heap_alloc_old (heap_alloc_new w _)
  have hVw := h.lt
  have hg := boxGet_any hI.v (G.mods hm2) hn nm hsz
  have HGT := Lib.hid hg
  have HI := Lib.hid hI
  have HP2 := Lib.hid hp2
  have hbs : Hid ((Tryz.prog.info? 34).map (·.size) = some 2) := by show _ = _; kernel_rfl
  have herr := boxGet_err (l := l) (nm := nm)
  obtain ⟨x, hx⟩ : ∃ x, boxGet l nm = x := ⟨_, rfl⟩
  rw [hx] at HGT herr hbl ⊢
  clear hm1 hm2 hI hp2 hg h G hx
  go_enter Tryz.func63, Tryz.ntmps63
  go_wp2_with fail
  refine HGT.out.mono ?_
  rintro e w2 ⟨hv, hk, hd⟩
  have I := HI.out.view hv hk
  have hp3 := keepV_heap hk (by omega) (by decide) HP2.out
  have hs2 : w.heap.size + 2 ≤ w2.heap.size := by have := hk.size; simp at this; omega
  clear hv hk
  obtain ⟨o, ex⟩ := x
  cases o with
  | none =>
    have hex := herr rfl
    simp only at hex hd
    obtain rfl := hd
    have hex1 : (ex != 0) = true := by simpa using hex
    have J := I.mods ((Mods.refl [] w2).alloc (.cells #[.int .i64 0, .slice none 0 0] 34))
    obtain ⟨z, hz, hzs⟩ := J.rb
    have HZ := Lib.hid hz
    have HZS := Lib.hid hzs
    have HJ := Lib.hid J
    clear I J hz hzs hbl herr hp3
    go_wp2_with (refine wpList_store_row rfl 34 _ _ rfl (w.heap.size + 1) #[.int .i64 0, .slice none 0 0] rfl rfl _ _ HZ.out hbs.out HZS.out (box_one _ _ _ _) ?_)
    refine bodyPost_ret (results_cell_tmp2 Tryz.results63 _ _ (w.heap.size + 1) _ #[.int .i64 0, .slice none 0 0] _ _ rfl (setRow_heap _ _ _ _ _ _ HZ.out) Tryz.underlying34 rfl hbs.out) rfl ?_
    obtain ⟨r1, r2⟩ := HJ.out.out #[.int .i64 0, .slice none 0 0]
    exact ⟨r1, r2, rfl⟩
  | some b =>
    obtain ⟨v, rfl, ho⟩ := hd
    obtain ⟨va, vn, vc, rfl⟩ := owns_shape ho
    have hbl' := hbl b rfl
    have hA := (Mods.refl [] w2).alloc (.cells #[.int .i64 b.next, .slice va vn vc] 34)
    have J := I.mods hA
    have hix := fun W (hW : Mods [] (w2.alloc (.cells #[.int .i64 b.next, .slice va vn vc] 34)) W) => indexMsg_any (w := W) number w.heap.size ((((ho.mods hA (by simp)).mods hW (by simp)).at (by rw [List.length_map]; omega))) (hW.keep (hA.keep (cell_of_heap hp3 0)))
    simp only [map_b_v] at hix
    have HIX := Lib.hid hix
    have c0 := cell_of_heap (heap_alloc_new w2 (.cells #[.int .i64 b.next, .slice va vn vc] 34)) 0
    have c1 := cell_of_heap (heap_alloc_new w2 (.cells #[.int .i64 b.next, .slice va vn vc] 34)) 1
    have HC0 := Lib.hid c0
    have HC1 := Lib.hid c1
    have HJ0 := Lib.hid J
    have HO := Lib.hid (MsgsOwn.mods ho hA (by simp))
    clear I J hbl herr hp3 hix ho hA c0 c1
    have hsp := idxF_spec number b.msgs 0
    obtain ⟨ix, hix⟩ : ∃ ix, idxF number b.msgs 0 = ix := ⟨_, rfl⟩
    rw [hix] at HIX hsp
    have HX := Lib.hid hix
    clear hix
    by_cases hi0 : ix = -1
    · subst hi0
      clear hsp
      go_wp2_with fail
      refine (HIX.out _ (Mods.refl _ _)).mono ?_
      rintro e w3 ⟨rfl, hm3⟩
      have J := HJ0.out.mods hm3
      obtain ⟨z, hz, hzs⟩ := J.rb
      have HZ := Lib.hid hz
      have HZS := Lib.hid hzs
      have HJ := Lib.hid J
      clear J hz hzs hm3
      go_wp2_with (refine wpList_store_row rfl 34 _ _ rfl (w.heap.size + 1) #[.int .i64 0, .slice none 0 0] rfl rfl _ _ HZ.out hbs.out HZS.out (box_one _ _ _ _) ?_)
      refine bodyPost_ret (results_cell_tmp2 Tryz.results63 _ _ (w.heap.size + 1) _ #[.int .i64 0, .slice none 0 0] _ _ rfl (setRow_heap _ _ _ _ _ _ HZ.out) Tryz.underlying34 rfl hbs.out) rfl ?_
      obtain ⟨r1, r2⟩ := HJ.out.out #[.int .i64 0, .slice none 0 0]
      refine ⟨r1, r2, ?_⟩
      try simp only
      rw [if_pos HX.out]
      rfl
    · obtain ⟨i, hil, hi1, _⟩ := hsp.resolve_left hi0
      have hi2 : ¬ ix < 0 := by omega
      go_wp2_with fail
      refine (HIX.out _ (Mods.refl _ _)).mono ?_
      rintro e w3 ⟨rfl, hm3⟩
      have J := HJ0.out.mods hm3
      have k0 := hm3.keep HC0.out
      have k1 := hm3.keep HC1.out
      try simp only [List.getElem?_toArray, List.getElem?_cons_zero, List.getElem?_cons_succ] at k0 k1
      obtain ⟨z, hz, hzs⟩ := J.rb
      have HZ := Lib.hid hz
      have HZS := Lib.hid hzs
      have HJ := Lib.hid J
      have HO3 := Lib.hid (HO.out.mods hm3 (by simp))
      clear J hz hzs hm3 hi1 hsp
      go_wp2_with (refine wpList_store_row rfl 34 _ _ rfl (w.heap.size + 1) #[.int .i64 b.next, .slice va vn vc] rfl rfl _ _ HZ.out hbs.out HZS.out (box_one _ _ _ _) ?_)
      refine bodyPost_ret (results_cell_tmp2 Tryz.results63 _ _ (w.heap.size + 1) _ #[.int .i64 b.next, .slice va vn vc] _ _ rfl (setRow_heap _ _ _ _ _ _ HZ.out) Tryz.underlying34 rfl hbs.out) rfl ?_
      obtain ⟨r1, r2⟩ := HJ.out.out #[.int .i64 b.next, .slice va vn vc]
      refine ⟨r1, r2, ?_⟩
      try simp only
      rw [HX.out, if_neg hi0]
      exact ⟨_, rfl, World.ownsRow.mono (own_setRow HO3.out HZ.out (by decide)) (by simp; omega)⟩
end Go.Proofs.YtlaihnbappfbfaaGreatDoor
