/- Walks of codec: Reader.Flag, Close, Failed; slices.Clone of bytes; NewReader. -/
import Derived.Test.YtedlfmjgbehgkaaGreatDoorCodecW4
import Derived.Laws.IdiomStrings
namespace Go.Proofs.YtedlfmjgbehgkaaGreatDoor
open Go.RowKit

/-- What Close answers. -/
def rclose (s : RS) : Int := if s.e ≠ 0 then s.e else if s.rest = [] then 0 else 5
theorem readerClose_any {w : World} {R B : Nat} {s : RS} (h : IsReader w R B s) :
    Calls Tryz.prog 21 #[.pointer (some ⟨R, 0, none⟩)] w fun e w' => e = .returned (.int .i64 (rclose s)) ∧ w = w' := by
  obtain ⟨v, at_, hR, hv, ha0, ha1, hRB⟩ := id h
  obtain ⟨p, cap, rfl, hcap, hb⟩ := id hv
  have hc0 := cell_of_heap hR 0
  have hc2 := cell_of_heap hR 2
  simp only [List.getElem?_toArray, List.getElem?_cons_zero, List.getElem?_cons_succ] at hc0 hc2
  clear hR hv hb
  by_cases he : s.e = 0
  · by_cases hr : s.rest = []
    · have hc : Hid (rclose s = 0) := by show rclose s = 0; unfold rclose; rw [if_neg (by simpa using he), if_pos hr]
      have h1 : s.rest.length = 0 := by rw [hr]; rfl
      rw [he] at hc2
      rw [h1] at hc0
      clear he hr h1
      go_enter Tryz.func21, Tryz.ntmps21
      go_wp2
      go_ret
      rw [hc.out]; exact ⟨rfl, rfl⟩
    · have hc : Hid (rclose s = 5) := by show rclose s = 5; unfold rclose; rw [if_neg (by simpa using he), if_neg hr]
      have h1 : 0 < s.rest.length := List.length_pos_iff.2 hr
      rw [he] at hc2
      clear he hr
      go_enter Tryz.func21, Tryz.ntmps21
      go_wp2
      go_ret
      rw [hc.out]; exact ⟨rfl, rfl⟩
  · have hc : Hid (rclose s = s.e) := by show rclose s = s.e; unfold rclose; rw [if_pos he]
    have h1' : (s.e == 0) = false := by simpa using he
    have h1'' : (s.e != 0) = true := by simpa using he
    clear he
    go_enter Tryz.func21, Tryz.ntmps21
    go_wp2
    go_ret
    rw [hc.out]; exact ⟨rfl, rfl⟩

/-- '[]byte(s)': the value, and the world behind it. -/
def bvOf (w : World) (s : ByteArray) : Value := .slice (some ⟨w.heap.size, 0, none⟩) s.size (grownCap w s.size 0 5)
noncomputable def bwOf (w : World) (s : ByteArray) : World := w.drew.alloc (.cells (bytesRow s (grownCap w s.size 0 5)) 5 ((bytesRow s (grownCap w s.size 0 5)).size, (bytesRow s (grownCap w s.size 0 5)).size + 1))
theorem run_bytes (w : World) (s : ByteArray) : (convert 9 51 (.string s)).run Tryz.prog w = .ok (bvOf w s) (bwOf w s) :=
  run_bytes_of_string w 9 51 5 s Tryz.underlying9 Tryz.underlying51 Tryz.underlying5
theorem bwOf_mods (w : World) (s : ByteArray) : Mods [] w (bwOf w s) := ((Mods.refl [] w).drew).alloc _
theorem bwOf_size (w : World) (s : ByteArray) : (bwOf w s).heap.size = w.heap.size + 1 := by
  unfold bwOf; rw [World.size_alloc]; rfl
theorem bwOf_bytes (w : World) (s : ByteArray) : BytesIn (bwOf w s) w.heap.size (bvOf w s) s.data.toList := by
  have hsz : s.data.toList.length = s.size := Array.length_toList
  refine ⟨_, _, by rw [hsz]; rfl, by rw [hsz]; exact grownCap_ge w s.size 0 5, .inr ⟨0, rfl, fun i hi => ?_⟩⟩
  have hi' : i < s.data.size := by simpa using hi
  have := cell_of_heap (heap_alloc_new w.drew (.cells (bytesRow s (grownCap w s.size 0 5)) 5 ((bytesRow s (grownCap w s.size 0 5)).size, (bytesRow s (grownCap w s.size 0 5)).size + 1))) (0 + i)
  refine Eq.trans this ?_
  rw [Nat.zero_add, bytesRow_at s _ i hi']
  simp

theorem infoByte : (Tryz.prog.info? 5).map (fun i => (i.zero, i.size, i.bytes)) = some (some (.int .u8 0), 1, 1) := by kernel_rfl
/-- The cells of bytes. -/
def bcells (l : List UInt8) : List Value := l.map fun c => .int .u8 c.toNat
theorem bcells_length (l : List UInt8) : (bcells l).length = l.length := by simp [bcells]
theorem bcells_one (l : List UInt8) : ∀ u ∈ bcells l, u.oneCell' = true := by
  intro u hu
  simp only [bcells, List.mem_map] at hu
  obtain ⟨c, _, rfl⟩ := hu
  rfl
theorem bcells_append (a b : List UInt8) : bcells (a ++ b) = bcells a ++ bcells b := by simp [bcells]
/-- An owned row of bytes reads as those. -/
theorem bytesIn_of_owns {w : World} {base : Nat} {v : Value} {l : List UInt8} (h : w.ownsRow base 5 1 v l.length (bcells l)) {g : Nat} (hg : v.ownBlock = some g) : BytesIn w g v l := by
  have hcells := h.cells hg
  obtain ⟨_, ⟨rfl, h2⟩ | ⟨g', cap, cur, rfl, hb, hh, hn, hm, hc, ht⟩⟩ := h
  · simp [Value.ownBlock] at hg
  · simp only [Value.ownBlock, Option.some.injEq] at hg
    subst hg
    refine ⟨_, _, rfl, hn, .inr ⟨0, rfl, fun i hi => ?_⟩⟩
    have := hcells i (.int .u8 l[i].toNat) (by simp [bcells, List.getElem?_eq_getElem hi])
    rw [Addr.add_lit] at this
    exact this
theorem bytesIn_of_owns_nil {w : World} {base : Nat} {v : Value} {l : List UInt8} (h : w.ownsRow base 5 1 v l.length (bcells l)) (hg : v.ownBlock = none) (B : Nat) : BytesIn w B v l := by
  obtain ⟨_, ⟨rfl, h2⟩ | ⟨g', cap, cur, rfl, hb, hh, hn, hm, hc, ht⟩⟩ := h
  · have : l = [] := by simpa using h2
    subst this
    exact ⟨none, 0, rfl, Nat.le_refl _, .inl rfl⟩
  · simp [Value.ownBlock] at hg

set_option maxHeartbeats 1000000 in
set_option maxRecDepth 100000 in
/-- slices.Clone of bytes that are not nil: new memory. -/
theorem cloneBytes_any {w : World} {B : Nat} {a : Addr} {n cap : Nat} {l : List UInt8} (h : BytesIn w B (.slice (some a) n cap) l) (hl : l.length ≤ 140737488355328) :
    Calls Tryz.prog 45 #[.slice (some a) n cap] w fun e w' => ∃ v' g, e = .returned v' ∧ BytesIn w' g v' l ∧ w.heap.size ≤ g ∧ g < w'.heap.size ∧ Mods [] w w' := by
  obtain ⟨p', cap', e, hcap, hb⟩ := h
  simp only [Value.slice.injEq] at e
  obtain ⟨rfl, rfl, rfl⟩ := e
  obtain ⟨i0, hi, hz0, hz1, hz2⟩ := info_parts infoByte
  have q22 : ∀ (w : World) (a : Option Addr) (n c n' c' : Nat), (binOp .eql 51 (.slice a n c) (.slice none n' c')).run Tryz.prog w = .ok (.bool a.isNone) w := fun w a n c n' c' => Lib.run_eql_slice_nil w _ _ a n c n' c' Tryz.underlying51
  have hcells : ∀ j u, (bcells l)[j]? = some u → w.cell? (a.add j) = some u := by
    intro j u hj
    rcases hb with rfl | ⟨off, e, hc⟩
    · simp [bcells] at hj
    · simp only [Option.some.injEq] at e
      subst e
      have hjl : j < l.length := by
        rcases Nat.lt_or_ge j l.length with h | h
        · exact h
        · simp [bcells, List.getElem?_eq_none h] at hj
      simp [bcells, List.getElem?_eq_getElem hjl] at hj
      subst hj
      rw [Addr.add_lit]
      exact hc j hjl
  have A := Lib.hid hcells
  clear hb hcells
  go_enter Tryz.func45, Tryz.ntmps45
  go_wp2_with (at_builtin; refine wpList_append_own _ rfl _ _ 51 rfl w.heap.size 5 i0 (.int .u8 0) 1 1 Tryz.underlying51 hi hz0 hz1 hz2 rfl (by decide) _ _ _ rfl (World.ownsRow_made w #[] 0 (Nat.le_refl _) (Nat.zero_le _) (by simp)) a l.length cap (bcells l) rfl ?qc1 ?qc2 ?qc3 ?qc4 ?qc5 ?qc6 ?_)
  case qc1 => simp [bcells]
  case qc2 =>
    intro j u hj
    exact Lib.cell?_alloc_some _ (A.out j u hj)
  case qc3 => exact bcells_one l
  case qc4 => unfold maxLen; omega
  case qc5 => omega
  case qc6 => simp
  intro v' w1 hown hgrow hnil
  go_wp2
  go_ret
  have hg : ∃ g, v'.ownBlock = some g := by
    cases hv : v'.ownBlock with
    | some g => exact ⟨g, rfl⟩
    | none =>
      exfalso
      obtain ⟨_, ⟨rfl, h2⟩ | ⟨g', cap, cur, rfl, _⟩⟩ := hown
      · simp at hnil
      · simp [Value.ownBlock] at hv
  obtain ⟨g, hg⟩ := hg
  have hlt := hown.lt g hg
  refine ⟨v', g, rfl, bytesIn_of_owns hown hg, hlt.1, hlt.2, ?_⟩
  exact ((Mods.refl [] w).alloc _).grown hgrow (by intro k hk; simp [Value.ownBlock] at hk; omega)

/-- codec.NewReader. -/
theorem newReader_any {w : World} {B : Nat} {a : Addr} {n cap : Nat} {l : List UInt8} (h : BytesIn w B (.slice (some a) n cap) l) (hl : l.length ≤ 140737488355328) :
    Calls Tryz.prog 18 #[.slice (some a) n cap] w fun e w' => ∃ R g, e = .returned (.pointer (some ⟨R, 0, none⟩)) ∧ IsReader w' R g ⟨l, 0⟩ ∧ w.heap.size ≤ g ∧ g < R ∧ R < w'.heap.size ∧ Mods [] w w' := by
  have h0 := Lib.hid h
  clear h
  go_enter Tryz.func18, Tryz.ntmps18
  go_wp2_with fail
  refine (cloneBytes_any h0.out hl).mono ?_
  rintro e w1 ⟨v', g, rfl, hb, hg1, hg2, hm⟩
  have H1 := Lib.hid hb
  have H2 := Lib.hid hm
  clear hb hm
  obtain ⟨p', cap', rfl, hcap, hb⟩ := id H1.out
  clear hb
  go_wp2
  go_ret
  refine ⟨w1.heap.size, g, rfl, ⟨_, 0, heap_alloc_new w1 _, H1.out.mods ((Mods.refl [] w1).alloc _) (by simp), by omega, by simp; omega, by omega⟩, hg1, hg2, by simp, H2.out.alloc _⟩
end Go.Proofs.YtedlfmjgbehgkaaGreatDoor
