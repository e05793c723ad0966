/- Walks of codec: Reader.Flag, Close, Failed; slices.Clone of bytes; NewReader. Walks of codec: the writer. Walks of codec: the writer's methods, where there was no error. -/
import Derived.Test.YtlaihnbappfbfaaGreatDoorCodecW4
import Derived.Laws.IdiomStrings
import Derived.Lib.AppendStr
namespace Go.Proofs.YtlaihnbappfbfaaGreatDoor
open Go.RowKit

theorem readerFlag_any {w : World} {R B : Nat} {s : RS} (h : IsReader w R B s) :
    Calls Tryz.prog 59 #[.pointer (some ⟨R, 0, none⟩)] w fun e w' => e = .returned (.bool (rstep false pFlag s).1) ∧ IsReader w' R B (rstep false pFlag s).2 ∧ Mods [R] w w' := by
  have h0 := Lib.hid h
  clear h
  go_enter Tryz.func59, Tryz.ntmps59
  go_wp2_with (go_at_call 91; refine (readFlag_any h0.out).mono ?_; rintro e w' ⟨rfl, hr, hm'⟩)
  go_ret
  exact ⟨rfl, hr, hm'⟩

/-- What Close answers. -/
def rclose (s : RS) : Int := if s.e ≠ 0 then s.e else if s.rest = [] then 0 else 5
theorem readerClose_any {w : World} {R B : Nat} {s : RS} (h : IsReader w R B s) :
    Calls Tryz.prog 60 #[.pointer (some ⟨R, 0, none⟩)] w fun e w' => e = .returned (.int .i64 (rclose s)) ∧ w = w' := by
  obtain ⟨v, at_, hR, hv, ha0, ha1, hRB⟩ := id h
  obtain ⟨p, cap, rfl, hcap, hb⟩ := id hv
  have hc0 := cell_of_heap hR 0
  have hc2 := cell_of_heap hR 2
  simp only [List.getElem?_toArray, List.getElem?_cons_zero, List.getElem?_cons_succ] at hc0 hc2
  clear hR hv hb
  by_cases he : s.e = 0
  · by_cases hr : s.rest = []
    · have hc : Hid (rclose s = 0) := by show rclose s = 0; unfold rclose; rw [if_neg (by simpa using he), if_pos hr]
      have h1 : s.rest.length = 0 := by rw [hr]; rfl
      rw [he] at hc2
      rw [h1] at hc0
      clear he hr h1
      go_enter Tryz.func60, Tryz.ntmps60
      go_wp2
      go_ret
      rw [hc.out]; exact ⟨rfl, rfl⟩
    · have hc : Hid (rclose s = 5) := by show rclose s = 5; unfold rclose; rw [if_neg (by simpa using he), if_neg hr]
      have h1 : 0 < s.rest.length := List.length_pos_iff.2 hr
      rw [he] at hc2
      clear he hr
      go_enter Tryz.func60, Tryz.ntmps60
      go_wp2
      go_ret
      rw [hc.out]; exact ⟨rfl, rfl⟩
  · have hc : Hid (rclose s = s.e) := by show rclose s = s.e; unfold rclose; rw [if_pos he]
    have h1' : (s.e == 0) = false := by simpa using he
    have h1'' : (s.e != 0) = true := by simpa using he
    clear he
    go_enter Tryz.func60, Tryz.ntmps60
    go_wp2
    go_ret
    rw [hc.out]; exact ⟨rfl, rfl⟩

theorem readerFailed_any {w : World} {R B : Nat} {s : RS} (h : IsReader w R B s) :
    Calls Tryz.prog 129 #[.pointer (some ⟨R, 0, none⟩)] w fun e w' => (∃ at_ : Int, e = .returned (.tuple #[.int .i64 at_, .int .i64 s.e])) ∧ Mods [] w w' := by
  obtain ⟨v, at_, hR, hv, ha0, ha1, hRB⟩ := id h
  have hc1 := cell_of_heap hR 1
  have hc2 := cell_of_heap hR 2
  simp only [List.getElem?_toArray, List.getElem?_cons_zero, List.getElem?_cons_succ] at hc1 hc2
  clear hR hv
  by_cases he : s.e = 0
  · rw [he] at hc2
    have he0 := Lib.hid he
    clear he
    go_enter Tryz.func129, Tryz.ntmps129
    go_wp2
    go_ret2
    rw [he0.out]; exact ⟨⟨0, rfl⟩, Mods.refl _ _⟩
  · have h1' : (s.e == 0) = false := by simpa using he
    have h1'' : (s.e != 0) = true := by simpa using he
    clear he
    go_enter Tryz.func129, Tryz.ntmps129
    go_wp2
    go_region
    all_goals go_wp2
    all_goals go_ret2
    all_goals exact ⟨⟨at_, rfl⟩, (Mods.refl _ _).drew⟩

/-- '[]byte(s)': the value, and the world behind it. -/
def bvOf (w : World) (s : ByteArray) : Value := .slice (some ⟨w.heap.size, 0, none⟩) s.size (grownCap w s.size 0 5)
noncomputable def bwOf (w : World) (s : ByteArray) : World := w.drew.alloc (.cells (bytesRow s (grownCap w s.size 0 5)) 5 ((bytesRow s (grownCap w s.size 0 5)).size, (bytesRow s (grownCap w s.size 0 5)).size + 1))
theorem run_bytes (w : World) (s : ByteArray) : (convert 9 66 (.string s)).run Tryz.prog w = .ok (bvOf w s) (bwOf w s) :=
  run_bytes_of_string w 9 66 5 s Tryz.underlying9 Tryz.underlying66 Tryz.underlying5
theorem bwOf_mods (w : World) (s : ByteArray) : Mods [] w (bwOf w s) := ((Mods.refl [] w).drew).alloc _
theorem bwOf_size (w : World) (s : ByteArray) : (bwOf w s).heap.size = w.heap.size + 1 := by
  unfold bwOf; rw [World.size_alloc]; rfl
theorem bwOf_bytes (w : World) (s : ByteArray) : BytesIn (bwOf w s) w.heap.size (bvOf w s) s.data.toList := by
  have hsz : s.data.toList.length = s.size := Array.length_toList
  refine ⟨_, _, by rw [hsz]; rfl, by rw [hsz]; exact grownCap_ge w s.size 0 5, .inr ⟨0, rfl, fun i hi => ?_⟩⟩
  have hi' : i < s.data.size := by simpa using hi
  have := cell_of_heap (heap_alloc_new w.drew (.cells (bytesRow s (grownCap w s.size 0 5)) 5 ((bytesRow s (grownCap w s.size 0 5)).size, (bytesRow s (grownCap w s.size 0 5)).size + 1))) (0 + i)
  refine Eq.trans this ?_
  rw [Nat.zero_add, bytesRow_at s _ i hi']
  simp

theorem infoByte : (Tryz.prog.info? 5).map (fun i => (i.zero, i.size, i.bytes)) = some (some (.int .u8 0), 1, 1) := by kernel_rfl
/-- The cells of bytes. -/
def bcells (l : List UInt8) : List Value := l.map fun c => .int .u8 c.toNat
theorem bcells_length (l : List UInt8) : (bcells l).length = l.length := by simp [bcells]
theorem bcells_one (l : List UInt8) : ∀ u ∈ bcells l, u.oneCell' = true := by
  intro u hu
  simp only [bcells, List.mem_map] at hu
  obtain ⟨c, _, rfl⟩ := hu
  rfl
theorem bcells_append (a b : List UInt8) : bcells (a ++ b) = bcells a ++ bcells b := by simp [bcells]
/-- An owned row of bytes reads as those. -/
theorem bytesIn_of_owns {w : World} {base : Nat} {v : Value} {l : List UInt8} (h : w.ownsRow base 5 1 v l.length (bcells l)) {g : Nat} (hg : v.ownBlock = some g) : BytesIn w g v l := by
  have hcells := h.cells hg
  obtain ⟨_, ⟨rfl, h2⟩ | ⟨g', cap, cur, rfl, hb, hh, hn, hm, hc, ht⟩⟩ := h
  · simp [Value.ownBlock] at hg
  · simp only [Value.ownBlock, Option.some.injEq] at hg
    subst hg
    refine ⟨_, _, rfl, hn, .inr ⟨0, rfl, fun i hi => ?_⟩⟩
    have := hcells i (.int .u8 l[i].toNat) (by simp [bcells, List.getElem?_eq_getElem hi])
    rw [Addr.add_lit] at this
    exact this
theorem bytesIn_of_owns_nil {w : World} {base : Nat} {v : Value} {l : List UInt8} (h : w.ownsRow base 5 1 v l.length (bcells l)) (hg : v.ownBlock = none) (B : Nat) : BytesIn w B v l := by
  obtain ⟨_, ⟨rfl, h2⟩ | ⟨g', cap, cur, rfl, hb, hh, hn, hm, hc, ht⟩⟩ := h
  · have : l = [] := by simpa using h2
    subst this
    exact ⟨none, 0, rfl, Nat.le_refl _, .inl rfl⟩
  · simp [Value.ownBlock] at hg

set_option maxHeartbeats 1000000 in
set_option maxRecDepth 100000 in
/-- slices.Clone of bytes that are not nil: new memory. -/
theorem cloneBytes_any {w : World} {B : Nat} {a : Addr} {n cap : Nat} {l : List UInt8} (h : BytesIn w B (.slice (some a) n cap) l) (hl : l.length ≤ 140737488355328) :
    Calls Tryz.prog 84 #[.slice (some a) n cap] w fun e w' => ∃ v' g, e = .returned v' ∧ BytesIn w' g v' l ∧ w.heap.size ≤ g ∧ g < w'.heap.size ∧ Mods [] w w' := by
  obtain ⟨p', cap', e, hcap, hb⟩ := h
  simp only [Value.slice.injEq] at e
  obtain ⟨rfl, rfl, rfl⟩ := e
  obtain ⟨i0, hi, hz0, hz1, hz2⟩ := info_parts infoByte
  have q22 : ∀ (w : World) (a : Option Addr) (n c n' c' : Nat), (binOp .eql 66 (.slice a n c) (.slice none n' c')).run Tryz.prog w = .ok (.bool a.isNone) w := fun w a n c n' c' => Lib.run_eql_slice_nil w _ _ a n c n' c' Tryz.underlying66
  have hcells : ∀ j u, (bcells l)[j]? = some u → w.cell? (a.add j) = some u := by
    intro j u hj
    rcases hb with rfl | ⟨off, e, hc⟩
    · simp [bcells] at hj
    · simp only [Option.some.injEq] at e
      subst e
      have hjl : j < l.length := by
        rcases Nat.lt_or_ge j l.length with h | h
        · exact h
        · simp [bcells, List.getElem?_eq_none h] at hj
      simp [bcells, List.getElem?_eq_getElem hjl] at hj
      subst hj
      rw [Addr.add_lit]
      exact hc j hjl
  have A := Lib.hid hcells
  clear hb hcells
  go_enter Tryz.func84, Tryz.ntmps84
  go_wp2_with (at_builtin; refine wpList_append_own _ rfl _ _ 66 rfl w.heap.size 5 i0 (.int .u8 0) 1 1 Tryz.underlying66 hi hz0 hz1 hz2 rfl (by decide) _ _ _ rfl (World.ownsRow_made w #[] 0 (Nat.le_refl _) (Nat.zero_le _) (by simp)) a l.length cap (bcells l) rfl ?qc1 ?qc2 ?qc3 ?qc4 ?qc5 ?qc6 ?_)
  case qc1 => simp [bcells]
  case qc2 =>
    intro j u hj
    exact Lib.cell?_alloc_some _ (A.out j u hj)
  case qc3 => exact bcells_one l
  case qc4 => unfold maxLen; omega
  case qc5 => omega
  case qc6 => simp
  intro v' w1 hown hgrow hnil
  go_wp2
  go_ret
  have hg : ∃ g, v'.ownBlock = some g := by
    cases hv : v'.ownBlock with
    | some g => exact ⟨g, rfl⟩
    | none =>
      exfalso
      obtain ⟨_, ⟨rfl, h2⟩ | ⟨g', cap, cur, rfl, _⟩⟩ := hown
      · simp at hnil
      · simp [Value.ownBlock] at hv
  obtain ⟨g, hg⟩ := hg
  have hlt := hown.lt g hg
  refine ⟨v', g, rfl, bytesIn_of_owns hown hg, hlt.1, hlt.2, ?_⟩
  exact ((Mods.refl [] w).alloc _).grown hgrow (by intro k hk; simp [Value.ownBlock] at hk; omega)

/-- codec.NewReader. -/
theorem newReader_any {w : World} {B : Nat} {a : Addr} {n cap : Nat} {l : List UInt8} (h : BytesIn w B (.slice (some a) n cap) l) (hl : l.length ≤ 140737488355328) :
    Calls Tryz.prog 56 #[.slice (some a) n cap] w fun e w' => ∃ R g, e = .returned (.pointer (some ⟨R, 0, none⟩)) ∧ IsReader w' R g ⟨l, 0⟩ ∧ w.heap.size ≤ g ∧ g < R ∧ R < w'.heap.size ∧ Mods [] w w' := by
  have h0 := Lib.hid h
  clear h
  go_enter Tryz.func56, Tryz.ntmps56
  go_wp2_with fail
  refine (cloneBytes_any h0.out hl).mono ?_
  rintro e w1 ⟨v', g, rfl, hb, hg1, hg2, hm⟩
  have H1 := Lib.hid hb
  have H2 := Lib.hid hm
  clear hb hm
  obtain ⟨p', cap', rfl, hcap, hb⟩ := id H1.out
  clear hb
  go_wp2
  go_ret
  refine ⟨w1.heap.size, g, rfl, ⟨_, 0, heap_alloc_new w1 _, H1.out.mods ((Mods.refl [] w1).alloc _) (by simp), by omega, by simp; omega, by omega⟩, hg1, hg2, by simp, H2.out.alloc _⟩
end Go.Proofs.YtlaihnbappfbfaaGreatDoor

namespace Go.Proofs.YtlaihnbappfbfaaGreatDoor
open Go.RowKit

/-- Every old block of which P speaks is as it was. -/
structure Keep (P : Nat → Obj → Prop) (w w' : World) : Prop where
  os : w'.os = w.os
  tape : w'.tape = w.tape
  output : w'.output = w.output
  size : w.heap.size ≤ w'.heap.size
  block : ∀ k o, w.heap[k]? = some o → P k o → w'.heap[k]? = some o
theorem Keep.refl (P : Nat → Obj → Prop) (w : World) : Keep P w w := ⟨rfl, rfl, rfl, Nat.le_refl _, fun _ _ h _ => h⟩
theorem Keep.trans {P : Nat → Obj → Prop} {a b c : World} (h : Keep P a b) (k : Keep P b c) : Keep P a c :=
  ⟨k.os.trans h.os, k.tape.trans h.tape, k.output.trans h.output, Nat.le_trans h.size k.size, fun i o hi hP => k.block i o (h.block i o hi hP) hP⟩
theorem Keep.weaken {P Q : Nat → Obj → Prop} {a b : World} (h : Keep P a b) (hQ : ∀ k o, a.heap[k]? = some o → Q k o → P k o) : Keep Q a b :=
  ⟨h.os, h.tape, h.output, h.size, fun i o hi hP => h.block i o hi (hQ i o hi hP)⟩
theorem Keep.of_mods {P : Nat → Obj → Prop} {S : List Nat} {a b : World} (h : Mods S a b) (hP : ∀ k o, a.heap[k]? = some o → P k o → k ∉ S) : Keep P a b :=
  ⟨h.os, h.tape, h.output, h.size, fun _ _ hi hk => h.heap hi (hP _ _ hi hk)⟩
theorem Keep.mods {P : Nat → Obj → Prop} {S : List Nat} {a b : World} (h : Keep P a b) (hP : ∀ k o, a.heap[k]? = some o → k ∉ S → P k o) : Mods S a b :=
  ⟨h.os, h.tape, h.output, h.size, fun k hk hS => by
    have hs : a.heap[k]? = some a.heap[k] := Array.getElem?_eq_getElem hk
    rw [h.block k _ hs (hP k _ hs hS), hs]⟩
theorem Keep.cell {P : Nat → Obj → Prop} {w w' : World} (h : Keep P w w') {b off : Nat} {o : Obj} (hb : w.heap[b]? = some o) (hP : P b o) : w'.cell? ⟨b, off, none⟩ = w.cell? ⟨b, off, none⟩ :=
  World.cell?_of_block (w := w) ((h.block b o hb hP).trans hb.symm)
theorem Keep.alloc {P : Nat → Obj → Prop} {a w : World} (h : Keep P a w) (o : Obj) : Keep P a (w.alloc o) :=
  h.trans (.of_mods (S := []) ((Mods.refl [] w).alloc o) (by simp))
theorem Keep.grown {P : Nat → Obj → Prop} {a w w' : World} {row : Option Nat} (h : Keep P a w) (hg : w.grownBy w' row) (hr : ∀ k o, row = some k → w.heap[k]? = some o → ¬ P k o) : Keep P a w' :=
  h.trans ⟨hg.os, hg.tape, hg.output, hg.size, fun k o hk hP => by
    rw [hg.block k (lt_of_heap hk) (fun e => hr k o e.symm hk hP)]; exact hk⟩

/-- What a call keeps that may write to rows of bytes from block B on. -/
def NotRow (B k : Nat) (o : Obj) : Prop := k < B ∨ ∀ cur, o ≠ .cells cur 5 (0, 0)
theorem notRow_of_owns {w : World} {B : Nat} {v : Value} {n : Nat} {xs : List Value} (h : w.ownsRow B 5 1 v n xs) (k : Nat) (o : Obj) (hk : v.ownBlock = some k) (ho : w.heap[k]? = some o) : ¬ NotRow B k o := by
  obtain ⟨_, ⟨rfl, h2⟩ | ⟨g', cap, cur, rfl, hb, hh, hn, hm, hc, ht⟩⟩ := h
  · simp [Value.ownBlock] at hk
  · simp only [Value.ownBlock, Option.some.injEq] at hk
    subst hk
    rw [hh] at ho
    simp only [Option.some.injEq] at ho
    subst ho
    rintro (h | h)
    · omega
    · exact h cur rfl

theorem bits_or_128 (n : Nat) : bits .or .u8 ((n : Int) % 256) 128 = ((n % 128 + 128 : Nat) : Int) := by
  have h1 : (n : Int) % 256 = ((n % 256 : Nat) : Int) := by omega
  have := (bits_nat .u8 8 (by decide) (fun n h0 h1 => IntWalk.u8_in n ⟨h0, by omega⟩) (n % 256) 128 (by omega) (by decide)).2
  rw [h1]
  refine Eq.trans this ?_
  have h2 : ∀ a, a < 256 → a ||| 128 = a % 128 + 128 := by decide +kernel
  rw [h2 _ (by omega)]
  omega

set_option maxRecDepth 100000 in
set_option maxHeartbeats 1000000 in
/-- appendNatural to a row of the call's own. -/
theorem appendNatural_any {w : World} {B : Nat} {v : Value} {l : List UInt8} (n : Nat) (hn : n < 18446744073709551616) (h : w.ownsRow B 5 1 v l.length (bcells l)) (hl : l.length ≤ 140737488355000) (hB : B ≤ w.heap.size) :
    Calls Tryz.prog 83 #[v, .int .u64 n] w fun e w' => ∃ v', e = .returned v' ∧ w'.ownsRow B 5 1 v' (l ++ encNat n).length (bcells (l ++ encNat n)) ∧ Keep (NotRow B) w w' := by
  obtain ⟨i0, hi, hz0, hz1, hz2⟩ := info_parts infoByte
  have h0 := Lib.hid h
  clear h
  go_enter Tryz.func83, Tryz.ntmps83
  go_wp2
  go_loopw [0, 1] (fun b u wr => ∃ (m : Nat) (p : List UInt8), u = .int .u64 m ∧ m < 18446744073709551616 ∧ Hid (p ++ encNat m = encNat n) ∧ Hid (wr.ownsRow B 5 1 b (l ++ p).length (bcells (l ++ p))) ∧ Hid (Keep (NotRow B) w wr)) (fun _ u _ => (intOf u).toNat)
  case atStart => exact ⟨n, [], rfl, hn, rfl, by rw [List.append_nil]; exact h0.out, Keep.refl _ _⟩
  case round =>
    obtain ⟨m, p, rfl, hm, hp, ho, hk⟩ := hrel
    have hlen10 := encNat_length_u64 n hn
    have hpl : p.length + (encNat m).length ≤ 10 := by
      have := congrArg List.length hp.out
      rw [List.length_append] at this
      omega
    have hws : B ≤ wr.heap.size := Nat.le_trans hB hk.out.size
    by_cases h1 : m < 128
    · go_wp2_with (at_builtin; refine wpList_append_own _ rfl _ _ 66 rfl B 5 i0 (.int .u8 0) 1 1 Tryz.underlying66 hi hz0 hz1 hz2 rfl (by decide) _ _ _ rfl (ho.out.alloc _) ⟨wr.heap.size, 0, none⟩ 1 1 [.int .u8 m] rfl rfl ?c1 ?c2 ?c3 ?c4 ?c5 ?_)
      case c1 => exact cell_one_new _ _ _
      case c2 => exact fun u hu => by simp at hu; subst hu; rfl
      case c3 => unfold maxLen; rw [List.length_append]; omega
      case c4 => rw [List.length_append]; omega
      case c5 => rw [World.size_alloc]; omega
      intro v' w1 hown hgrow _
      have hcat : p ++ [UInt8.ofNat m] = encNat n := by rw [← hp.out, encNat_small h1]
      have hm8 : (UInt8.ofNat m).toNat = m := u8_toNat_ofNat (by omega)
      have hown' : Hid (w1.ownsRow B 5 1 v' (l ++ encNat n).length (bcells (l ++ encNat n))) := by
        show World.ownsRow _ _ _ _ _ _ _
        rw [← hcat, ← List.append_assoc, bcells_append, List.length_append]
        simpa [bcells, hm8] using hown
      have hkeep : Hid (Keep (NotRow B) w w1) := (hk.out.alloc _).grown hgrow (notRow_of_owns (ho.out.alloc _))
      clear hown hgrow hcat hm8
      go_wp2
      go_ret
      exact ⟨v', rfl, hown'.out, hkeep.out⟩
    · have h1' : 128 ≤ (m : Int) := by omega
      go_wp2_with (at_builtin; refine wpList_append_own _ rfl _ _ 66 rfl B 5 i0 (.int .u8 0) 1 1 Tryz.underlying66 hi hz0 hz1 hz2 rfl (by decide) _ _ _ rfl (ho.out.alloc _) ⟨wr.heap.size, 0, none⟩ 1 1 [.int .u8 (bits .or .u8 ((m : Int) % 256) 128)] rfl rfl ?d1 ?d2 ?d3 ?d4 ?d5 ?_)
      case d1 => exact cell_one_new _ _ _
      case d2 => exact fun u hu => by simp at hu; subst hu; rfl
      case d3 => unfold maxLen; rw [List.length_append]; omega
      case d4 => rw [List.length_append]; omega
      case d5 => rw [World.size_alloc]; omega
      intro v' w1 hown hgrow _
      have hcat : (p ++ [UInt8.ofNat (m % 128 + 128)]) ++ encNat (m / 128) = encNat n := by rw [← hp.out, encNat_large h1]; simp
      have hm8 : (UInt8.ofNat (m % 128 + 128)).toNat = m % 128 + 128 := u8_toNat_ofNat (by omega)
      have hown' : Hid (w1.ownsRow B 5 1 v' (l ++ (p ++ [UInt8.ofNat (m % 128 + 128)])).length (bcells (l ++ (p ++ [UInt8.ofNat (m % 128 + 128)])))) := by
        show World.ownsRow _ _ _ _ _ _ _
        rw [← List.append_assoc, bcells_append, List.length_append]
        rw [bits_or_128] at hown
        have e8 : bcells [UInt8.ofNat (m % 128 + 128)] = [.int .u8 ((m % 128 + 128 : Nat) : Int)] := by simp only [bcells, List.map_cons, List.map_nil, hm8]
        rw [e8, List.length_append]
        exact hown
      have hkeep : Hid (Keep (NotRow B) w w1) := (hk.out.alloc _).grown hgrow (notRow_of_owns (ho.out.alloc _))
      have Hcat := Lib.hid hcat
      clear hown hgrow hcat hm8
      go_wp2
      go_roundw
      case rel => exact ⟨m / 128, p ++ [UInt8.ofNat (m % 128 + 128)], by go_num, by omega, Hcat, hown', hkeep⟩
      case measure => simp [intOf]; omega
end Go.Proofs.YtlaihnbappfbfaaGreatDoor

namespace Go.Proofs.YtlaihnbappfbfaaGreatDoor
open Go.RowKit

/-- Block W is a writer without an error that has written l. -/
def IsWriter (w : World) (W : Nat) (l : List UInt8) : Prop :=
  ∃ v, w.heap[W]? = some (.cells #[v, .int .i64 0] 143 (0, 0)) ∧ w.ownsRow (W + 1) 5 1 v l.length (bcells l)
/-- What a writer's method keeps. -/
def WKeep (W k : Nat) (o : Obj) : Prop := k ≠ W ∧ NotRow (W + 1) k o
theorem IsWriter.lt {w : World} {W : Nat} {l : List UInt8} (h : IsWriter w W l) : W < w.heap.size := by
  obtain ⟨v, h, _⟩ := h
  exact lt_of_heap h
theorem owns_of_block {w w' : World} {B : Nat} {v : Value} {n : Nat} {xs : List Value} (h : w.ownsRow B 5 1 v n xs) (hb : ∀ k, v.ownBlock = some k → w'.heap[k]? = w.heap[k]?) : w'.ownsRow B 5 1 v n xs := by
  obtain ⟨h1, ⟨rfl, h2⟩ | ⟨g', cap, cur, rfl, hB, hh, hn, hm, hc, ht⟩⟩ := h
  · exact ⟨h1, .inl ⟨rfl, h2⟩⟩
  · exact ⟨h1, .inr ⟨g', cap, cur, rfl, hB, by rw [hb g' rfl]; exact hh, hn, hm, hc, ht⟩⟩
/-- A call that keeps the writer's block and its row. -/
theorem IsWriter.keep {P : Nat → Obj → Prop} {w w' : World} {W : Nat} {l : List UInt8} (h : IsWriter w W l) (hk : Keep P w w') (h1 : ∀ o, P W o) (h2 : ∀ k cur, W < k → P k (.cells cur 5 (0, 0))) : IsWriter w' W l := by
  obtain ⟨v, hW, ho⟩ := h
  refine ⟨v, hk.block _ _ hW (h1 _), owns_of_block ho fun k hk' => ?_⟩
  obtain ⟨_, ⟨rfl, _⟩ | ⟨g', cap, cur, rfl, hB, hh, _⟩⟩ := ho
  · simp [Value.ownBlock] at hk'
  · simp only [Value.ownBlock, Option.some.injEq] at hk'
    subst hk'
    rw [hh, hk.block _ _ hh (h2 _ _ hB)]
theorem IsWriter.mods {S : List Nat} {w w' : World} {W : Nat} {l : List UInt8} (h : IsWriter w W l) (hm : Mods S w w') (hS : ∀ k ∈ S, k < W) : IsWriter w' W l :=
  h.keep (P := fun k _ => k ∉ S) (.of_mods hm (fun _ _ _ h => h)) (fun _ hm => by have := hS _ hm; omega) (fun k _ hk hm => by have := hS _ hm; omega)
theorem owns_shape {w : World} {B : Nat} {e : TypeId} {s : Nat} {v : Value} {n : Nat} {xs : List Value} (h : w.ownsRow B e s v n xs) : ∃ a m c, v = .slice a m c := by
  obtain ⟨_, ⟨rfl, rfl⟩ | ⟨g', cap, cur, rfl, _⟩⟩ := h
  · exact ⟨_, _, _, rfl⟩
  · exact ⟨_, _, _, rfl⟩
/-- The last store of a method: the new row goes into the writer's block. -/
theorem writer_stored {w w1 : World} {W : Nat} {v v' : Value} {l : List UInt8} (hW : w.heap[W]? = some (.cells #[v, .int .i64 0] 143 (0, 0)))
    (ho : w1.ownsRow (W + 1) 5 1 v' l.length (bcells l)) (hk : Keep (NotRow (W + 1)) w w1) :
    IsWriter (w1.setCell ⟨W, 0, none⟩ v') W l ∧ Keep (WKeep W) w (w1.setCell ⟨W, 0, none⟩ v') := by
  have hW1 : w1.heap[W]? = some (.cells #[v, .int .i64 0] 143 (0, 0)) := hk.block _ _ hW (.inl (by omega))
  refine ⟨⟨v', ?_, owns_of_block ho fun k hk' => heap_setCell_ne (by have := (ho.lt k hk').1; omega) _⟩, ?_⟩
  · have := heap_setCell_same (off := 0) hW1 v'
    simpa using this
  · exact (hk.weaken (fun k o _ h => h.2)).trans (.of_mods (S := [W]) ((Mods.refl [W] w1).setCell (.inl (by simp)) _) (fun k o _ h => by simpa using h.1))

theorem newWriter_any (w : World) : Calls Tryz.prog 49 #[] w fun e w' => e = .returned (.pointer (some ⟨w.heap.size, 0, none⟩)) ∧ IsWriter w' w.heap.size [] ∧ Mods [] w w' ∧ w'.heap.size = w.heap.size + 1 := by
  go_enter Tryz.func49, Tryz.ntmps49
  go_wp2
  go_ret
  exact ⟨rfl, ⟨_, heap_alloc_new w _, World.ownsRow_nil _ _ _ _⟩, (Mods.refl [] w).alloc _, by simp⟩

theorem writerNumber_any {w : World} {W : Nat} {l : List UInt8} (n : Nat) (hn : n < 9223372036854775808) (h : IsWriter w W l) (hl : l.length ≤ 140737488355000) :
    Calls Tryz.prog 50 #[.pointer (some ⟨W, 0, none⟩), .int .i64 n] w fun e w' => e = .returned (.tuple #[]) ∧ IsWriter w' W (l ++ encNat n) ∧ Keep (WKeep W) w w' := by
  have hlt := h.lt
  obtain ⟨v, hW, ho⟩ := h
  have hc0 := cell_of_heap hW 0
  have hc1 := cell_of_heap hW 1
  have hf0 := frozen_of_heap hW 0
  simp only [List.getElem?_toArray, List.getElem?_cons_zero, List.getElem?_cons_succ] at hc0 hc1
  have ho0 := Lib.hid ho
  have hW0 := Lib.hid hW
  have e1 : IntKind.u64.wrap (n : Int) = (n : Int) := IntWalk.u64_in _ ⟨by omega, by omega⟩
  clear ho hW
  go_enter Tryz.func50, Tryz.ntmps50
  go_wp2_with (go_at_call 82; go_in)
  refine (appendNatural_any n (by omega) ho0.out hl (by omega)).mono ?_
  rintro e w1 ⟨v', rfl, ho1, hk1⟩
  obtain ⟨a1, m1, c1, rfl⟩ := owns_shape ho1
  have hf1 : w1.frozen? ⟨W, 0, none⟩ = false := frozen_of_heap (hk1.block _ _ hW0.out (.inl (by omega))) 0
  have hc1' : w1.cell? ⟨W, 0, none⟩ = some v := by rw [cell_of_heap (hk1.block _ _ hW0.out (.inl (by omega))) 0]; rfl
  have H1 := Lib.hid ho1
  have H2 := Lib.hid hk1
  clear ho1 hk1
  go_wp2
  go_end0
  exact ⟨rfl, writer_stored hW0.out H1.out H2.out⟩

/-- The encoding of a text. -/
def encText (s : List UInt8) : List UInt8 := encNat s.length ++ s
theorem strCells_bytes (s : ByteArray) : Lib.strCells s = bcells s.data.toList := by
  simp [Lib.strCells, bcells]
set_option maxRecDepth 100000 in
theorem writerText_any {w : World} {W : Nat} {l : List UInt8} (s : ByteArray) (hs : s.size ≤ 16777216) (h : IsWriter w W l) (hl : l.length ≤ 140737000000000) :
    Calls Tryz.prog 51 #[.pointer (some ⟨W, 0, none⟩), .string s] w fun e w' => e = .returned (.tuple #[]) ∧ IsWriter w' W (l ++ encText s.data.toList) ∧ Keep (WKeep W) w w' := by
  have hlt := h.lt
  obtain ⟨v, hW, ho⟩ := h
  have hc0 := cell_of_heap hW 0
  have hc1 := cell_of_heap hW 1
  have hf0 := frozen_of_heap hW 0
  simp only [List.getElem?_toArray, List.getElem?_cons_zero, List.getElem?_cons_succ] at hc0 hc1
  obtain ⟨i0, hi, hz0, hz1, hz2⟩ := info_parts infoByte
  have ho0 := Lib.hid ho
  have hW0 := Lib.hid hW
  have e1 : IntKind.u64.wrap (s.size : Int) = (s.size : Int) := IntWalk.u64_in _ ⟨by omega, by omega⟩
  have hsl : s.data.toList.length = s.size := Array.length_toList
  have hlen := encNat_length_u64 s.size (by omega)
  have Hsl := Lib.hid hsl
  clear ho hW hsl
  go_enter Tryz.func51, Tryz.ntmps51
  go_wp2_with (go_at_call 82; go_in)
  refine (appendNatural_any s.size (by omega) ho0.out (by omega) (by omega)).mono ?_
  rintro e w1 ⟨v', rfl, ho1, hk1⟩
  have H1 := Lib.hid ho1
  have H2 := Lib.hid hk1
  have hs1 : W + 1 ≤ w1.heap.size := Nat.le_trans hlt hk1.size
  clear ho1 hk1
  go_wp2_with (at_builtin; refine Lib.wpList_append_own_string _ rfl _ _ 66 9 rfl (W + 1) 5 i0 Tryz.underlying66 Tryz.underlying9 hi hz0 hz1 hz2 _ _ _ rfl H1.out s rfl ?c1 ?c2 hs1 ?_)
  case c1 => unfold maxLen; rw [List.length_append]; omega
  case c2 => rw [List.length_append]; omega
  intro v2 w2 ho2 hg2 _
  obtain ⟨a2, m2, c2, rfl⟩ := owns_shape ho2
  have hk2 : Keep (NotRow (W + 1)) w w2 := H2.out.grown hg2 (notRow_of_owns H1.out)
  have hf1 : w2.frozen? ⟨W, 0, none⟩ = false := frozen_of_heap (hk2.block _ _ hW0.out (.inl (by omega))) 0
  have hc1' : w2.cell? ⟨W, 0, none⟩ = some v := by rw [cell_of_heap (hk2.block _ _ hW0.out (.inl (by omega))) 0]; rfl
  have H3 : Hid (w2.ownsRow (W + 1) 5 1 (.slice a2 m2 c2) (l ++ encText s.data.toList).length (bcells (l ++ encText s.data.toList))) := by
    show World.ownsRow _ _ _ _ _ _ _
    unfold encText
    rw [← List.append_assoc, bcells_append, Hsl.out, List.length_append, Hsl.out, ← strCells_bytes, List.length_append]
    exact ho2
  have H4 := Lib.hid hk2
  clear ho2 hg2 hk2
  go_wp2
  go_end0
  exact ⟨rfl, writer_stored hW0.out H3.out H4.out⟩

set_option maxRecDepth 100000 in
theorem writerFlag_any {w : World} {W : Nat} {l : List UInt8} (b : Bool) (h : IsWriter w W l) (hl : l.length ≤ 140737000000000) :
    Calls Tryz.prog 52 #[.pointer (some ⟨W, 0, none⟩), .bool b] w fun e w' => e = .returned (.tuple #[]) ∧ IsWriter w' W (l ++ [if b then 1 else 0]) ∧ Keep (WKeep W) w w' := by
  have hlt := h.lt
  obtain ⟨v, hW, ho⟩ := h
  have hc0 := cell_of_heap hW 0
  have hc1 := cell_of_heap hW 1
  have hf0 := frozen_of_heap hW 0
  simp only [List.getElem?_toArray, List.getElem?_cons_zero, List.getElem?_cons_succ] at hc0 hc1
  obtain ⟨i0, hi, hz0, hz1, hz2⟩ := info_parts infoByte
  have ho0 := Lib.hid ho
  have hW0 := Lib.hid hW
  clear ho hW
  cases b
  all_goals
    go_enter Tryz.func52, Tryz.ntmps52
    go_wp2_with (first | (go_at_call 82; go_in) | (at_builtin; refine wpList_append_own _ rfl _ _ 66 rfl (W + 1) 5 i0 (.int .u8 0) 1 1 Tryz.underlying66 hi hz0 hz1 hz2 rfl (by decide) _ _ _ rfl (ho0.out.alloc _) ⟨w.heap.size, 0, none⟩ 1 1 [_] rfl rfl (cell_one_new _ _ _) (fun u hu => by simp at hu; subst hu; rfl) (by unfold maxLen; omega) (by omega) (by simp; omega) ?_))
    intro v2 w2 ho2 hg2 _
    obtain ⟨a2, m2, c2, rfl⟩ := owns_shape ho2
    have hk2 : Keep (NotRow (W + 1)) w w2 := ((Keep.refl _ w).alloc _).grown hg2 (notRow_of_owns (ho0.out.alloc _))
    have hf1 : w2.frozen? ⟨W, 0, none⟩ = false := frozen_of_heap (hk2.block _ _ hW0.out (.inl (by omega))) 0
    have hc1' : w2.cell? ⟨W, 0, none⟩ = some v := by rw [cell_of_heap (hk2.block _ _ hW0.out (.inl (by omega))) 0]; rfl
    have H3 := Lib.hid ho2
    have H4 := Lib.hid hk2
    clear ho2 hg2 hk2
    go_wp2
    go_end0
    refine ⟨rfl, writer_stored hW0.out ?_ H4.out⟩
    rw [bcells_append, List.length_append]
    exact H3.out

set_option maxRecDepth 100000 in
theorem writerBytes_any {w : World} {W : Nat} {l : List UInt8} (h : IsWriter w W l) (hne : l ≠ []) (hl : l.length ≤ 140737000000000) :
    Calls Tryz.prog 53 #[.pointer (some ⟨W, 0, none⟩)] w fun e w' => ∃ v g, e = .returned (.tuple #[v, .int .i64 0]) ∧ BytesIn w' g v l ∧ w.heap.size ≤ g ∧ g < w'.heap.size ∧ Mods [] w w' := by
  have hlt := h.lt
  obtain ⟨v, hW, ho⟩ := h
  have hc0 := cell_of_heap hW 0
  have hc1 := cell_of_heap hW 1
  simp only [List.getElem?_toArray, List.getElem?_cons_zero, List.getElem?_cons_succ] at hc0 hc1
  have hg : ∃ g, v.ownBlock = some g := by
    cases hv : v.ownBlock with
    | some g => exact ⟨g, rfl⟩
    | none =>
      exfalso
      obtain ⟨_, ⟨rfl, h2⟩ | ⟨g', cap, cur, rfl, _⟩⟩ := ho
      · exact hne (by simpa using h2)
      · simp [Value.ownBlock] at hv
  obtain ⟨g, hg⟩ := hg
  have hb := bytesIn_of_owns ho hg
  obtain ⟨a0, m0, c0, rfl⟩ := owns_shape ho
  cases a0 with
  | none => simp [Value.ownBlock] at hg
  | some a0 =>
    have Hb := Lib.hid hb
    clear ho hW hg hb hne
    go_enter Tryz.func53, Tryz.ntmps53
    go_wp2_with (go_at_call 84; refine (cloneBytes_any Hb.out (by omega)).mono ?_; rintro e w1 ⟨v', g', rfl, h1, h2, h3, h4⟩)
    go_ret2
    exact ⟨v', g', rfl, h1, h2, h3, h4⟩
end Go.Proofs.YtlaihnbappfbfaaGreatDoor
