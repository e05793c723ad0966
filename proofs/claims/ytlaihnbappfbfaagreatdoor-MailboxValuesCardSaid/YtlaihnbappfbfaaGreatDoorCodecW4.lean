/- Walks of codec: Reader.Number, Text, Flag, Close, Failed; NewReader (printed by gen_codec4.py). -/
import Derived.Test.YtlaihnbappfbfaaGreatDoorA2
namespace Go.Proofs.YtlaihnbappfbfaaGreatDoor
open Go.RowKit

def pText (most : Int) (b : List UInt8) : List UInt8 × Nat × Int :=
  if (parse9 b).2.2 ≠ 0 then ([], 0, (parse9 b).2.2)
  else if most < (parse9 b).1 ∨ (16777216 : Int) < (parse9 b).1 then ([], 0, 5)
  else if (b.length : Int) - (parse9 b).2.1 < (parse9 b).1 then ([], 0, 28)
  else ((b.drop (parse9 b).2.1).take (parse9 b).1, (parse9 b).2.1 + (parse9 b).1, 0)
theorem parse9_size (b : List UInt8) : (parse9 b).2.1 ≤ b.length := by
  by_cases he : (parse9 b).2.2 = 0
  · exact (parse9_ok b (parse9 b).1 (parse9 b).2.1 (by rw [← he])).2.1
  · rw [(parse9_err b he).2]; omega
theorem pNum_size (most : Int) (b : List UInt8) : (pNum most b).2.1 ≤ b.length := by
  unfold pNum; split <;> exact parse9_size b
theorem pFlag_size (b : List UInt8) : (pFlag b).2.1 ≤ b.length := by
  unfold pFlag; split
  · simp
  · split <;> simp
theorem pText_size (most : Int) (b : List UInt8) : (pText most b).2.1 ≤ b.length := by
  unfold pText
  split
  · simp
  split
  · simp
  split
  · simp
  · simp only []
    omega

set_option maxRecDepth 100000 in
set_option maxHeartbeats 1000000 in
/-- The closure of Reader.Text. -/
theorem text1_any {l : List UInt8} {v : Value} {w : World} {m : Addr} {most : Int} (hv : BytesAt w v l) (hl : l.length ≤ 1000000000000000000) (hm : w.cell? m = some (.int .i64 most)) :
    Calls Tryz.prog 90 #[v, .pointer (some m)] w fun e w' => e = .returned (.tuple #[.string ⟨(pText most l).1.toArray⟩, .int .i64 (pText most l).2.1, .int .i64 (pText most l).2.2]) ∧ w = w' := by
  have hl' : l.length ≤ maxLen := by unfold maxLen; omega
  obtain ⟨r, hr⟩ : ∃ r, parse9 l = r := ⟨_, rfl⟩
  have hps := parse9_size l
  have hpt : pText most l = if r.2.2 ≠ 0 then ([], 0, r.2.2) else if most < r.1 ∨ (16777216 : Int) < r.1 then ([], 0, 5) else if (l.length : Int) - r.2.1 < r.1 then ([], 0, 28) else ((l.drop r.2.1).take r.1, r.2.1 + r.1, 0) := by rw [← hr]; rfl
  rw [hr] at hps
  have Hr := Lib.hid hr
  clear hr
  obtain ⟨n, size, er⟩ := r
  simp only at hps hpt
  by_cases h1 : er = 0
  · subst h1
    by_cases h2 : most < (n : Int)
    · rw [if_neg (by simp), if_pos (.inl h2)] at hpt
      have Hp := Lib.hid hpt
      clear hpt
      go_enter Tryz.func90, Tryz.ntmps90
      go_wp2_with (go_at_call 88; refine (parse_any hv hl').mono ?_; rw [Hr.out]; rintro e w' ⟨rfl, rfl⟩)
      go_ret3
      rw [Hp.out]
      exact ⟨rfl, rfl⟩
    by_cases h3 : (16777216 : Int) < (n : Int)
    · rw [if_neg (by simp), if_pos (.inr h3)] at hpt
      have Hp := Lib.hid hpt
      clear hpt
      go_enter Tryz.func90, Tryz.ntmps90
      go_wp2_with (go_at_call 88; refine (parse_any hv hl').mono ?_; rw [Hr.out]; rintro e w' ⟨rfl, rfl⟩)
      go_ret3
      rw [Hp.out]
      exact ⟨rfl, rfl⟩
    rw [if_neg (by simp), if_neg (by omega)] at hpt
    obtain ⟨B, p, cap, rfl, hcap, hb⟩ := id hv
    by_cases h4 : (l.length : Int) - (size : Int) < (n : Int)
    · rw [if_pos h4] at hpt
      have Hp := Lib.hid hpt
      clear hpt hb
      go_enter Tryz.func90, Tryz.ntmps90
      go_wp2_with (go_at_call 88; refine (parse_any hv hl').mono ?_; rw [Hr.out]; rintro e w' ⟨rfl, rfl⟩)
      go_ret3
      rw [Hp.out]
      exact ⟨rfl, rfl⟩
    · rw [if_neg h4] at hpt
      have Hp := Lib.hid hpt
      obtain ⟨Bv, hv'⟩ := id hv
      obtain ⟨_, hcut1, hcut2⟩ := hv'.cut size hps
      have k1 : (convert 66 9 (.slice (Option.map (fun x => x.add size) p) n (cap - size))).run Tryz.prog w = .ok (.string ⟨((l.drop size).take n).toArray⟩) w := (hcut1.keep_head n (by simp; omega)).run_string
      have k2 : cap = size → (convert 66 9 (.slice p n 0)).run Tryz.prog w = .ok (.string ⟨((l.drop size).take n).toArray⟩) w := fun e => ((hcut2 e).keep_head n (by simp; omega)).run_string
      clear hpt hb hcut1 hcut2
      go_enter Tryz.func90, Tryz.ntmps90
      go_wp2_with (go_at_call 88; refine (parse_any hv hl').mono ?_; rw [Hr.out]; rintro e w' ⟨rfl, rfl⟩)
      all_goals go_ret3
      all_goals rw [Hp.out]
      all_goals exact ⟨by simp, rfl⟩
  · rw [if_pos h1] at hpt
    have Hp := Lib.hid hpt
    have h1' : (er == 0) = false := by simpa using h1
    have h1'' : (er != 0) = true := by simpa using h1
    clear hpt h1
    go_enter Tryz.func90, Tryz.ntmps90
    go_wp2_with (go_at_call 88; refine (parse_any hv hl').mono ?_; rw [Hr.out]; rintro e w' ⟨rfl, rfl⟩)
    go_ret3
    rw [Hp.out]
    exact ⟨rfl, rfl⟩

/-- What a read does to the reader's state. -/
def rstep {α : Type} (z : α) (p : List UInt8 → α × Nat × Int) (s : RS) : α × RS :=
  if s.e ≠ 0 then (z, s) else if (p s.rest).2.2 ≠ 0 then (z, ⟨s.rest, (p s.rest).2.2⟩) else ((p s.rest).1, ⟨s.rest.drop (p s.rest).2.1, 0⟩)

set_option maxRecDepth 100000 in
set_option maxHeartbeats 1000000 in
theorem readNumber_any {w : World} {R B : Nat} {s : RS} {m : Addr} {most : Int} (h : IsReader w R B s) (hm : w.cell? m = some (.int .i64 most)) :
    Calls Tryz.prog 86 #[.pointer (some ⟨R, 0, none⟩), .func (.func 87) #[] #[.pointer (some m)]] w fun e w' => e = .returned (.int .i64 (rstep 0 (pNum most) s).1) ∧ IsReader w' R B (rstep 0 (pNum most) s).2 ∧ Mods [R] w w' := by
  obtain ⟨v, at_, hR, hv, ha0, ha1, hRB⟩ := id h
  obtain ⟨p, cap, rfl, hcap, hb⟩ := id hv
  have hl' : s.rest.length ≤ 1000000000000000000 := by omega
  have hl : s.rest.length ≤ maxLen := by unfold maxLen; omega
  have hc0 := cell_of_heap hR 0
  have hc1 := cell_of_heap hR 1
  have hc2 := cell_of_heap hR 2
  have hf0 := frozen_of_heap hR 0
  have hf1 := frozen_of_heap hR 1
  have hf2 := frozen_of_heap hR 2
  simp only [List.getElem?_toArray, List.getElem?_cons_zero, List.getElem?_cons_succ] at hc0 hc1 hc2
  have hsz := pNum_size most s.rest
  by_cases he : s.e = 0
  · by_cases her : ((pNum most) s.rest).2.2 = 0
    · have hst : rstep 0 (pNum most) s = (((pNum most) s.rest).1, ⟨s.rest.drop ((pNum most) s.rest).2.1, 0⟩) := by unfold rstep; rw [if_neg (by simpa using he), if_neg (by simpa using her)]
      rw [hst]
      obtain ⟨r, hr⟩ : ∃ r, (pNum most) s.rest = r := ⟨_, rfl⟩
      have Hr := Lib.hid hr
      rw [hr] at her hsz ⊢
      obtain ⟨n, size, er⟩ := r
      simp only at her hsz
      subst her
      rw [he] at hc2 hR
      obtain ⟨_, hcut1, hcut2⟩ := hv.cut size hsz
      have H1 := Lib.hid hcut1
      have H2 := Lib.hid hcut2
      have hv0 := Lib.hid hv
      have hR0 := Lib.hid hR
      have hRB0 := Lib.hid hRB
      clear hr hst he hcut1 hcut2 hv hR hb hRB h
      go_enter Tryz.func86, Tryz.ntmps86
      go_wp2_with (go_at_call 87; refine (number1_any ⟨B, hv0.out⟩ hl hm).mono ?_; rw [Hr.out]; rintro e w' ⟨rfl, rfl⟩)
      all_goals go_ret
      · exact ⟨rfl, reader_moved hR0.out (H2.out (by assumption)) ha0 (by rw [List.length_drop]; omega) hRB0.out⟩
      · exact ⟨rfl, reader_moved hR0.out H1.out ha0 (by rw [List.length_drop]; omega) hRB0.out⟩
    · have hst : rstep 0 (pNum most) s = (0, ⟨s.rest, ((pNum most) s.rest).2.2⟩) := by unfold rstep; rw [if_neg (by simpa using he), if_pos her]
      rw [hst]
      obtain ⟨r, hr⟩ : ∃ r, (pNum most) s.rest = r := ⟨_, rfl⟩
      have Hr := Lib.hid hr
      rw [hr] at her ⊢
      obtain ⟨n, size, er⟩ := r
      simp only at her
      have h1' : (er == 0) = false := by simpa using her
      have h1'' : (er != 0) = true := by simpa using her
      rw [he] at hc2 hR
      have hv0 := Lib.hid hv
      have hR0 := Lib.hid hR
      have hRB0 := Lib.hid hRB
      clear hr hst he her hsz hv hR hb hRB h
      go_enter Tryz.func86, Tryz.ntmps86
      go_wp2_with (go_at_call 87; refine (number1_any ⟨B, hv0.out⟩ hl hm).mono ?_; rw [Hr.out]; rintro e w' ⟨rfl, rfl⟩)
      go_ret
      exact ⟨rfl, reader_failed hR0.out hv0.out ha0 (by omega) hRB0.out⟩
  · have hst : rstep 0 (pNum most) s = (0, s) := by unfold rstep; rw [if_pos he]
    rw [hst]
    have h1' : (s.e == 0) = false := by simpa using he
    have h1'' : (s.e != 0) = true := by simpa using he
    have h0 := Lib.hid h
    clear hst he hv hR hb hRB h
    go_enter Tryz.func86, Tryz.ntmps86
    go_wp2_with fail
    go_ret
    exact ⟨rfl, h0.out, Mods.refl _ _⟩

/-- Reader.Number. -/
theorem readerNumber_any {w : World} {R B : Nat} {s : RS} (most : Int) (h : IsReader w R B s) :
    Calls Tryz.prog 57 #[.pointer (some ⟨R, 0, none⟩), .int .i64 most] w fun e w' => e = .returned (.int .i64 (rstep 0 (pNum most) s).1) ∧ IsReader w' R B (rstep 0 (pNum most) s).2 ∧ Mods [R] w w' := by
  have h1 := h.lt
  have h2 : IsReader (w.alloc (.cells #[.int .i64 most] 3)) R B s := by
    obtain ⟨v, at_, hR, hv, h3⟩ := h
    exact ⟨v, at_, heap_alloc_old hR, hv.mods ((Mods.refl [] w).alloc _) (by simp), h3⟩
  have h0 := Lib.hid h2
  have hm := World.cell?_alloc_new w #[.int .i64 most] 3 0
  clear h h2
  go_enter Tryz.func57, Tryz.ntmps57
  go_wp2_with fail
  refine (readNumber_any h0.out hm).mono ?_
  rintro e w' ⟨rfl, hr, hm'⟩
  go_wp2_with fail
  go_ret
  exact ⟨rfl, hr, ((Mods.refl [R] w).alloc _).trans hm' (by simp)⟩

set_option maxRecDepth 100000 in
set_option maxHeartbeats 1000000 in
theorem readText_any {w : World} {R B : Nat} {s : RS} {m : Addr} {most : Int} (h : IsReader w R B s) (hm : w.cell? m = some (.int .i64 most)) :
    Calls Tryz.prog 89 #[.pointer (some ⟨R, 0, none⟩), .func (.func 90) #[] #[.pointer (some m)]] w fun e w' => e = .returned (.string ⟨ (rstep [] (pText most) s).1.toArray⟩) ∧ IsReader w' R B (rstep [] (pText most) s).2 ∧ Mods [R] w w' := by
  obtain ⟨v, at_, hR, hv, ha0, ha1, hRB⟩ := id h
  obtain ⟨p, cap, rfl, hcap, hb⟩ := id hv
  have hl' : s.rest.length ≤ 1000000000000000000 := by omega
  have hl : s.rest.length ≤ maxLen := by unfold maxLen; omega
  have hc0 := cell_of_heap hR 0
  have hc1 := cell_of_heap hR 1
  have hc2 := cell_of_heap hR 2
  have hf0 := frozen_of_heap hR 0
  have hf1 := frozen_of_heap hR 1
  have hf2 := frozen_of_heap hR 2
  simp only [List.getElem?_toArray, List.getElem?_cons_zero, List.getElem?_cons_succ] at hc0 hc1 hc2
  have hsz := pText_size most s.rest
  by_cases he : s.e = 0
  · by_cases her : ((pText most) s.rest).2.2 = 0
    · have hst : rstep [] (pText most) s = (((pText most) s.rest).1, ⟨s.rest.drop ((pText most) s.rest).2.1, 0⟩) := by unfold rstep; rw [if_neg (by simpa using he), if_neg (by simpa using her)]
      rw [hst]
      obtain ⟨r, hr⟩ : ∃ r, (pText most) s.rest = r := ⟨_, rfl⟩
      have Hr := Lib.hid hr
      rw [hr] at her hsz ⊢
      obtain ⟨n, size, er⟩ := r
      simp only at her hsz
      subst her
      rw [he] at hc2 hR
      obtain ⟨_, hcut1, hcut2⟩ := hv.cut size hsz
      have H1 := Lib.hid hcut1
      have H2 := Lib.hid hcut2
      have hv0 := Lib.hid hv
      have hR0 := Lib.hid hR
      have hRB0 := Lib.hid hRB
      clear hr hst he hcut1 hcut2 hv hR hb hRB h
      go_enter Tryz.func89, Tryz.ntmps89
      go_wp2_with (go_at_call 90; refine (text1_any ⟨B, hv0.out⟩ hl' hm).mono ?_; rw [Hr.out]; rintro e w' ⟨rfl, rfl⟩)
      all_goals go_ret
      · exact ⟨rfl, reader_moved hR0.out (H2.out (by assumption)) ha0 (by rw [List.length_drop]; omega) hRB0.out⟩
      · exact ⟨rfl, reader_moved hR0.out H1.out ha0 (by rw [List.length_drop]; omega) hRB0.out⟩
    · have hst : rstep [] (pText most) s = ([], ⟨s.rest, ((pText most) s.rest).2.2⟩) := by unfold rstep; rw [if_neg (by simpa using he), if_pos her]
      rw [hst]
      obtain ⟨r, hr⟩ : ∃ r, (pText most) s.rest = r := ⟨_, rfl⟩
      have Hr := Lib.hid hr
      rw [hr] at her ⊢
      obtain ⟨n, size, er⟩ := r
      simp only at her
      have h1' : (er == 0) = false := by simpa using her
      have h1'' : (er != 0) = true := by simpa using her
      rw [he] at hc2 hR
      have hv0 := Lib.hid hv
      have hR0 := Lib.hid hR
      have hRB0 := Lib.hid hRB
      clear hr hst he her hsz hv hR hb hRB h
      go_enter Tryz.func89, Tryz.ntmps89
      go_wp2_with (go_at_call 90; refine (text1_any ⟨B, hv0.out⟩ hl' hm).mono ?_; rw [Hr.out]; rintro e w' ⟨rfl, rfl⟩)
      go_ret
      exact ⟨rfl, reader_failed hR0.out hv0.out ha0 (by omega) hRB0.out⟩
  · have hst : rstep [] (pText most) s = ([], s) := by unfold rstep; rw [if_pos he]
    rw [hst]
    have h1' : (s.e == 0) = false := by simpa using he
    have h1'' : (s.e != 0) = true := by simpa using he
    have h0 := Lib.hid h
    clear hst he hv hR hb hRB h
    go_enter Tryz.func89, Tryz.ntmps89
    go_wp2_with fail
    go_ret
    exact ⟨rfl, h0.out, Mods.refl _ _⟩

/-- Reader.Text. -/
theorem readerText_any {w : World} {R B : Nat} {s : RS} (most : Int) (h : IsReader w R B s) :
    Calls Tryz.prog 58 #[.pointer (some ⟨R, 0, none⟩), .int .i64 most] w fun e w' => e = .returned (.string ⟨ (rstep [] (pText most) s).1.toArray⟩) ∧ IsReader w' R B (rstep [] (pText most) s).2 ∧ Mods [R] w w' := by
  have h1 := h.lt
  have h2 : IsReader (w.alloc (.cells #[.int .i64 most] 3)) R B s := by
    obtain ⟨v, at_, hR, hv, h3⟩ := h
    exact ⟨v, at_, heap_alloc_old hR, hv.mods ((Mods.refl [] w).alloc _) (by simp), h3⟩
  have h0 := Lib.hid h2
  have hm := World.cell?_alloc_new w #[.int .i64 most] 3 0
  clear h h2
  go_enter Tryz.func58, Tryz.ntmps58
  go_wp2_with fail
  refine (readText_any h0.out hm).mono ?_
  rintro e w' ⟨rfl, hr, hm'⟩
  go_wp2_with fail
  go_ret
  exact ⟨rfl, hr, ((Mods.refl [R] w).alloc _).trans hm' (by simp)⟩

set_option maxRecDepth 100000 in
set_option maxHeartbeats 1000000 in
theorem readFlag_any {w : World} {R B : Nat} {s : RS}  (h : IsReader w R B s)  :
    Calls Tryz.prog 91 #[.pointer (some ⟨R, 0, none⟩), .func (.func 92) #[] #[]] w fun e w' => e = .returned (.bool (rstep false pFlag s).1) ∧ IsReader w' R B (rstep false pFlag s).2 ∧ Mods [R] w w' := by
  obtain ⟨v, at_, hR, hv, ha0, ha1, hRB⟩ := id h
  obtain ⟨p, cap, rfl, hcap, hb⟩ := id hv
  have hl' : s.rest.length ≤ 1000000000000000000 := by omega
  have hl : s.rest.length ≤ maxLen := by unfold maxLen; omega
  have hc0 := cell_of_heap hR 0
  have hc1 := cell_of_heap hR 1
  have hc2 := cell_of_heap hR 2
  have hf0 := frozen_of_heap hR 0
  have hf1 := frozen_of_heap hR 1
  have hf2 := frozen_of_heap hR 2
  simp only [List.getElem?_toArray, List.getElem?_cons_zero, List.getElem?_cons_succ] at hc0 hc1 hc2
  have hsz := pFlag_size s.rest
  by_cases he : s.e = 0
  · by_cases her : (pFlag s.rest).2.2 = 0
    · have hst : rstep false pFlag s = ((pFlag s.rest).1, ⟨s.rest.drop (pFlag s.rest).2.1, 0⟩) := by unfold rstep; rw [if_neg (by simpa using he), if_neg (by simpa using her)]
      rw [hst]
      obtain ⟨r, hr⟩ : ∃ r, pFlag s.rest = r := ⟨_, rfl⟩
      have Hr := Lib.hid hr
      rw [hr] at her hsz ⊢
      obtain ⟨n, size, er⟩ := r
      simp only at her hsz
      subst her
      rw [he] at hc2 hR
      obtain ⟨_, hcut1, hcut2⟩ := hv.cut size hsz
      have H1 := Lib.hid hcut1
      have H2 := Lib.hid hcut2
      have hv0 := Lib.hid hv
      have hR0 := Lib.hid hR
      have hRB0 := Lib.hid hRB
      clear hr hst he hcut1 hcut2 hv hR hb hRB h
      go_enter Tryz.func91, Tryz.ntmps91
      go_wp2_with (go_at_call 92; refine (flag1_any ⟨B, hv0.out⟩ hl).mono ?_; rw [Hr.out]; rintro e w' ⟨rfl, rfl⟩)
      all_goals go_ret
      · exact ⟨rfl, reader_moved hR0.out (H2.out (by assumption)) ha0 (by rw [List.length_drop]; omega) hRB0.out⟩
      · exact ⟨rfl, reader_moved hR0.out H1.out ha0 (by rw [List.length_drop]; omega) hRB0.out⟩
    · have hst : rstep false pFlag s = (false, ⟨s.rest, (pFlag s.rest).2.2⟩) := by unfold rstep; rw [if_neg (by simpa using he), if_pos her]
      rw [hst]
      obtain ⟨r, hr⟩ : ∃ r, pFlag s.rest = r := ⟨_, rfl⟩
      have Hr := Lib.hid hr
      rw [hr] at her ⊢
      obtain ⟨n, size, er⟩ := r
      simp only at her
      have h1' : (er == 0) = false := by simpa using her
      have h1'' : (er != 0) = true := by simpa using her
      rw [he] at hc2 hR
      have hv0 := Lib.hid hv
      have hR0 := Lib.hid hR
      have hRB0 := Lib.hid hRB
      clear hr hst he her hsz hv hR hb hRB h
      go_enter Tryz.func91, Tryz.ntmps91
      go_wp2_with (go_at_call 92; refine (flag1_any ⟨B, hv0.out⟩ hl).mono ?_; rw [Hr.out]; rintro e w' ⟨rfl, rfl⟩)
      go_ret
      exact ⟨rfl, reader_failed hR0.out hv0.out ha0 (by omega) hRB0.out⟩
  · have hst : rstep false pFlag s = (false, s) := by unfold rstep; rw [if_pos he]
    rw [hst]
    have h1' : (s.e == 0) = false := by simpa using he
    have h1'' : (s.e != 0) = true := by simpa using he
    have h0 := Lib.hid h
    clear hst he hv hR hb hRB h
    go_enter Tryz.func91, Tryz.ntmps91
    go_wp2_with fail
    go_ret
    exact ⟨rfl, h0.out, Mods.refl _ _⟩

end Go.Proofs.YtlaihnbappfbfaaGreatDoor
