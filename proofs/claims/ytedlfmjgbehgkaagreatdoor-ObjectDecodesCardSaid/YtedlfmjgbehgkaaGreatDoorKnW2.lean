/- Walks of object: String at the names of the examples. -/
import Derived.Test.YtedlfmjgbehgkaaGreatDoorKnW1
import Derived.Test.YtedlfmjgbehgkaaGreatDoorRefW4
import Derived.Deep.QuietTactic
namespace Go.Proofs.YtedlfmjgbehgkaaGreatDoor
open Go.RowKit

set_option maxRecDepth 100000 in
set_option maxHeartbeats 1000000 in
theorem string_bad (k : Int) (o t : ByteArray) (n i : Int) (w : World) (hu : Usages w) (ho : o.size ≤ 1000000) (ht : t.size ≤ 1000000)
    (hc : checkV ⟨k, o.data.toList, n, i, t.data.toList⟩ ≠ 0) :
    Calls Tryz.prog 16 #[nameVal k o n i t] w fun e w' => e = .returned (.string ⟨#[]⟩) ∧ Mods [] w w' := by
  have hlt := hu.lt
  have Hu := Lib.hid hu
  obtain ⟨c, hcc⟩ : ∃ c, checkV ⟨k, o.data.toList, n, i, t.data.toList⟩ = c := ⟨_, rfl⟩
  have b1 : (c == 0) = false := by rw [← hcc]; simpa using hc
  have b2 : (c != 0) = true := by rw [← hcc]; simpa using hc
  have Hc := Lib.hid hcc
  clear hu hc hcc
  unfold nameVal
  go_enter Tryz.func16, Tryz.ntmps16
  go_wp2_with fail
  refine (check_any k o t n i _ (Hu.out.mods ((Mods.refl [] w).alloc _) (by simp)) (by omega) (by omega)).mono ?_
  rintro e w1 ⟨rfl, hm⟩
  rw [Hc.out]
  have Hm := Lib.hid hm
  clear hm
  go_wp2
  go_ret
  exact ⟨rfl, ((Mods.refl [] w).alloc _).trans' Hm.out⟩

theorem decDigits_len : ∀ n, n < 100 → (Lib.decDigits n).length ≤ 2 := by decide +kernel
theorem uWord_len : ∀ k, k ≤ 20 → (uWord k).length ≤ 9 := by decide +kernel
def sHead (k : Nat) (o : ByteArray) (n : Nat) : ByteArray :=
  ⟨(uWord k).toArray⟩ ++ (⟨#[32]⟩ ++ (if o.toList = [] then ⟨#[48]⟩ else o)) ++ (⟨#[35]⟩ ++ ⟨(Lib.decDigits n).toArray⟩)
def sTail (k : Nat) (i : Nat) (s : ByteArray) : ByteArray := if uIndex k then s ++ (⟨#[32]⟩ ++ ⟨(Lib.decDigits i).toArray⟩) else s

set_option maxRecDepth 100000 in
set_option maxHeartbeats 1000000 in
theorem string_ok (k : Nat) (o : ByteArray) (n i : Nat) (w : World) (hu : Usages w) (ho : o.size ≤ 1000000) (hk1 : 1 ≤ k) (hk2 : k ≤ 20) (hn : n < 100) (hi : i < 100)
    (f1 : uOwner k = true) (f2 : uNumber k = true) (f4 : uText k = false)
    (hc : checkV ⟨k, o.data.toList, n, i, []⟩ = 0) :
    Calls Tryz.prog 16 #[nameVal k o n i ⟨#[]⟩] w fun e w' => e = .returned (.string (sTail k i (sHead k o n))) ∧ Mods [] w w' := by
  have hlt := hu.lt
  have hk0 : (0 : Int) ≤ (k : Int) := by omega
  have hk21 : (k : Int) < 21 := by omega
  have Hu := Lib.hid hu
  have hst : Hid (sTail k i (sHead k o n) = if uIndex k then sHead k o n ++ (⟨#[32]⟩ ++ ⟨(Lib.decDigits i).toArray⟩) else sHead k o n) := rfl
  have hsh : Hid (sHead k o n = ⟨(uWord k).toArray⟩ ++ (⟨#[32]⟩ ++ (if o.toList = [] then ⟨#[48]⟩ else o)) ++ (⟨#[35]⟩ ++ ⟨(Lib.decDigits n).toArray⟩)) := rfl
  clear hu
  unfold nameVal
  go_enter Tryz.func16, Tryz.ntmps16
  go_wp2_with fail
  refine (check_any k o ⟨#[]⟩ n i _ (Hu.out.mods ((Mods.refl [] w).alloc _) (by simp)) (by omega) (by decide)).mono ?_
  rintro e w1 ⟨rfl, hm⟩
  have hc' : checkV ⟨k, o.data.toList, n, i, (⟨#[]⟩ : ByteArray).data.toList⟩ = 0 := hc
  rw [hc']
  obtain ⟨h0, h1, h2, h3, h4, h5⟩ := (Hu.out.mods ((Mods.refl [] w).alloc (.cells #[.int .i64 k, .string o, .int .i64 n, .int .i64 i, .string ⟨#[]⟩] 25) |>.trans' hm) (by simp)).row k (by omega)
  have hN := hm.heap (heap_alloc_new w (.cells #[.int .i64 k, .string o, .int .i64 n, .int .i64 i, .string ⟨#[]⟩] 25)) (by simp)
  obtain ⟨⟨n0, n1, n2, n3, n4⟩, -⟩ := cells5 hN
  rw [f1] at h1
  rw [f2] at h2
  rw [f4] at h4
  have hs1 := hm.size
  rw [World.size_alloc] at hs1
  have hs2 : w.heap.size < w1.heap.size := by omega
  have hg2 : 0 < w1.heap.size := by omega
  have Hm := Lib.hid hm
  clear hm hN hc hc'
  have q0 : ∀ A, ((w1.alloc A).alloc (.cells #[.string o, .string ⟨#[48]⟩] 9)).cell? ⟨w1.heap.size + 1, 0, none⟩ = some (.string o) := fun A => by
    have := cell_of_heap (heap_alloc_new (w1.alloc A) (.cells #[.string o, .string ⟨#[48]⟩] 9)) 0
    rwa [World.size_alloc] at this
  have q1 : ∀ A, ((w1.alloc A).alloc (.cells #[.string o, .string ⟨#[48]⟩] 9)).cell? ⟨w1.heap.size + 1, 1, none⟩ = some (.string ⟨#[48]⟩) := fun A => by
    have := cell_of_heap (heap_alloc_new (w1.alloc A) (.cells #[.string o, .string ⟨#[48]⟩] 9)) 1
    rwa [World.size_alloc] at this
  have Hor : Hid (∀ A, Calls Tryz.prog 43 #[.slice (some ⟨w1.heap.size + 1, 0, none⟩) 2 2] ((w1.alloc A).alloc (.cells #[.string o, .string ⟨#[48]⟩] 9)) fun e w' => e = .returned (.string (if o.toList = [] then ⟨#[48]⟩ else o)) ∧ ((w1.alloc A).alloc (.cells #[.string o, .string ⟨#[48]⟩] 9)) = w') := fun A =>
    or_any o ⟨#[48]⟩ _ (w1.heap.size + 1) (q0 A) (q1 A) (by rw [ByteArray.toList_eq]; decide)
  clear q0 q1
  obtain ⟨o', ho'⟩ : ∃ o' : ByteArray, (if o.toList = [] then ⟨#[48]⟩ else o) = o' := ⟨_, rfl⟩
  rw [ho'] at Hor hsh
  obtain ⟨wd, hwd⟩ : ∃ wd : ByteArray, (⟨(uWord k).toArray⟩ : ByteArray) = wd := ⟨_, rfl⟩
  have hwl : wd.size ≤ 9 := by rw [← hwd, mk_size]; exact uWord_len k hk2
  rw [hwd] at h0 hsh
  clear hwd
  have ho1 : o'.size ≤ 1000000 := by
    rw [← ho']; split
    · decide
    · exact ho
  obtain ⟨dn, hdn⟩ : ∃ dn : ByteArray, (⟨(Lib.decDigits n).toArray⟩ : ByteArray) = dn := ⟨_, rfl⟩
  have hdl : dn.size ≤ 2 := by rw [← hdn, mk_size]; exact decDigits_len n hn
  have Hin : Hid (∀ w, Calls Tryz.prog 44 #[.int .i64 n] w fun e w' => e = .returned (.string dn) ∧ w' = w) := fun w => by
    rw [← hdn]; exact Tryz.strconv_Itoa_small n hn w
  rw [hdn] at hsh
  clear hdn
  obtain ⟨di, hdi⟩ : ∃ di : ByteArray, (⟨(Lib.decDigits i).toArray⟩ : ByteArray) = di := ⟨_, rfl⟩
  have hdil : di.size ≤ 2 := by rw [← hdi, mk_size]; exact decDigits_len i hi
  have Hii : Hid (∀ w, Calls Tryz.prog 44 #[.int .i64 i] w fun e w' => e = .returned (.string di) ∧ w' = w) := fun w => by
    rw [← hdi]; exact Tryz.strconv_Itoa_small i hi w
  rw [hdi] at hst
  clear hdi
  clear ho'
  cases hui : uIndex k
  · rw [hui] at h3 hst
    clear hui
    go_wp2_with (first | (go_at_call 43; refine (Hor.out _).mono ?_; rintro e w' ⟨rfl, rfl⟩) | (go_at_call 44; refine (Hin.out _).mono ?_; rintro e w' ⟨rfl, rfl⟩))
    go_ret
    exact ⟨by rw [hst.out, hsh.out]; rfl, ((((Mods.refl [] w).alloc _).trans' Hm.out).alloc _).alloc _⟩
  · rw [hui] at h3 hst
    clear hui
    go_wp2_with (first | (go_at_call 43; refine (Hor.out _).mono ?_; rintro e w' ⟨rfl, rfl⟩) | (go_at_call_of 44 (Value.int .i64 (n : Int)); refine (Hin.out _).mono ?_; rintro e w' ⟨rfl, rfl⟩) | (go_at_call 44; refine (Hii.out _).mono ?_; rintro e w' ⟨rfl, rfl⟩))
    go_ret
    exact ⟨by rw [hst.out, hsh.out]; rfl, ((((Mods.refl [] w).alloc _).trans' Hm.out).alloc _).alloc _⟩
end Go.Proofs.YtedlfmjgbehgkaaGreatDoor
