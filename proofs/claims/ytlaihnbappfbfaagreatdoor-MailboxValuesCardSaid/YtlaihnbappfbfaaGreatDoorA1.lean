/- Words on worlds that all walks of this seat use: which old blocks a call may turn ('Mods'), how byte slices and strings lie in memory. Plain facts on the canonical encodings of numbers: no program in sight. Plain facts on the texts of lineages: ordinals of at most six digits between dots. Plain: the names of users, hosts, addresses: what the package answers, and what the document's model answers. -/
import Derived.WalkKit
import Derived.WalkSpells
import Derived.WalkLawsBesides
import Derived.Lib.Hide
import Derived.Laws.BitsAllLaws
import Derived.Lib.IndexMore
import Derived.Lib.Bytealg
namespace Go.Proofs.YtlaihnbappfbfaaGreatDoor
open Go.RowKit

/-- Of the blocks that lay in w, none but those in S has turned in w'. -/
structure Mods (S : List Nat) (w w' : World) : Prop where
  os : w'.os = w.os
  tape : w'.tape = w.tape
  output : w'.output = w.output
  size : w.heap.size ≤ w'.heap.size
  block : ∀ k, k < w.heap.size → k ∉ S → w'.heap[k]? = w.heap[k]?

theorem Mods.refl (S : List Nat) (w : World) : Mods S w w := ⟨rfl, rfl, rfl, Nat.le_refl _, fun _ _ _ => rfl⟩
theorem Mods.trans {S T : List Nat} {a b c : World} (h : Mods S a b) (k : Mods T b c) (hT : ∀ i, i ∈ T → i ∈ S ∨ a.heap.size ≤ i) : Mods S a c :=
  ⟨k.os.trans h.os, k.tape.trans h.tape, k.output.trans h.output, Nat.le_trans h.size k.size, fun i hi hS =>
    (k.block i (Nat.lt_of_lt_of_le hi h.size) (fun hm => (hT i hm).elim hS (fun hle => absurd hi (Nat.not_lt.2 hle)))).trans (h.block i hi hS)⟩
theorem Mods.trans' {S : List Nat} {a b c : World} (h : Mods S a b) (k : Mods [] b c) : Mods S a c := h.trans k (fun _ hm => by cases hm)
theorem Mods.weaken {S T : List Nat} {a b : World} (h : Mods S a b) (hT : ∀ i, i ∈ S → i ∈ T ∨ a.heap.size ≤ i) : Mods T a b :=
  ⟨h.os, h.tape, h.output, h.size, fun i hi hi' => h.block i hi (fun hm => (hT i hm).elim hi' (fun hle => absurd hi (Nat.not_lt.2 hle)))⟩
theorem Mods.below {w w' : World} (h : Mods [] w w') : Below w.heap.size w w' := ⟨h.os, h.tape, h.output, h.size, fun k hk => h.block k hk (by simp)⟩
theorem Mods.of_below {w w' : World} (h : Below w.heap.size w w') : Mods [] w w' := ⟨h.os, h.tape, h.output, h.size, fun k hk _ => h.block k hk⟩
theorem Mods.of_below_le {w w' : World} {B : Nat} (h : Below B w w') (hB : w.heap.size ≤ B) : Mods [] w w' := ⟨h.os, h.tape, h.output, h.size, fun k hk _ => h.block k (Nat.lt_of_lt_of_le hk hB)⟩
theorem Mods.drew {S : List Nat} {a w : World} (h : Mods S a w) : Mods S a w.drew := ⟨h.os, h.tape, h.output, h.size, h.block⟩
theorem Mods.drewN {S : List Nat} {a w : World} (h : Mods S a w) (n : Nat) : Mods S a (w.drewN n) := ⟨h.os, h.tape, h.output, h.size, h.block⟩
theorem Mods.alloc {S : List Nat} {a w : World} (h : Mods S a w) (o : Obj) : Mods S a (w.alloc o) :=
  h.trans' ⟨rfl, rfl, rfl, by simp, fun k hk _ => Below.heap_alloc _ _ _ hk⟩
theorem Mods.setCell {S : List Nat} {a w : World} (h : Mods S a w) {p : Addr} (hp : p.block ∈ S ∨ a.heap.size ≤ p.block) (u : Value) : Mods S a (w.setCell p u) :=
  h.trans (T := [p.block]) ⟨rfl, rfl, rfl, by simp [World.setCell], fun k _ hk => Below.heap_setCell _ _ _ _ (by simpa using hk)⟩ (fun i hi => by
    have : i = p.block := by simpa using hi
    subst this; exact hp)
theorem Mods.grown {S : List Nat} {a w w' : World} {row : Option Nat} (h : Mods S a w) (hg : w.grownBy w' row) (hr : ∀ k, row = some k → k ∈ S ∨ a.heap.size ≤ k) : Mods S a w' :=
  h.trans (T := row.toList) ⟨hg.os, hg.tape, hg.output, hg.size, fun k hk hm => hg.block k hk (fun e => hm (by rw [← e]; simp))⟩ (fun i hi => by
    cases row with
    | none => cases hi
    | some r => simp at hi; subst hi; exact hr _ rfl)
theorem Mods.cell {S : List Nat} {w w' : World} (h : Mods S w w') {p : Addr} (hp : p.block < w.heap.size) (hS : p.block ∉ S) : w'.cell? p = w.cell? p := World.cell?_of_block (w := w) (h.block p.block hp hS)
theorem Mods.frozen {S : List Nat} {w w' : World} (h : Mods S w w') {p : Addr} (hp : p.block < w.heap.size) (hS : p.block ∉ S) : w'.frozen? p = w.frozen? p := World.frozen?_of_block (w := w) (h.block p.block hp hS)

/-- A cell that reads lies in a block that is there. -/
theorem lt_of_cell {w : World} {a : Addr} {v : Value} (h : w.cell? a = some v) : a.block < w.heap.size := by
  unfold World.cell? at h
  split at h
  · rename_i e; exact (Array.getElem?_eq_some_iff.1 e).1
  · cases h
theorem Mods.keep {w w' : World} (h : Mods [] w w') {p : Addr} {v : Value} (hc : w.cell? p = some v) : w'.cell? p = some v := by
  rw [h.cell (lt_of_cell hc) (by simp)]; exact hc
theorem Mods.keepS {S : List Nat} {w w' : World} (h : Mods S w w') {p : Addr} {v : Value} (hc : w.cell? p = some v) (hS : p.block ∉ S) : w'.cell? p = some v := by
  rw [h.cell (lt_of_cell hc) hS]; exact hc

theorem heap_setCell_same {w : World} {b off : Nat} {c : Array Value} {t : TypeId} {fz : Nat × Nat} (h : w.heap[b]? = some (.cells c t fz)) (u : Value) :
    (w.setCell ⟨b, off, none⟩ u).heap[b]? = some (.cells (c.setIfInBounds off u) t fz) := by
  simp only [World.setCell, Array.getElem?_modify, if_true, h]
  rfl
theorem heap_setCell_ne {w : World} {b k off : Nat} (h : k ≠ b) (u : Value) : (w.setCell ⟨b, off, none⟩ u).heap[k]? = w.heap[k]? := Below.heap_setCell _ _ _ _ h
theorem cell_of_heap {w : World} {b : Nat} {c : Array Value} {t : TypeId} {fz : Nat × Nat} (h : w.heap[b]? = some (.cells c t fz)) (off : Nat) : w.cell? ⟨b, off, none⟩ = c[off]? := by
  simp [World.cell?, h]
theorem frozen_of_heap {w : World} {b : Nat} {c : Array Value} {t : TypeId} (h : w.heap[b]? = some (.cells c t (0, 0))) (off : Nat) : w.frozen? ⟨b, off, none⟩ = false := by
  simp [World.frozen?, h]
theorem lt_of_heap {w : World} {b : Nat} {o : Obj} (h : w.heap[b]? = some o) : b < w.heap.size := (Array.getElem?_eq_some_iff.1 h).1
theorem heap_alloc_new (w : World) (o : Obj) : (w.alloc o).heap[w.heap.size]? = some o := by
  show (w.heap.push o)[w.heap.size]? = _
  simp
theorem heap_alloc_old {w : World} {o : Obj} {k : Nat} {p : Obj} (h : w.heap[k]? = some p) : (w.alloc o).heap[k]? = some p := by
  rw [Below.heap_alloc _ _ _ (lt_of_heap h)]; exact h
theorem Mods.heap {S : List Nat} {w w' : World} (hm : Mods S w w') {k : Nat} {p : Obj} (h : w.heap[k]? = some p) (hS : k ∉ S) : w'.heap[k]? = some p := by
  rw [hm.block k (lt_of_heap h) hS]; exact h
/-- The two rules by which a walk reads on behind a call that has turned no old block. -/
theorem Mods.rules {w w' : World} (h : Mods [] w w') : (∀ b o, b < w.heap.size → w'.cell? ⟨b, o, none⟩ = w.cell? ⟨b, o, none⟩) ∧ (∀ b o, b < w.heap.size → w'.frozen? ⟨b, o, none⟩ = w.frozen? ⟨b, o, none⟩) :=
  ⟨fun b o hb => h.cell (p := ⟨b, o, none⟩) hb (by simp), fun b o hb => h.frozen (p := ⟨b, o, none⟩) hb (by simp)⟩
theorem Mods.rules1 {w w' : World} {R : Nat} (h : Mods [R] w w') : (∀ b o, b < w.heap.size → b ≠ R → w'.cell? ⟨b, o, none⟩ = w.cell? ⟨b, o, none⟩) ∧ (∀ b o, b < w.heap.size → b ≠ R → w'.frozen? ⟨b, o, none⟩ = w.frozen? ⟨b, o, none⟩) :=
  ⟨fun b o hb hR => h.cell (p := ⟨b, o, none⟩) hb (by simpa using hR), fun b o hb hR => h.frozen (p := ⟨b, o, none⟩) hb (by simpa using hR)⟩

/-- The slice value v holds the bytes l, in block B (nil or of any address where there is none). -/
def BytesIn (w : World) (B : Nat) (v : Value) (l : List UInt8) : Prop :=
  ∃ p cap, v = .slice p l.length cap ∧ l.length ≤ cap ∧ (l = [] ∨ ∃ off, p = some ⟨B, off, none⟩ ∧ ∀ i, (h : i < l.length) → w.cell? ⟨B, off + i, none⟩ = some (.int .u8 l[i].toNat))
theorem BytesIn.mods {S : List Nat} {w w' : World} {B : Nat} {v : Value} {l : List UInt8} (h : BytesIn w B v l) (hm : Mods S w w') (hS : B ∉ S) : BytesIn w' B v l := by
  obtain ⟨p, cap, rfl, hcap, h⟩ := h
  refine ⟨p, cap, rfl, hcap, ?_⟩
  rcases h with h | ⟨off, rfl, hc⟩
  · exact .inl h
  · exact .inr ⟨off, rfl, fun i hi => hm.keepS (hc i hi) hS⟩
/-- Of whatever block. -/
def BytesAt (w : World) (v : Value) (l : List UInt8) : Prop := ∃ B, BytesIn w B v l
theorem BytesAt.keep {w w' : World} {v : Value} {l : List UInt8} (h : BytesAt w v l) (hm : Mods [] w w') : BytesAt w' v l := h.imp fun _ h => h.mods hm (by simp)
end Go.Proofs.YtlaihnbappfbfaaGreatDoor

namespace Go.Proofs.YtlaihnbappfbfaaGreatDoor

/-- How many bytes at the head of l (at most k) have the continuation bit. -/
def ext : Nat → List UInt8 → Nat
  | 0, _ => 0
  | _ + 1, [] => 0
  | k + 1, c :: l => if 128 ≤ c.toNat then ext k l + 1 else 0
theorem ext_le (k : Nat) (l : List UInt8) : ext k l ≤ k := by
  induction k generalizing l with
  | zero => simp [ext]
  | succ k ih => cases l with
    | nil => simp [ext]
    | cons c l => simp only [ext]; split; have := ih l; omega; omega
theorem ext_le_length (k : Nat) (l : List UInt8) : ext k l ≤ l.length := by
  induction k generalizing l with
  | zero => simp [ext]
  | succ k ih => cases l with
    | nil => simp [ext]
    | cons c l => simp only [ext]; split; have := ih l; simp; omega; omega
/-- One step of the search from place k on. -/
theorem ext_step (n k : Nat) (l : List UInt8) (hk : k < n) (hl : k < l.length) :
    ext (n - k) (l.drop k) = if 128 ≤ l[k].toNat then ext (n - (k + 1)) (l.drop (k + 1)) + 1 else 0 := by
  obtain ⟨m, hm⟩ : ∃ m, n - k = m + 1 := ⟨n - k - 1, by omega⟩
  rw [hm, List.drop_eq_getElem_cons hl, show n - (k + 1) = m by omega]
  rfl
theorem ext_end (n k : Nat) (l : List UInt8) (h : n ≤ k ∨ l.length ≤ k) : ext (n - k) (l.drop k) = 0 := by
  rcases h with h | h
  · rw [show n - k = 0 by omega]; rfl
  · rw [List.drop_eq_nil_of_le h]; cases n - k <;> rfl
/-- The bytes that are passed over have the bit, the one behind them has not. -/
theorem ext_get (n : Nat) (l : List UInt8) (i : Nat) (h : i < ext n l) (hi : i < l.length) : 128 ≤ l[i].toNat := by
  induction n generalizing l i with
  | zero => simp [ext] at h
  | succ n ih => cases l with
    | nil => simp at hi
    | cons c l =>
      simp only [ext] at h
      split at h
      · cases i with
        | zero => simpa using ‹128 ≤ c.toNat›
        | succ i => simp; exact ih l i (by omega) (by simpa using hi)
      · omega
theorem ext_stop (n : Nat) (l : List UInt8) (h : ext n l < n) (hi : ext n l < l.length) : l[ext n l].toNat < 128 := by
  induction n generalizing l with
  | zero => omega
  | succ n ih => cases l with
    | nil => simp at hi
    | cons c l =>
      by_cases hc : 128 ≤ c.toNat
      · have e : ext (n + 1) (c :: l) = ext n l + 1 := by simp [ext, hc]
        have h2 : ext n l < n := by omega
        have h3 : ext n l < l.length := by rw [e] at hi; simpa using hi
        have := ih l h2 h3
        simpa [e] using this
      · have e : ext (n + 1) (c :: l) = 0 := by simp [ext, hc]
        simp [e]; omega

/-- The number whose groups of seven bits are the bytes, the lowest first. -/
def val : List UInt8 → Nat
  | [] => 0
  | c :: l => c.toNat % 128 + 128 * val l
theorem val_lt (l : List UInt8) : val l < 128 ^ l.length := by
  induction l with
  | nil => simp [val]
  | cons c l ih =>
    simp only [val, List.length_cons, Nat.pow_succ]
    omega
/-- What parseNatural returns with at most nine groups: the number, the length, the error. -/
def parse9 (b : List UInt8) : Nat × Nat × Int :=
  if ext 9 b = 9 then (0, 0, 3) else if ext 9 b = b.length then (0, 0, 28) else if 0 < ext 9 b ∧ b.getD (ext 9 b) 0 = 0 then (0, 0, 3) else (val (b.take (ext 9 b + 1)), ext 9 b + 1, 0)

theorem parse9_nine {l : List UInt8} (h : ext 9 l = 9) : parse9 l = (0, 0, 3) := by
  unfold parse9; rw [if_pos h]
theorem parse9_short {l : List UInt8} (h : ext 9 l = l.length) (h9 : l.length ≠ 9) : parse9 l = (0, 0, 28) := by
  unfold parse9; rw [if_neg (by omega), if_pos h]
theorem parse9_zero {l : List UInt8} {k : Nat} (h : ext 9 l = k) (h9 : k < 9) (hk : k < l.length) (h0 : 0 < k) (hz : l[k].toNat = 0) : parse9 l = (0, 0, 3) := by
  unfold parse9
  have hz' : l.getD k 0 = 0 := by
    rw [List.getD_eq_getElem?_getD, List.getElem?_eq_getElem hk]
    simp only [Option.getD_some]
    exact UInt8.toNat_inj.1 (by simpa using hz)
  rw [h, if_neg (by omega), if_neg (by omega), if_pos ⟨h0, hz'⟩]
theorem parse9_good {l : List UInt8} {k : Nat} (h : ext 9 l = k) (h9 : k < 9) (hk : k < l.length) (h0 : k = 0 ∨ l[k].toNat ≠ 0) : parse9 l = (val (l.take (k + 1)), k + 1, 0) := by
  unfold parse9
  rw [h, if_neg (by omega), if_neg (by omega), if_neg]
  rintro ⟨a1, a2⟩
  rw [List.getD_eq_getElem?_getD, List.getElem?_eq_getElem hk] at a2
  simp only [Option.getD_some] at a2
  rcases h0 with h0 | h0
  · omega
  · rw [a2] at h0; simp at h0

/-- The canonical encoding of a natural number. -/
def encNat (n : Nat) : List UInt8 := if n < 128 then [UInt8.ofNat n] else UInt8.ofNat (n % 128 + 128) :: encNat (n / 128)
termination_by n
decreasing_by omega
theorem encNat_small {n : Nat} (h : n < 128) : encNat n = [UInt8.ofNat n] := by rw [encNat, if_pos h]
theorem encNat_large {n : Nat} (h : ¬ n < 128) : encNat n = UInt8.ofNat (n % 128 + 128) :: encNat (n / 128) := by rw [encNat, if_neg h]
theorem encNat_length_pos (n : Nat) : 0 < (encNat n).length := by
  by_cases h : n < 128
  · simp [encNat_small h]
  · simp [encNat_large h]
theorem encNat_length_le (n k : Nat) (h : n < 128 ^ k) (hk : 0 < k) : (encNat n).length ≤ k := by
  induction k generalizing n with
  | zero => omega
  | succ k ih =>
    by_cases hn : n < 128
    · simp [encNat_small hn]
    · rw [encNat_large hn]
      simp only [List.length_cons, Nat.add_le_add_iff_right]
      have hk0 : 0 < k := by
        rcases Nat.eq_zero_or_pos k with h0 | h0
        · subst h0; simp at h; omega
        · exact h0
      refine ih _ ?_ hk0
      rw [Nat.pow_succ] at h
      omega
theorem encNat_length_u64 (n : Nat) (h : n < 18446744073709551616) : (encNat n).length ≤ 10 := by
  have e10 : (128 : Nat) ^ 10 = 1180591620717411303424 := by decide
  exact encNat_length_le n 10 (by omega) (by omega)
theorem u8_toNat_ofNat {n : Nat} (h : n < 256) : (UInt8.ofNat n).toNat = n := by simp [UInt8.toNat_ofNat']; omega
/-- Reading an encoding gives the number, whatever stands behind it. -/
theorem ext_encNat (n k : Nat) (l : List UInt8) (h : (encNat n).length ≤ k) : ext k (encNat n ++ l) = (encNat n).length - 1 := by
  induction k generalizing n with
  | zero => have := encNat_length_pos n; omega
  | succ k ih =>
    by_cases hn : n < 128
    · simp [encNat_small hn, ext, u8_toNat_ofNat (show n < 256 by omega)]; omega
    · rw [encNat_large hn] at h ⊢
      simp only [List.length_cons, List.cons_append, ext] at h ⊢
      rw [u8_toNat_ofNat (by omega), if_pos (by omega), ih _ (by omega)]
      have := encNat_length_pos (n / 128)
      omega
theorem val_encNat (n : Nat) : val (encNat n) = n := by
  induction n using Nat.strongRecOn with
  | _ n ih =>
    by_cases hn : n < 128
    · simp [encNat_small hn, val, u8_toNat_ofNat (show n < 256 by omega)]; omega
    · rw [encNat_large hn]
      simp only [val]
      rw [ih _ (by omega), u8_toNat_ofNat (by omega)]
      omega
/-- The last byte of an encoding of more than one byte is not 0. -/
theorem encNat_last (n : Nat) (h : 1 < (encNat n).length) : (encNat n).getD ((encNat n).length - 1) 0 ≠ 0 := by
  induction n using Nat.strongRecOn with
  | _ n ih =>
    by_cases hn : n < 128
    · simp [encNat_small hn] at h
    · rw [encNat_large hn] at h ⊢
      by_cases h2 : n / 128 < 128
      · rw [encNat_small h2]
        simp only [List.length_cons, List.length_nil]
        intro e
        have e2 := congrArg UInt8.toNat e
        simp only [List.getD_eq_getElem?_getD] at e2
        simp at e2
        omega
      · have hp := encNat_length_pos (n / 128 / 128)
        have hl : 1 < (encNat (n / 128)).length := by rw [encNat_large h2]; simp; omega
        have := ih _ (by omega) hl
        obtain ⟨m, hm⟩ : ∃ m, (encNat (n / 128)).length = m + 1 := ⟨_, (Nat.succ_pred_eq_of_pos (encNat_length_pos _)).symm⟩
        rw [hm] at this
        simp only [List.length_cons, hm]
        simpa using this
theorem parse9_encNat (n : Nat) (l : List UInt8) (h : n < 2 ^ 63) : parse9 (encNat n ++ l) = (n, (encNat n).length, 0) := by
  have e63 : (2 : Nat) ^ 63 = 128 ^ 9 := by decide
  have hl : (encNat n).length ≤ 9 := encNat_length_le n 9 (e63 ▸ h) (by omega)
  have hp := encNat_length_pos n
  have he := ext_encNat n 9 l hl
  unfold parse9
  rw [he]
  rw [if_neg (by omega), if_neg (by simp; omega)]
  have hx : ¬ (0 < (encNat n).length - 1 ∧ (encNat n ++ l).getD ((encNat n).length - 1) 0 = 0) := by
    rintro ⟨h1, h2⟩
    refine encNat_last n (by omega) ?_
    rw [List.getD_eq_getElem?_getD, List.getElem?_append_left (by omega)] at h2
    rw [List.getD_eq_getElem?_getD]
    exact h2
  rw [if_neg hx, show (encNat n).length - 1 + 1 = (encNat n).length by omega, List.take_left', val_encNat]
  rfl
/-- What reads without an error is an encoding. -/
theorem encNat_val (l : List UInt8) (k : Nat) (hk : k < l.length) (hx : ∀ i, (h : i < k) → 128 ≤ (l[i]'(by omega)).toNat) (hs : l[k].toNat < 128) (h0 : k = 0 ∨ l[k].toNat ≠ 0) :
    encNat (val (l.take (k + 1))) = l.take (k + 1) := by
  induction k generalizing l with
  | zero => cases l with
    | nil => simp at hk
    | cons c l =>
      simp at hs
      have hc : c.toNat % 128 = c.toNat := Nat.mod_eq_of_lt hs
      simp [val, hc, encNat_small hs]
  | succ k ih => cases l with
    | nil => simp at hk
    | cons c l =>
      have hc : 128 ≤ c.toNat := hx 0 (by omega)
      have hc2 := c.toNat_lt
      have hs' : (l[k]'(by simpa using hk)).toNat < 128 := by simpa using hs
      have h0' : (l[k]'(by simpa using hk)).toNat ≠ 0 := by simpa using h0
      have ih' := ih l (by simpa using hk) (fun i h => by simpa using hx (i + 1) (by omega)) hs' (.inr h0')
      have hv : 0 < val (l.take (k + 1)) := by
        rcases Nat.eq_zero_or_pos (val (l.take (k + 1))) with hz | hz
        · exfalso
          rw [hz, encNat_small (by omega)] at ih'
          have h1 : (l.take (k + 1)).length = 1 := by rw [← ih']; rfl
          rw [List.length_take] at h1
          have hk0 : k = 0 := by have : k < l.length := by simpa using hk
                                 omega
          subst hk0
          cases l with
          | nil => simp at hk
          | cons d l =>
            simp at ih' h0'
            rw [← ih'] at h0'
            simp at h0'
        · exact hz
      simp only [List.take_succ_cons, val]
      have hq : c.toNat % 128 + 128 * val (l.take (k + 1)) = (c.toNat - 128) + 128 * val (l.take (k + 1)) := by omega
      rw [hq, encNat_large (by omega), show (c.toNat - 128 + 128 * val (l.take (k + 1))) / 128 = val (l.take (k + 1)) by omega, ih',
        show (c.toNat - 128 + 128 * val (l.take (k + 1))) % 128 + 128 = c.toNat by omega]
      simp
theorem parse9_ok (l : List UInt8) (n size : Nat) (h : parse9 l = (n, size, 0)) : encNat n = l.take size ∧ size ≤ l.length ∧ 0 < size ∧ size ≤ 9 ∧ n < 2 ^ 63 := by
  unfold parse9 at h
  split at h
  · simp at h
  split at h
  · simp at h
  split at h
  · simp at h
  rename_i h1 h2 h3
  have hl : ext 9 l < l.length := by have := ext_le_length 9 l; omega
  have hk : ext 9 l < 9 := by have := ext_le 9 l; omega
  simp only [Prod.mk.injEq, and_true] at h
  obtain ⟨rfl, rfl⟩ := h
  refine ⟨encNat_val l _ hl (fun i h => ext_get 9 l i h _) (ext_stop 9 l hk hl) ?_, by omega, by omega, by omega, ?_⟩
  · rcases Nat.eq_zero_or_pos (ext 9 l) with h0 | h0
    · exact .inl h0
    · refine .inr fun hz => h3 ⟨h0, ?_⟩
      rw [List.getD_eq_getElem?_getD, List.getElem?_eq_getElem hl]
      simp only [Option.getD_some]
      exact UInt8.toNat_inj.1 (by simpa using hz)
  · have hv := val_lt (l.take (ext 9 l + 1))
    have hle : (l.take (ext 9 l + 1)).length ≤ 9 := by rw [List.length_take]; omega
    have := Nat.pow_le_pow_right (n := 128) (by omega) hle
    have e : (128 : Nat) ^ 9 = 2 ^ 63 := by decide
    omega
theorem parse9_err (l : List UInt8) (h : (parse9 l).2.2 ≠ 0) : (parse9 l).1 = 0 ∧ (parse9 l).2.1 = 0 := by
  unfold parse9 at h ⊢
  split
  · simp
  split
  · simp
  split
  · simp
  · rename_i h1 h2 h3
    rw [if_neg h1, if_neg h2, if_neg h3] at h
    simp at h
theorem encNat_append_inj {a b : Nat} {s t : List UInt8} (ha : a < 2 ^ 63) (hb : b < 2 ^ 63) (h : encNat a ++ s = encNat b ++ t) : a = b ∧ s = t := by
  have h1 := parse9_encNat a s ha
  have h2 := parse9_encNat b t hb
  rw [h, h2] at h1
  simp only [Prod.mk.injEq, and_true] at h1
  obtain ⟨rfl, _⟩ := h1
  exact ⟨rfl, List.append_cancel_left h⟩
end Go.Proofs.YtlaihnbappfbfaaGreatDoor

namespace Go.Proofs.YtlaihnbappfbfaaGreatDoor

def isDig (c : UInt8) : Bool := decide (48 ≤ c.toNat) && decide (c.toNat ≤ 57)
/-- How many digits stand at the head (at most n). -/
def dcount : Nat → List UInt8 → Nat
  | 0, _ => 0
  | _ + 1, [] => 0
  | n + 1, c :: l => if isDig c then dcount n l + 1 else 0
theorem dcount_le (n : Nat) (l : List UInt8) : dcount n l ≤ n := by
  induction n generalizing l with
  | zero => simp [dcount]
  | succ k ih => cases l with
    | nil => simp [dcount]
    | cons c l => simp only [dcount]; split; have := ih l; omega; omega
theorem dcount_le_length (n : Nat) (l : List UInt8) : dcount n l ≤ l.length := by
  induction n generalizing l with
  | zero => simp [dcount]
  | succ k ih => cases l with
    | nil => simp [dcount]
    | cons c l => simp only [dcount]; split; have := ih l; simp; omega; omega
theorem dcount_step (n k : Nat) (l : List UInt8) (hk : k < n) (hl : k < l.length) :
    dcount (n - k) (l.drop k) = if isDig l[k] then dcount (n - (k + 1)) (l.drop (k + 1)) + 1 else 0 := by
  obtain ⟨m, hm⟩ : ∃ m, n - k = m + 1 := ⟨n - k - 1, by omega⟩
  rw [hm, List.drop_eq_getElem_cons hl, show n - (k + 1) = m by omega]
  rfl
theorem dcount_end (n k : Nat) (l : List UInt8) (h : n ≤ k ∨ l.length ≤ k) : dcount (n - k) (l.drop k) = 0 := by
  rcases h with h | h
  · rw [show n - k = 0 by omega]; rfl
  · rw [List.drop_eq_nil_of_le h]; cases n - k <;> rfl
/-- The number that digits denote. -/
def dval (l : List UInt8) : Nat := l.foldl (fun n c => 10 * n + (c.toNat - 48)) 0
theorem dval_snoc (l : List UInt8) (c : UInt8) : dval (l ++ [c]) = 10 * dval l + (c.toNat - 48) := by simp [dval]
theorem dval_take (l : List UInt8) (k : Nat) (h : k < l.length) : dval (l.take (k + 1)) = 10 * dval (l.take k) + (l[k].toNat - 48) := by
  rw [List.take_succ_eq_append_getElem h, dval_snoc]
/-- The first error of the ordinal at the head of r, behind count others. -/
def ordErr (count : Nat) (r : List UInt8) : Int :=
  if count = 8 then 9 else if r = [] then 4 else if dcount 7 r = 0 then 6 else if r.getD 0 0 = 48 then 3 else if 6 < dcount 7 r then 2 else 0
theorem isDig_iff (c : UInt8) : isDig c = true ↔ 48 ≤ (c.toNat : Int) ∧ (c.toNat : Int) ≤ 57 := by
  simp [isDig]; omega
theorem dval_digits_lt (l : List UInt8) (k : Nat) (h : ∀ i, (hi : i < k) → (hl : i < l.length) → isDig l[i] = true) : dval (l.take k) < 10 ^ k := by
  induction k with
  | zero => simp [dval]
  | succ k ih =>
    have ih' := ih (fun i hi hl => h i (by omega) hl)
    by_cases hk : k < l.length
    · rw [dval_take l k hk, Nat.pow_succ]
      have := (isDig_iff _).1 (h k (by omega) hk)
      omega
    · rw [List.take_of_length_le (by omega)]
      rw [List.take_of_length_le (by omega)] at ih'
      rw [Nat.pow_succ]
      omega
theorem dcount_get (n : Nat) (l : List UInt8) (i : Nat) (h : i < dcount n l) (hi : i < l.length) : isDig l[i] = true := by
  induction n generalizing l i with
  | zero => simp [dcount] at h
  | succ n ih => cases l with
    | nil => simp at hi
    | cons c l =>
      simp only [dcount] at h
      split at h
      · cases i with
        | zero => simpa using ‹isDig c = true›
        | succ i => simp; exact ih l i (by omega) (by simpa using hi)
      · omega

structure Part where
  ord : Nat
  at_ : Nat
  e : Int
/-- The parts that are found from an offset on, behind count others; r is what stands there. -/
def partsFrom (at_ count : Nat) (r : List UInt8) : List Part :=
  if ordErr count r ≠ 0 then [⟨0, at_, ordErr count r⟩]
  else ⟨dval (r.take (dcount 7 r)), at_, 0⟩ :: (if h : dcount 7 r < r.length then (if r[dcount 7 r] ≠ 46 then [⟨0, at_ + dcount 7 r, 6⟩] else partsFrom (at_ + dcount 7 r + 1) (count + 1) (r.drop (dcount 7 r + 1))) else [])
termination_by r.length
decreasing_by simp; omega
def partsOf (s : List UInt8) : List Part := if s = [] then [] else partsFrom 0 0 s
/-- The error of a text: that of the last part. -/
def linErr (s : List UInt8) : Int := ((partsOf s).getLast?.map (·.e)).getD 0
def vname (s : List UInt8) : Bool := linErr s == 0
end Go.Proofs.YtlaihnbappfbfaaGreatDoor

namespace Go.Proofs.YtlaihnbappfbfaaGreatDoor

def isLow (c : UInt8) : Bool := decide (97 ≤ c.toNat) && decide (c.toNat ≤ 122)
def isLD (c : UInt8) : Bool := isLow c || isDig c
def unameOK (s : List UInt8) : Bool := decide (s ≠ []) && decide (s.length ≤ 16) && isLow (s.headD 0) && s.all isLD
/-- The error of the name of a user. -/
def uname (s : List UInt8) : Int := if unameOK s then 0 else 12
def hostByte (c : UInt8) : Bool := isLow c || isDig c || c == 45 || c == 46
/-- The error of a host (none, if it is empty). -/
def hostE (s : List UInt8) : Int := if 32 < s.length then 5 else if s.all hostByte then 0 else 6
theorem isLow_iff (c : UInt8) : isLow c = true ↔ 97 ≤ (c.toNat : Int) ∧ (c.toNat : Int) ≤ 122 := by simp [isLow]; omega
theorem isLD_iff (c : UInt8) : isLD c = true ↔ (97 ≤ (c.toNat : Int) ∧ (c.toNat : Int) ≤ 122) ∨ (48 ≤ (c.toNat : Int) ∧ (c.toNat : Int) ≤ 57) := by
  simp only [isLD, Bool.or_eq_true, isLow_iff, isDig_iff]
theorem hostByte_iff (c : UInt8) : hostByte c = true ↔ (97 ≤ (c.toNat : Int) ∧ (c.toNat : Int) ≤ 122) ∨ (48 ≤ (c.toNat : Int) ∧ (c.toNat : Int) ≤ 57) ∨ (c.toNat : Int) = 45 ∨ (c.toNat : Int) = 46 := by
  simp only [hostByte, Bool.or_eq_true, isLow_iff, isDig_iff, beq_iff_eq, ← UInt8.toNat_inj]
  have e1 : UInt8.toNat 45 = 45 := rfl
  have e2 : UInt8.toNat 46 = 46 := rfl
  rw [e1, e2]; omega
theorem uname_zero {s : List UInt8} (h : unameOK s = true) : uname s = 0 := by simp [uname, h]
theorem uname_err {s : List UInt8} (h : unameOK s = false) : uname s = 12 := by simp [uname, h]

/-- What lies ahead of the first '@', what lies behind it, and whether there is one. -/
def cutAt (s : List UInt8) : List UInt8 × List UInt8 × Bool := (s.takeWhile (· != 64), (s.dropWhile (· != 64)).drop 1, s.contains 64)
/-- The parts of an address, or the first error. -/
def splitF (s : List UInt8) : List UInt8 × List UInt8 × Int :=
  if 1 < s.count 64 then ([], [], 3)
  else if unameOK (cutAt s).1 = false then ([], [], 12)
  else if (cutAt s).2.2 = true ∧ (cutAt s).2.1 = [] then ([], [], 4)
  else if hostE (cutAt s).2.1 ≠ 0 then ([], [], hostE (cutAt s).2.1)
  else ((cutAt s).1, (cutAt s).2.1, 0)
/-- The address of a user at a host. -/
def joinF (u h : List UInt8) : List UInt8 × Int :=
  if unameOK u = false then ([], 12) else if h = [] then (u, 0) else if hostE h ≠ 0 then ([], hostE h) else (u ++ 64 :: h, 0)

theorem cutAt_one {a b : List UInt8} (ha : (64 : UInt8) ∉ a) : cutAt (a ++ 64 :: b) = (a, b, true) := by
  have h1 : ∀ x ∈ a, (x != 64) = true := fun x hx => by
    have : x ≠ 64 := by rintro rfl; exact ha hx
    simpa using this
  simp only [cutAt, List.takeWhile_append_of_pos h1, List.dropWhile_append_of_pos h1]
  simp
theorem cutAt_none {s : List UInt8} (h : (64 : UInt8) ∉ s) : cutAt s = (s, [], false) := by
  have h1 : ∀ x ∈ s, (x != 64) = true := fun x hx => by
    have : x ≠ 64 := by rintro rfl; exact h hx
    simpa using this
  have e1 := List.takeWhile_append_of_pos (l₂ := []) h1
  have e2 := List.dropWhile_append_of_pos (l₂ := []) h1
  simp only [List.append_nil, List.takeWhile_nil, List.dropWhile_nil] at e1 e2
  simp only [cutAt, e1, e2]
  simpa using h
theorem index_at (s : List UInt8) : Lib.index s [64] = if s.contains 64 then ((s.takeWhile (· != 64)).length : Int) else -1 := by
  induction s with
  | nil => rfl
  | cons b l ih =>
    unfold Lib.index
    by_cases hb : b = 64
    · subst hb; simp
    · have hb' : ¬ (64 : UInt8) = b := fun e => hb e.symm
      rw [ih]
      by_cases hc : (64 : UInt8) ∈ l
      · simp [hb, hb', hc]
      · simp [hb', hc]
theorem takeWhile_drop (s : List UInt8) : s.drop (s.takeWhile (· != 64)).length = s.dropWhile (· != 64) := by
  induction s with
  | nil => rfl
  | cons b l ih => by_cases hb : b = 64 <;> simp [hb, ih]
theorem takeWhile_take (s : List UInt8) : s.take (s.takeWhile (· != 64)).length = s.takeWhile (· != 64) := by
  induction s with
  | nil => rfl
  | cons b l ih => by_cases hb : b = 64 <;> simp [hb, ih]
theorem cut_at (s : List UInt8) : Lib.cut s [64] = cutAt s := by
  unfold Lib.cut
  rw [index_at]
  by_cases hc : (64 : UInt8) ∈ s
  · have e : (List.contains s 64) = true := by simpa using hc
    rw [if_pos e, if_pos (by omega)]
    simp only [Int.toNat_natCast, List.length_singleton, takeWhile_take, cutAt, e]
    rw [← List.drop_drop, takeWhile_drop]
  · have e : (List.contains s 64) = false := by simpa using hc
    rw [if_neg (by rw [e]; simp), cutAt_none hc]
/-- What the model's loop holds behind k bytes. -/
def Ats (s : List UInt8) (at_ : Int) (n : Nat) : Prop := n = s.count 64 ∧ (n = 0 → at_ = -1) ∧ (n = 1 → ∃ a b, s = a ++ 64 :: b ∧ (64 : UInt8) ∉ a ∧ at_ = a.length)
theorem Ats.nil : Ats [] (-1) 0 := ⟨rfl, fun _ => rfl, fun h => by cases h⟩
theorem Ats.other {s : List UInt8} {at_ : Int} {n : Nat} (h : Ats s at_ n) {c : UInt8} (hc : c ≠ 64) : Ats (s ++ [c]) at_ n := by
  obtain ⟨h1, h2, h3⟩ := h
  refine ⟨by simp [h1, List.count_append, hc], h2, fun h => ?_⟩
  obtain ⟨a, b, rfl, ha, e⟩ := h3 h
  exact ⟨a, b ++ [c], by simp, ha, e⟩
theorem Ats.one {s : List UInt8} {at_ : Int} {n : Nat} (h : Ats s at_ n) : Ats (s ++ [64]) s.length (n + 1) := by
  obtain ⟨h1, h2, h3⟩ := h
  refine ⟨by simp [h1, List.count_append], fun h => by omega, fun h => ?_⟩
  have : n = 0 := by omega
  subst this
  exact ⟨s, [], rfl, fun hm => by rw [eq_comm, List.count_eq_zero] at h1; exact h1 hm, rfl⟩
theorem splitF_none {s : List UInt8} (h : s.count 64 = 0) : splitF s = if unameOK s = false then ([], [], 12) else (s, [], 0) := by
  have h' : (64 : UInt8) ∉ s := List.count_eq_zero.1 h
  unfold splitF
  rw [cutAt_none h', if_neg (by omega)]
  by_cases hu : unameOK s = false
  · simp [hu]
  · simp [hu, hostE]
theorem splitF_one {a b : List UInt8} (h : (a ++ 64 :: b).count 64 = 1) (ha : (64 : UInt8) ∉ a) : splitF (a ++ 64 :: b) =
    if unameOK a = false then ([], [], 12) else if b = [] then ([], [], 4) else if hostE b ≠ 0 then ([], [], hostE b) else (a, b, 0) := by
  unfold splitF
  rw [cutAt_one ha, if_neg (by omega)]
  simp
theorem splitF_more {s : List UInt8} (h : 1 < s.count 64) : splitF s = ([], [], 3) := by unfold splitF; rw [if_pos h]
/-- What splits whole joins to the same. -/
theorem join_split {s : List UInt8} (h : (splitF s).2.2 = 0) : joinF (splitF s).1 (splitF s).2.1 = (s, 0) := by
  rcases Nat.lt_or_ge 1 (s.count 64) with h1 | h1
  · rw [splitF_more h1] at h; cases h
  · rcases Nat.lt_or_ge 0 (s.count 64) with h0 | h0
    · have hm : (64 : UInt8) ∈ s := List.count_pos_iff.1 h0
      obtain ⟨a, b, rfl, ha⟩ : ∃ a b, s = a ++ 64 :: b ∧ (64 : UInt8) ∉ a := by
        obtain ⟨a, b, e, h⟩ := List.eq_append_cons_of_mem hm
        exact ⟨a, b, e, h⟩
      have hc : (a ++ 64 :: b).count 64 = 1 := by omega
      rw [splitF_one hc ha] at h ⊢
      by_cases hu : unameOK a = false
      · simp [hu] at h
      · rw [if_neg hu] at h ⊢
        by_cases hb : b = []
        · simp [hb] at h
        · rw [if_neg hb] at h ⊢
          by_cases hh : hostE b ≠ 0
          · rw [if_pos hh] at h; exact absurd h hh
          · rw [if_neg hh]; simp only [joinF]; rw [if_neg hu, if_neg hb, if_neg hh]
    · have hc : s.count 64 = 0 := by omega
      rw [splitF_none hc] at h ⊢
      by_cases hu : unameOK s = false
      · simp [hu] at h
      · rw [if_neg hu]; simp only [joinF]; rw [if_neg hu]; simp
theorem isLD_ne {c : UInt8} (h : isLD c = true) : c ≠ 64 := by rintro rfl; revert h; decide
theorem hostByte_ne {c : UInt8} (h : hostByte c = true) : c ≠ 64 := by rintro rfl; revert h; decide
theorem uname_no {u : List UInt8} (h : ¬ unameOK u = false) : (64 : UInt8) ∉ u := by
  have : unameOK u = true := by simpa using h
  simp only [unameOK, Bool.and_eq_true, List.all_eq_true] at this
  exact fun hm => isLD_ne (this.2 _ hm) rfl
theorem host_no {u : List UInt8} (h : ¬ hostE u ≠ 0) : (64 : UInt8) ∉ u := by
  unfold hostE at h
  split at h
  · simp at h
  · split at h
    · rename_i ha
      rw [List.all_eq_true] at ha
      exact fun hm => hostByte_ne (ha _ hm) rfl
    · simp at h
/-- What joins splits to the same. -/
theorem split_join {u h : List UInt8} (e : (joinF u h).2 = 0) : splitF (joinF u h).1 = (u, h, 0) := by
  unfold joinF at e ⊢
  by_cases hu : unameOK u = false
  · simp [hu] at e
  · have nu := uname_no hu
    rw [if_neg hu] at e ⊢
    by_cases hh : h = []
    · rw [if_pos hh]
      subst hh
      rw [splitF_none (List.count_eq_zero.2 nu), if_neg hu]
    · rw [if_neg hh] at e ⊢
      by_cases he : hostE h ≠ 0
      · rw [if_pos he] at e; exact absurd e he
      · rw [if_neg he]
        have hc : (u ++ 64 :: h).count 64 = 1 := by
          rw [List.count_append, List.count_cons_self, List.count_eq_zero.2 nu, List.count_eq_zero.2 (host_no he)]
        show splitF (u ++ 64 :: h) = _
        rw [splitF_one hc nu, if_neg hu, if_neg hh, if_neg he]
end Go.Proofs.YtlaihnbappfbfaaGreatDoor
