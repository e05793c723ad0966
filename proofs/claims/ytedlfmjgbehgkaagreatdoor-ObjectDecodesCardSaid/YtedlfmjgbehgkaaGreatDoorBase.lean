/- Words on worlds that all walks of this seat use: which old blocks a call may turn ('Mods'), how byte slices and strings lie in memory. -/
import Derived.WalkKit
import Derived.WalkSpells
import Derived.WalkLawsBesides
import Derived.Lib.Hide
namespace Go.Proofs.YtedlfmjgbehgkaaGreatDoor
open Go.RowKit

/-- Of the blocks that lay in w, none but those in S has turned in w'. -/
structure Mods (S : List Nat) (w w' : World) : Prop where
  os : w'.os = w.os
  tape : w'.tape = w.tape
  output : w'.output = w.output
  size : w.heap.size ≤ w'.heap.size
  block : ∀ k, k < w.heap.size → k ∉ S → w'.heap[k]? = w.heap[k]?

theorem Mods.refl (S : List Nat) (w : World) : Mods S w w := ⟨rfl, rfl, rfl, Nat.le_refl _, fun _ _ _ => rfl⟩
theorem Mods.trans {S T : List Nat} {a b c : World} (h : Mods S a b) (k : Mods T b c) (hT : ∀ i, i ∈ T → i ∈ S ∨ a.heap.size ≤ i) : Mods S a c :=
  ⟨k.os.trans h.os, k.tape.trans h.tape, k.output.trans h.output, Nat.le_trans h.size k.size, fun i hi hS =>
    (k.block i (Nat.lt_of_lt_of_le hi h.size) (fun hm => (hT i hm).elim hS (fun hle => absurd hi (Nat.not_lt.2 hle)))).trans (h.block i hi hS)⟩
theorem Mods.trans' {S : List Nat} {a b c : World} (h : Mods S a b) (k : Mods [] b c) : Mods S a c := h.trans k (fun _ hm => by cases hm)
theorem Mods.weaken {S T : List Nat} {a b : World} (h : Mods S a b) (hT : ∀ i, i ∈ S → i ∈ T ∨ a.heap.size ≤ i) : Mods T a b :=
  ⟨h.os, h.tape, h.output, h.size, fun i hi hi' => h.block i hi (fun hm => (hT i hm).elim hi' (fun hle => absurd hi (Nat.not_lt.2 hle)))⟩
theorem Mods.below {w w' : World} (h : Mods [] w w') : Below w.heap.size w w' := ⟨h.os, h.tape, h.output, h.size, fun k hk => h.block k hk (by simp)⟩
theorem Mods.of_below {w w' : World} (h : Below w.heap.size w w') : Mods [] w w' := ⟨h.os, h.tape, h.output, h.size, fun k hk _ => h.block k hk⟩
theorem Mods.of_below_le {w w' : World} {B : Nat} (h : Below B w w') (hB : w.heap.size ≤ B) : Mods [] w w' := ⟨h.os, h.tape, h.output, h.size, fun k hk _ => h.block k (Nat.lt_of_lt_of_le hk hB)⟩
theorem Mods.drew {S : List Nat} {a w : World} (h : Mods S a w) : Mods S a w.drew := ⟨h.os, h.tape, h.output, h.size, h.block⟩
theorem Mods.drewN {S : List Nat} {a w : World} (h : Mods S a w) (n : Nat) : Mods S a (w.drewN n) := ⟨h.os, h.tape, h.output, h.size, h.block⟩
theorem Mods.alloc {S : List Nat} {a w : World} (h : Mods S a w) (o : Obj) : Mods S a (w.alloc o) :=
  h.trans' ⟨rfl, rfl, rfl, by simp, fun k hk _ => Below.heap_alloc _ _ _ hk⟩
theorem Mods.setCell {S : List Nat} {a w : World} (h : Mods S a w) {p : Addr} (hp : p.block ∈ S ∨ a.heap.size ≤ p.block) (u : Value) : Mods S a (w.setCell p u) :=
  h.trans (T := [p.block]) ⟨rfl, rfl, rfl, by simp [World.setCell], fun k _ hk => Below.heap_setCell _ _ _ _ (by simpa using hk)⟩ (fun i hi => by
    have : i = p.block := by simpa using hi
    subst this; exact hp)
theorem Mods.grown {S : List Nat} {a w w' : World} {row : Option Nat} (h : Mods S a w) (hg : w.grownBy w' row) (hr : ∀ k, row = some k → k ∈ S ∨ a.heap.size ≤ k) : Mods S a w' :=
  h.trans (T := row.toList) ⟨hg.os, hg.tape, hg.output, hg.size, fun k hk hm => hg.block k hk (fun e => hm (by rw [← e]; simp))⟩ (fun i hi => by
    cases row with
    | none => cases hi
    | some r => simp at hi; subst hi; exact hr _ rfl)
theorem Mods.cell {S : List Nat} {w w' : World} (h : Mods S w w') {p : Addr} (hp : p.block < w.heap.size) (hS : p.block ∉ S) : w'.cell? p = w.cell? p := World.cell?_of_block (w := w) (h.block p.block hp hS)
theorem Mods.frozen {S : List Nat} {w w' : World} (h : Mods S w w') {p : Addr} (hp : p.block < w.heap.size) (hS : p.block ∉ S) : w'.frozen? p = w.frozen? p := World.frozen?_of_block (w := w) (h.block p.block hp hS)

/-- A cell that reads lies in a block that is there. -/
theorem lt_of_cell {w : World} {a : Addr} {v : Value} (h : w.cell? a = some v) : a.block < w.heap.size := by
  unfold World.cell? at h
  split at h
  · rename_i e; exact (Array.getElem?_eq_some_iff.1 e).1
  · cases h
theorem Mods.keep {w w' : World} (h : Mods [] w w') {p : Addr} {v : Value} (hc : w.cell? p = some v) : w'.cell? p = some v := by
  rw [h.cell (lt_of_cell hc) (by simp)]; exact hc
theorem Mods.keepS {S : List Nat} {w w' : World} (h : Mods S w w') {p : Addr} {v : Value} (hc : w.cell? p = some v) (hS : p.block ∉ S) : w'.cell? p = some v := by
  rw [h.cell (lt_of_cell hc) hS]; exact hc

theorem heap_setCell_same {w : World} {b off : Nat} {c : Array Value} {t : TypeId} {fz : Nat × Nat} (h : w.heap[b]? = some (.cells c t fz)) (u : Value) :
    (w.setCell ⟨b, off, none⟩ u).heap[b]? = some (.cells (c.setIfInBounds off u) t fz) := by
  simp only [World.setCell, Array.getElem?_modify, if_true, h]
  rfl
theorem heap_setCell_ne {w : World} {b k off : Nat} (h : k ≠ b) (u : Value) : (w.setCell ⟨b, off, none⟩ u).heap[k]? = w.heap[k]? := Below.heap_setCell _ _ _ _ h
theorem cell_of_heap {w : World} {b : Nat} {c : Array Value} {t : TypeId} {fz : Nat × Nat} (h : w.heap[b]? = some (.cells c t fz)) (off : Nat) : w.cell? ⟨b, off, none⟩ = c[off]? := by
  simp [World.cell?, h]
theorem frozen_of_heap {w : World} {b : Nat} {c : Array Value} {t : TypeId} (h : w.heap[b]? = some (.cells c t (0, 0))) (off : Nat) : w.frozen? ⟨b, off, none⟩ = false := by
  simp [World.frozen?, h]
theorem lt_of_heap {w : World} {b : Nat} {o : Obj} (h : w.heap[b]? = some o) : b < w.heap.size := (Array.getElem?_eq_some_iff.1 h).1
theorem heap_alloc_new (w : World) (o : Obj) : (w.alloc o).heap[w.heap.size]? = some o := by
  show (w.heap.push o)[w.heap.size]? = _
  simp
theorem heap_alloc_old {w : World} {o : Obj} {k : Nat} {p : Obj} (h : w.heap[k]? = some p) : (w.alloc o).heap[k]? = some p := by
  rw [Below.heap_alloc _ _ _ (lt_of_heap h)]; exact h
theorem Mods.heap {S : List Nat} {w w' : World} (hm : Mods S w w') {k : Nat} {p : Obj} (h : w.heap[k]? = some p) (hS : k ∉ S) : w'.heap[k]? = some p := by
  rw [hm.block k (lt_of_heap h) hS]; exact h
/-- The two rules by which a walk reads on behind a call that has turned no old block. -/
theorem Mods.rules {w w' : World} (h : Mods [] w w') : (∀ b o, b < w.heap.size → w'.cell? ⟨b, o, none⟩ = w.cell? ⟨b, o, none⟩) ∧ (∀ b o, b < w.heap.size → w'.frozen? ⟨b, o, none⟩ = w.frozen? ⟨b, o, none⟩) :=
  ⟨fun b o hb => h.cell (p := ⟨b, o, none⟩) hb (by simp), fun b o hb => h.frozen (p := ⟨b, o, none⟩) hb (by simp)⟩
theorem Mods.rules1 {w w' : World} {R : Nat} (h : Mods [R] w w') : (∀ b o, b < w.heap.size → b ≠ R → w'.cell? ⟨b, o, none⟩ = w.cell? ⟨b, o, none⟩) ∧ (∀ b o, b < w.heap.size → b ≠ R → w'.frozen? ⟨b, o, none⟩ = w.frozen? ⟨b, o, none⟩) :=
  ⟨fun b o hb hR => h.cell (p := ⟨b, o, none⟩) hb (by simpa using hR), fun b o hb hR => h.frozen (p := ⟨b, o, none⟩) hb (by simpa using hR)⟩

/-- The slice value v holds the bytes l, in block B (nil or of any address where there is none). -/
def BytesIn (w : World) (B : Nat) (v : Value) (l : List UInt8) : Prop :=
  ∃ p cap, v = .slice p l.length cap ∧ l.length ≤ cap ∧ (l = [] ∨ ∃ off, p = some ⟨B, off, none⟩ ∧ ∀ i, (h : i < l.length) → w.cell? ⟨B, off + i, none⟩ = some (.int .u8 l[i].toNat))
theorem BytesIn.mods {S : List Nat} {w w' : World} {B : Nat} {v : Value} {l : List UInt8} (h : BytesIn w B v l) (hm : Mods S w w') (hS : B ∉ S) : BytesIn w' B v l := by
  obtain ⟨p, cap, rfl, hcap, h⟩ := h
  refine ⟨p, cap, rfl, hcap, ?_⟩
  rcases h with h | ⟨off, rfl, hc⟩
  · exact .inl h
  · exact .inr ⟨off, rfl, fun i hi => hm.keepS (hc i hi) hS⟩
/-- Of whatever block. -/
def BytesAt (w : World) (v : Value) (l : List UInt8) : Prop := ∃ B, BytesIn w B v l
theorem BytesAt.keep {w w' : World} {v : Value} {l : List UInt8} (h : BytesAt w v l) (hm : Mods [] w w') : BytesAt w' v l := h.imp fun _ h => h.mods hm (by simp)
end Go.Proofs.YtedlfmjgbehgkaaGreatDoor
