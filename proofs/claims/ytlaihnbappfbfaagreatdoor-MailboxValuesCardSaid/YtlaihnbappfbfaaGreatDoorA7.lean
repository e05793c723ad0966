/- The view of an action, as memory: what lies where, which keys the maps have. Walks of state and view: New, Get over an empty state. Walks of view: read, call. -/
import Derived.Test.YtlaihnbappfbfaaGreatDoorA5
import Derived.Test.YtlaihnbappfbfaaGreatDoorA3
import Derived.Maps.OwnSet
import Derived.DeepKeys4
import Derived.Deep.QuietTactic
import Derived.BigQuiet
import Derived.StillTailTactics
import Derived.Deep.RegionHeld3
namespace Go.Proofs.YtlaihnbappfbfaaGreatDoor
open Go.RowKit
open Go.Maps (Keyed)

/-- The name of an object. -/
structure NameB where
  k : Int
  o : ByteArray
  n : Int
  i : Int
  t : ByteArray
def NameB.val (m : NameB) : Value := nameVal m.k m.o m.n m.i m.t
def NameB.cells (m : NameB) : List Value := [.int .i64 m.k, .string m.o, .int .i64 m.n, .int .i64 m.i, .string m.t]
structure NameB.fit (m : NameB) : Prop where
  k : (Lit.int .i64 m.k).wf = true
  n : (Lit.int .i64 m.n).wf = true
  i : (Lit.int .i64 m.i).wf = true
  o : m.o.size ≤ 1000000
  t : m.t.size ≤ 1000000
instance : DecidableEq NameB := fun a b => by
  obtain ⟨k, o, n, i, t⟩ := a
  obtain ⟨k', o', n', i', t'⟩ := b
  exact decidable_of_iff (k = k' ∧ o = o' ∧ n = n' ∧ i = i' ∧ t = t') (by simp)

theorem laidOutAll : laidOutB Tryz.prog = true := by kernel_rfl
theorem rowName : (80 : TypeId) < Tryz.prog.types.size := of_decide_eq_true (by kernel_rfl)
theorem keyName : Tryz.prog.keyTypeAt 2 80 = true := by kernel_rfl
theorem keyNameAll : Tryz.prog.keyType 80 = true := by kernel_rfl
theorem wideName : (match Tryz.prog.underlying 80 with | some (.array _ _) | some (.struct _) => true | _ => false) = true := by rw [Tryz.underlying80]
/-- Names are keys. -/
theorem lawName : Keyed Tryz.prog 80 := Keyed.of_law (deep_law_laid laidOutAll (m := 2) (by omega) rowName keyName (by rw [Tryz.underlying80]))
/-- kl is the key of the name m. -/
def KeyIs (m : NameB) (kl : Lit) : Prop := keyOf Tryz.prog 80 m.val = some kl
theorem NameB.val_inj {a b : NameB} (h : a.val = b.val) : a = b := by
  obtain ⟨k, o, n, i, t⟩ := a
  obtain ⟨k', o', n', i', t'⟩ := b
  simp [NameB.val, nameVal] at h
  obtain ⟨rfl, rfl, rfl, rfl, rfl⟩ := h
  rfl
theorem KeyIs.inj {a b : NameB} {l : Lit} (ha : KeyIs a l) (hb : KeyIs b l) : a = b := NameB.val_inj (lawName.inj ha hb)
theorem KeyIs.uniq {a : NameB} {l l' : Lit} (ha : KeyIs a l) (hb : KeyIs a l') : l = l' := Option.some.inj (ha.symm.trans hb)

/-- A call of a view: a name gets a value, or none. -/
structure ChgB where
  name : NameB
  value : ByteArray
  absent : Bool
def ChgB.cells (c : ChgB) : List Value := c.name.cells ++ [.string c.value, .bool c.absent]
/-- The last call that speaks of a name. -/
def lastCall (l : List ChgB) (m : NameB) : Option ChgB := l.reverse.find? (fun c => decide (c.name = m))
theorem lastCall_nil (m : NameB) : lastCall [] m = none := rfl
theorem lastCall_snoc (l : List ChgB) (c : ChgB) (m : NameB) : lastCall (l ++ [c]) m = if c.name = m then some c else lastCall l m := by
  unfold lastCall
  rw [List.reverse_append]
  simp only [List.reverse_cons, List.reverse_nil, List.nil_append, List.singleton_append, List.find?_cons]
  by_cases h : c.name = m <;> simp [h]
/-- The map 'last' tells for each name the index of its last call. -/
def LastIs (D : DataW Unit) (l : List ChgB) : Prop := Maps.IsMap D ∧ ∀ m kl, KeyIs m kl →
  match lastCall l m with
  | none => Maps.has D kl = false
  | some c => Maps.has D kl = true ∧ ∃ i : Nat, D.atKey kl (.lit (.int .i64 0)) = .lit (.int .i64 i) ∧ l[i]? = some c
theorem LastIs.nil : LastIs (.map []) [] := ⟨Maps.isMap_empty, fun _ _ _ => rfl⟩
theorem LastIs.snoc {D : DataW Unit} {l : List ChgB} (h : LastIs D l) (c : ChgB) {kl : Lit} (hk : KeyIs c.name kl) :
    LastIs (D.put kl (.lit (.int .i64 l.length))) (l ++ [c]) := by
  obtain ⟨hD, h⟩ := h
  refine ⟨hD.put _ _, fun m kl' hm => ?_⟩
  rw [lastCall_snoc]
  by_cases he : c.name = m
  · subst he
    rw [if_pos rfl]
    have := hk.uniq hm
    subst this
    exact ⟨Maps.has_put_same hD (lawName.key hk) _, l.length, Maps.atKey_put_same hD (lawName.key hk) _ _, by simp⟩
  · rw [if_neg he]
    have hne : kl' ≠ kl := fun e => he (hk.inj (e ▸ hm))
    have h1 := h m kl' hm
    cases hc : lastCall l m with
    | none =>
      rw [hc] at h1
      show Maps.has _ _ = false
      rw [Maps.has_put_other hne]; exact h1
    | some x =>
      rw [hc] at h1
      obtain ⟨h2, i, h3, h4⟩ := h1
      refine ⟨by rw [Maps.has_put_other hne]; exact h2, i, by rw [Maps.atKey_put_other hne]; exact h3, ?_⟩
      rw [List.getElem?_append_left (List.getElem?_eq_some_iff.1 h4).1]; exact h4

/-- What a view shows over an empty state. -/
def vget (l : List ChgB) (m : NameB) : Option ByteArray := match lastCall l m with | none => none | some c => if c.absent then none else some c.value
def anyElem (_ : Value) : Option (DataW Unit × List MemPlace) := some (.lit (.bool true), [])

/-- Block V is a view over an empty state that has done the calls l, and has been asked or told at most n times. -/
def ViewIs (w : World) (V n : Nat) (l : List ChgB) : Prop :=
  ∃ S mr ml cs Dr D, w.heap[V]? = some (.cells #[.pointer (some ⟨S, 0, none⟩), .map (some mr), cs, .map (some ml)] 132 (0, 0)) ∧
    w.heap[S]? = some (.cells #[.pointer none] 159 (0, 0)) ∧
    w.ownsMap Tryz.prog 80 anyElem mr n Dr ∧ w.ownsMap Tryz.prog 80 (plainElem Tryz.prog 3) ml n D ∧ LastIs D l ∧
    w.ownsRow (V + 1) 93 7 cs l.length (l.flatMap ChgB.cells) ∧ S < V ∧ mr < V ∧ ml < V ∧ mr ≠ ml ∧ l.length ≤ n ∧ ((∀ c ∈ l, c.name.fit ∧ c.value.size ≤ 1000000) ∧ V ≤ mr + 2 ∧ V ≤ ml + 2)
/-- What a view's methods keep. -/
def VKeep (V k : Nat) (o : Obj) : Prop := k ≠ V ∧ (k + 2 < V ∨ ∀ es c, o ≠ .map es c) ∧ (k < V + 1 ∨ ∀ cur, o ≠ .cells cur 93 (0, 0))
theorem ViewIs.lt {w : World} {V n : Nat} {l : List ChgB} (h : ViewIs w V n l) : V < w.heap.size := by
  obtain ⟨S, mr, ml, cs, Dr, D, h, _⟩ := h
  exact lt_of_heap h
/-- What leaves the view's parts alone leaves the view. -/
theorem ViewIs.keep {P : Nat → Obj → Prop} {w w' : World} {V n : Nat} {l : List ChgB} (h : ViewIs w V n l) (hk : Keep P w w') (h1 : ∀ o, P V o) (h2 : ∀ k es c, k < V → P k (.map es c))
    (h3 : ∀ k cur, P k (.cells cur 93 (0, 0))) (h4 : ∀ k cur, k < V → P k (.cells cur 159 (0, 0))) : ViewIs w' V n l := by
  obtain ⟨S, mr, ml, cs, Dr, D, a1, a2, a3, a4, a5, a6, a7, a8, a9, a10, a11, a12⟩ := h
  have hmap : ∀ {R : Value → Option (DataW Unit × List MemPlace)} {b m : Nat} {E : DataW Unit}, b < V → w.ownsMap Tryz.prog 80 R b m E → w'.ownsMap Tryz.prog 80 R b m E := by
    rintro R b m E hb ⟨es, clock, hh, hF, hs, hD⟩
    exact ⟨es, clock, hk.block _ _ hh (h2 _ _ _ hb), hF, hs, hD⟩
  refine ⟨S, mr, ml, cs, Dr, D, hk.block _ _ a1 (h1 _), hk.block _ _ a2 (h4 _ _ a7), hmap a8 a3, hmap a9 a4, a5, ?_, a7, a8, a9, a10, a11, a12⟩
  obtain ⟨b1, ⟨rfl, b2⟩ | ⟨g', cap, cur, rfl, hB, hh, hn, hm, hc, ht⟩⟩ := a6
  · exact ⟨b1, .inl ⟨rfl, b2⟩⟩
  · exact ⟨b1, .inr ⟨g', cap, cur, rfl, hB, hk.block _ _ hh (h3 _ _), hn, hm, hc, ht⟩⟩
theorem ViewIs.mods {w w' : World} {V n : Nat} {l : List ChgB} (h : ViewIs w V n l) (hm : Mods [] w w') : ViewIs w' V n l :=
  h.keep (P := fun _ _ => True) (Keep.of_mods hm (by simp)) (fun _ => trivial) (fun _ _ _ _ => trivial) (fun _ _ => trivial) (fun _ _ _ => trivial)
theorem ViewIs.mono {w : World} {V n m : Nat} {l : List ChgB} (h : ViewIs w V n l) (hn : n ≤ m) : ViewIs w V m l := by
  obtain ⟨S, mr, ml, cs, Dr, D, a1, a2, a3, a4, a5, a6, a7, a8, a9, a10, a11, a12⟩ := h
  exact ⟨S, mr, ml, cs, Dr, D, a1, a2, a3.mono hn, a4.mono hn, a5, a6, a7, a8, a9, a10, by omega, a12⟩
end Go.Proofs.YtlaihnbappfbfaaGreatDoor

namespace Go.Proofs.YtlaihnbappfbfaaGreatDoor
open Go.RowKit
open Go.Maps (Keyed)

theorem cellsName : Tryz.prog.cellsOf 80 = 5 := by kernel_rfl
theorem cInt : Tryz.prog.cellsOf 3 = 1 := by kernel_rfl
theorem cStr : Tryz.prog.cellsOf 9 = 1 := by kernel_rfl
theorem cLin : Tryz.prog.cellsOf 78 = 1 := by kernel_rfl
theorem key_ex (m : NameB) (h : m.fit) : ∃ kl, KeyIs m kl := by
  obtain ⟨k, o, n, i, t⟩ := m
  obtain ⟨h1, h2, h3, h4, h5⟩ := h
  simp only at h1 h2 h3 h4 h5
  have h4' : o.size ≤ maxLen := by unfold maxLen; omega
  have h5' : t.size ≤ maxLen := by unfold maxLen; omega
  have hts : ∃ q, Tryz.prog.types.size + 1 = q + 2 := ⟨Tryz.prog.types.size - 1, by have : 0 < Tryz.prog.types.size := Nat.lt_of_le_of_lt (Nat.zero_le _) rowName; omega⟩
  obtain ⟨q, hq⟩ := hts
  have hf : (NameB.val ⟨k, o, n, i, t⟩).formed Tryz.prog 80 = true := by simp [NameB.val, nameVal, Value.formed, Tryz.underlying80, cellsName]
  unfold KeyIs keyOf
  rw [Tryz.underlying80]
  simp only [keyNameAll, hf, Bool.and_self, if_true, hq]
  have hk : Tryz.prog.keyLits (q + 2) 80 (NameB.val ⟨k, o, n, i, t⟩).cells.toList = some [.int .i64 k, .string o.data.toList, .int .i64 n, .int .i64 i, .string t.data.toList] := by
    simp [NameB.val, nameVal, Value.cells, Program.keyLits, Tryz.underlying80, Tryz.underlying3, Tryz.underlying9, Tryz.underlying78, cellsName, cInt, cStr, cLin, h1, h2, h3, h4', h5']
  rw [hk]
  exact ⟨_, rfl⟩

theorem stateNew_any (w : World) : Calls Tryz.prog 61 #[] w fun e w' => e = .returned (.pointer (some ⟨w.heap.size, 0, none⟩)) ∧ w' = w.alloc (.cells #[.pointer none] 159) := by
  go_enter Tryz.func61, Tryz.ntmps61
  go_wp2
  go_ret
  exact ⟨rfl, rfl⟩

theorem viewNew_any {w : World} {S : Nat} (hS : w.heap[S]? = some (.cells #[.pointer none] 159 (0, 0))) :
    Calls Tryz.prog 38 #[.pointer (some ⟨S, 0, none⟩)] w fun e w' => e = .returned (.pointer (some ⟨w.heap.size + 2, 0, none⟩)) ∧ ViewIs w' (w.heap.size + 2) 0 [] ∧ Mods [] w w' := by
  have hlt := lt_of_heap hS
  have HS := Lib.hid hS
  clear hS
  have hmm := @run_makeMap Tryz.prog
  go_enter Tryz.func38, Tryz.ntmps38
  go_wp2
  go_ret
  have e2 : ((w.alloc (.map #[] 0)).alloc (.map #[] 0)).heap.size = w.heap.size + 2 := by simp
  have e1 : (w.alloc (.map #[] 0)).heap.size = w.heap.size + 1 := by simp
  refine ⟨by simp, ⟨S, w.heap.size, w.heap.size + 1, _, .map [], .map [], ?_, ?_, ?_, ?_, LastIs.nil, World.ownsRow_nil _ _ _ _, by omega, by omega, by omega, by omega, by simp, by simp, by omega, by omega⟩, (((Mods.refl [] w).alloc _).alloc _).alloc _⟩
  · rw [← e2]; exact heap_alloc_new _ _
  · exact heap_alloc_old (heap_alloc_old (heap_alloc_old HS.out))
  · exact ((World.ownsMap_made w _ _ _).alloc _).alloc _
  · have := (World.ownsMap_made (w.alloc (.map #[] 0)) Tryz.prog 80 (plainElem (H := Unit) Tryz.prog 3)).alloc (.cells #[.pointer (some ⟨S, 0, none⟩), .map (some w.heap.size), .slice none 0 0, .map (some (w.heap.size + 1))] 132)
    rw [e1] at this
    exact this

/-- The empty tree holds nothing. -/
theorem findNil_any (m : NameB) (w : World) : Calls Tryz.prog 131 #[.pointer none, m.val] w fun e w' => e = .returned (.pointer none) ∧ Mods [] w w' := by
  unfold NameB.val nameVal
  go_enter Tryz.func131, Tryz.ntmps131
  go_wp2
  go_loopw [0, 5] (fun p _ wr => p = .pointer none ∧ Mods [] w wr) (fun _ _ _ => 0)
  case atStart => exact ⟨rfl, (Mods.refl _ _).alloc _⟩
  case round =>
    obtain ⟨rfl, hm⟩ := hrel
    go_wp2
    go_ret
    exact ⟨rfl, hm⟩
theorem stateGet_any {w : World} {S : Nat} (m : NameB) (hS : w.heap[S]? = some (.cells #[.pointer none] 159 (0, 0))) :
    Calls Tryz.prog 127 #[.pointer (some ⟨S, 0, none⟩), m.val] w fun e w' => e = .returned (.tuple #[.string ⟨#[]⟩, .bool false]) ∧ Mods [] w w' := by
  have hlt := lt_of_heap hS
  have c0 := cell_of_heap hS 0
  simp only [List.getElem?_toArray, List.getElem?_cons_zero] at c0
  clear hS
  have hf := fun W => findNil_any m W
  unfold NameB.val nameVal at hf ⊢
  have hW1 := heap_alloc_new w (.cells #[.int .i64 m.k, .string m.o, .int .i64 m.n, .int .i64 m.i, .string m.t] 80)
  have hM1 : Mods [] w (w.alloc (.cells #[.int .i64 m.k, .string m.o, .int .i64 m.n, .int .i64 m.i, .string m.t] 80)) := (Mods.refl _ _).alloc _
  have c0' := hM1.keep c0
  have HK : Hid (∀ W', Mods [] (w.alloc (.cells #[.int .i64 m.k, .string m.o, .int .i64 m.n, .int .i64 m.i, .string m.t] 80)) W' → W'.cell? ⟨S, 0, none⟩ = some (.pointer none) ∧ W'.cell? ⟨w.heap.size, 0, none⟩ = some (.int .i64 m.k) ∧ W'.cell? ⟨w.heap.size, 1, none⟩ = some (.string m.o) ∧ W'.cell? ⟨w.heap.size, 2, none⟩ = some (.int .i64 m.n) ∧ W'.cell? ⟨w.heap.size, 3, none⟩ = some (.int .i64 m.i) ∧ W'.cell? ⟨w.heap.size, 4, none⟩ = some (.string m.t) ∧ Mods [] (w.alloc (.cells #[.int .i64 m.k, .string m.o, .int .i64 m.n, .int .i64 m.i, .string m.t] 80)) W') := by
    show ∀ _, _
    exact fun W' h => ⟨h.keep c0', h.keep (cell_of_heap hW1 0), h.keep (cell_of_heap hW1 1), h.keep (cell_of_heap hW1 2), h.keep (cell_of_heap hW1 3), h.keep (cell_of_heap hW1 4), h⟩
  have HM := Lib.hid hM1
  clear hW1 hM1 c0'
  go_enter Tryz.func127, Tryz.ntmps127
  go_wp2
  generalize hW7 : w.alloc (.cells #[.int .i64 m.k, .string m.o, .int .i64 m.n, .int .i64 m.i, .string m.t] 80) = W7 at *
  have k7 := HK.out W7.drew (Mods.refl _ _).drew
  go_region_held3 (fun W' => W'.cell? ⟨S, 0, none⟩ = some (.pointer none) ∧ W'.cell? ⟨w.heap.size, 0, none⟩ = some (.int .i64 m.k) ∧ W'.cell? ⟨w.heap.size, 1, none⟩ = some (.string m.o) ∧ W'.cell? ⟨w.heap.size, 2, none⟩ = some (.int .i64 m.n) ∧ W'.cell? ⟨w.heap.size, 3, none⟩ = some (.int .i64 m.i) ∧ W'.cell? ⟨w.heap.size, 4, none⟩ = some (.string m.t) ∧ Mods [] W7 W') (first | exact k8 | exact k7) (first | (go_at_call 131; refine (hf _).mono ?_; rintro e W8 ⟨rfl, hM8⟩; have k8 := HK.out _ ((Mods.refl _ W7).drew.trans' hM8); clear hM8))
  all_goals go_wp2
  all_goals go_ret2
  all_goals exact ⟨rfl, HM.out.trans' k8.2.2.2.2.2.2⟩
end Go.Proofs.YtlaihnbappfbfaaGreatDoor

namespace Go.Proofs.YtlaihnbappfbfaaGreatDoor
open Go.RowKit
open Go.Maps (Keyed)

/-- A map that turns keeps what is no map of the view. -/
theorem keep_of_map {w w' : World} {V b : Nat} {es : Array MapEntry} {k : Nat} (hb : w.heap[b]? = some (.map es k)) (hg : w.grownBy w' (some b)) (hV : V ≤ b + 2) : Keep (VKeep V) w w' :=
  (Keep.refl _ w).grown hg (by
    rintro k' o e ho ⟨_, h2, _⟩
    cases e
    rw [hb] at ho
    rcases h2 with h2 | h2
    · omega
    · exact h2 _ _ (Option.some.inj ho).symm)
theorem ownsMap_block {H : Type} {w : World} {P : Program} {k b n : Nat} {R : Value → Option (DataW H × List MemPlace)} {D : DataW H} (h : w.ownsMap P k R b n D) : ∃ es c, w.heap[b]? = some (.map es c) := by
  obtain ⟨es, c, h, _⟩ := h
  exact ⟨es, c, h⟩

set_option maxRecDepth 100000 in
theorem viewRead_any {w : World} {V n : Nat} {l : List ChgB} (h : ViewIs w V n l) (c : ChgB) (hf : c.name.fit) (hn : n < 1000000000) :
    Calls Tryz.prog 128 #[.pointer (some ⟨V, 0, none⟩), .agg #[.int .i64 c.name.k, .string c.name.o, .int .i64 c.name.n, .int .i64 c.name.i, .string c.name.t, .string c.value, .bool c.absent]] w
      fun e w' => e = .returned (.tuple #[]) ∧ ViewIs w' V (n + 1) l ∧ Keep (VKeep V) w w' := by
  have hlt := h.lt
  obtain ⟨kl, hkl⟩ := key_ex c.name hf
  have hM1 : Mods [] w (w.alloc (.cells #[.int .i64 c.name.k, .string c.name.o, .int .i64 c.name.n, .int .i64 c.name.i, .string c.name.t, .string c.value, .bool c.absent] 93)) := (Mods.refl _ _).alloc _
  have hW1 := heap_alloc_new w (.cells #[.int .i64 c.name.k, .string c.name.o, .int .i64 c.name.n, .int .i64 c.name.i, .string c.name.t, .string c.value, .bool c.absent] 93)
  have h1 := h.mods hM1
  have hq := fun (W : World) (r : Option Nat) => run_eql_map_nil (P := Tryz.prog) W 129 80 93 r Tryz.underlying129
  have HM := Lib.hid hM1
  have Hlt : Hid (V < w.heap.size) := hlt
  have c1 : ∃ m0, (w.alloc (.cells #[.int .i64 c.name.k, .string c.name.o, .int .i64 c.name.n, .int .i64 c.name.i, .string c.name.t, .string c.value, .bool c.absent] 93)).cell? ⟨V, 1, none⟩ = some (.map (some m0)) := by
    obtain ⟨S, mr, ml, cs, Dr, D, a1, _⟩ := h1
    exact ⟨mr, cell_of_heap a1 1⟩
  obtain ⟨m0, c1⟩ := c1
  have H1 := Lib.hid h1
  clear h h1 hM1 hf
  go_enter Tryz.func128, Tryz.ntmps128
  go_wp2
  generalize hW7 : w.alloc (.cells #[.int .i64 c.name.k, .string c.name.o, .int .i64 c.name.n, .int .i64 c.name.i, .string c.name.t, .string c.value, .bool c.absent] 93) = W7 at *
  have g0 := cell_of_heap hW1 0
  have g1 := cell_of_heap hW1 1
  have g2 := cell_of_heap hW1 2
  have g3 := cell_of_heap hW1 3
  have g4 := cell_of_heap hW1 4
  have g5 := cell_of_heap hW1 5
  have g6 := cell_of_heap hW1 6
  simp only [List.getElem?_toArray, List.getElem?_cons_zero, List.getElem?_cons_succ] at g0 g1 g2 g3 g4 g5 g6
  obtain ⟨S, mr, ml, cs, Dr, D, a1, a2, a3, a4, a5, a6, a7, a8, a9, a10, a11, a12⟩ := id H1.out
  have em : mr = m0 := by
    have := (cell_of_heap a1 1).symm.trans c1
    simpa using this
  subst em
  obtain ⟨w2, hrun, hown, hgr⟩ := a3.drew.update lawName Tryz.underlying129 (by unfold maxLen; omega) (key := .agg #[.int .i64 c.name.k, .string c.name.o, .int .i64 c.name.n, .int .i64 c.name.i, .string c.name.t]) hkl (val := .agg #[.int .i64 c.name.k, .string c.name.o, .int .i64 c.name.n, .int .i64 c.name.i, .string c.name.t, .string c.value, .bool c.absent]) rfl
  have hMd : Mods [] W7 W7.drew := (Mods.refl _ _).drew
  have hk2 : Keep (VKeep V) W7.drew w2 := by
    obtain ⟨es, ck, hb⟩ := ownsMap_block a3.drew
    exact keep_of_map hb hgr a12.2.1
  have hcell : ∀ b off o v, W7.heap[b]? = some o → b ≠ mr → W7.cell? ⟨b, off, none⟩ = some v → w2.cell? ⟨b, off, none⟩ = some v := by
    intro b off o v hb hne hc
    rw [World.cell?_of_block (w := W7) (w' := w2) (hgr.block b (lt_of_heap hb) (by simpa using hne))]
    exact hc
  have hne1 : w.heap.size ≠ mr := by have := Hlt.out; omega
  have hne2 : V ≠ mr := by omega
  have k2 : w2.cell? ⟨V, 1, none⟩ = some (.map (some mr)) ∧ w2.cell? ⟨w.heap.size, 0, none⟩ = some (.int .i64 c.name.k) ∧ w2.cell? ⟨w.heap.size, 1, none⟩ = some (.string c.name.o) ∧ w2.cell? ⟨w.heap.size, 2, none⟩ = some (.int .i64 c.name.n) ∧ w2.cell? ⟨w.heap.size, 3, none⟩ = some (.int .i64 c.name.i) ∧ w2.cell? ⟨w.heap.size, 4, none⟩ = some (.string c.name.t) ∧ w2.cell? ⟨w.heap.size, 5, none⟩ = some (.string c.value) ∧ w2.cell? ⟨w.heap.size, 6, none⟩ = some (.bool c.absent) :=
    ⟨hcell _ _ _ _ a1 hne2 c1, hcell _ _ _ _ hW1 hne1 g0, hcell _ _ _ _ hW1 hne1 g1, hcell _ _ _ _ hW1 hne1 g2, hcell _ _ _ _ hW1 hne1 g3, hcell _ _ _ _ hW1 hne1 g4, hcell _ _ _ _ hW1 hne1 g5, hcell _ _ _ _ hW1 hne1 g6⟩
  have k7 : W7.drew.cell? ⟨V, 1, none⟩ = some (.map (some mr)) ∧ W7.drew.cell? ⟨w.heap.size, 0, none⟩ = some (.int .i64 c.name.k) ∧ W7.drew.cell? ⟨w.heap.size, 1, none⟩ = some (.string c.name.o) ∧ W7.drew.cell? ⟨w.heap.size, 2, none⟩ = some (.int .i64 c.name.n) ∧ W7.drew.cell? ⟨w.heap.size, 3, none⟩ = some (.int .i64 c.name.i) ∧ W7.drew.cell? ⟨w.heap.size, 4, none⟩ = some (.string c.name.t) ∧ W7.drew.cell? ⟨w.heap.size, 5, none⟩ = some (.string c.value) ∧ W7.drew.cell? ⟨w.heap.size, 6, none⟩ = some (.bool c.absent) :=
    ⟨hMd.keep c1, hMd.keep g0, hMd.keep g1, hMd.keep g2, hMd.keep g3, hMd.keep g4, hMd.keep g5, hMd.keep g6⟩
  have hV2 : Hid (ViewIs w2 V (n + 1) l ∧ Keep (VKeep V) w w2) := by
    have hk3 : Keep (fun k _ => k ≠ mr) W7 w2 := ⟨hgr.os, hgr.tape.trans rfl, hgr.output, hgr.size, fun k o hk hP => by rw [hgr.block k (lt_of_heap hk) (by simpa using hP)]; exact hk⟩
    have hSm : S ≠ mr := by
      rintro rfl
      obtain ⟨es, ck, hb⟩ := ownsMap_block a3
      rw [a2] at hb
      cases hb
    have a4' : w2.ownsMap Tryz.prog 80 (plainElem (H := Unit) Tryz.prog 3) ml (n + 1) D := by
      obtain ⟨es, ck, hb, hF, hs, hD⟩ := a4
      exact ⟨es, ck, hk3.block _ _ hb (fun e => a10 e.symm), hF, by omega, hD⟩
    have a6' : w2.ownsRow (V + 1) 93 7 cs l.length (l.flatMap ChgB.cells) := by
      obtain ⟨b1, ⟨rfl, b2⟩ | ⟨g', cap, cur, rfl, hB, hh, hn, hm, hc, ht⟩⟩ := a6
      · exact ⟨b1, .inl ⟨rfl, b2⟩⟩
      · exact ⟨b1, .inr ⟨g', cap, cur, rfl, hB, hk3.block _ _ hh (by omega), hn, hm, hc, ht⟩⟩
    refine ⟨⟨S, mr, ml, cs, _, D, hk3.block _ _ a1 hne2, hk3.block _ _ a2 hSm, hown, a4', a5, a6', a7, a8, a9, a10, by omega, a12⟩, (Keep.of_mods (HM.out.trans' hMd) (by simp)).trans hk2⟩
  clear hcell hW1 a1 a2 a3 a4 a5 a6 a12 hown hgr hk2
  go_region_held3 (fun W' => W'.cell? ⟨V, 1, none⟩ = some (.map (some mr)) ∧ W'.cell? ⟨w.heap.size, 0, none⟩ = some (.int .i64 c.name.k) ∧ W'.cell? ⟨w.heap.size, 1, none⟩ = some (.string c.name.o) ∧ W'.cell? ⟨w.heap.size, 2, none⟩ = some (.int .i64 c.name.n) ∧ W'.cell? ⟨w.heap.size, 3, none⟩ = some (.int .i64 c.name.i) ∧ W'.cell? ⟨w.heap.size, 4, none⟩ = some (.string c.name.t) ∧ W'.cell? ⟨w.heap.size, 5, none⟩ = some (.string c.value) ∧ W'.cell? ⟨w.heap.size, 6, none⟩ = some (.bool c.absent)) (first | exact k7 | exact k2) (fail)
  all_goals go_wp2
  all_goals go_end0
  all_goals exact ⟨rfl, hV2.out⟩
end Go.Proofs.YtlaihnbappfbfaaGreatDoor
