/- What the listed variables give the walks: the table of the kinds. What the listed variables give the walks: the tables of sha256. -/
import Derived.Test.YtlaihnbappfbfaaGreatDoorA5
import Derived.Test.YtlaihnbappfbfaaGreatDoorRows
import Derived.Lib.LaidU8
import Derived.OpenShut
import Derived.ChangeArms
import Derived.Test.YtlaihnbappfbfaaGreatDoorS1
namespace Go.Proofs.YtlaihnbappfbfaaGreatDoor
open Go.RowKit

def rowDatum (k : Nat) : DataW Unit := .agg [.lit (.string (uWord k)), .lit (.bool (uOwner k)), .lit (.bool (uNumber k)), .lit (.bool (uIndex k)), .lit (.bool (uText k)), .lit (.int .i64 (uMost k))]
theorem usages_datum : (Rows.laid_replevin_object_usages : DataW Unit) = .agg ((List.range 21).map rowDatum) := by rfl
theorem gUsages : Tryz.prog.globalNamed "replevin/object.usages" = some 0 := by kernel_rfl
theorem tUsages : (Tryz.prog.globals[0]?).map (·.type) = some 174 := by kernel_rfl
theorem c177 : Tryz.prog.cellsOf 173 = 6 := by kernel_rfl
theorem c9 : Tryz.prog.cellsOf 9 = 1 := by kernel_rfl
theorem c4 : Tryz.prog.cellsOf 4 = 1 := by kernel_rfl
theorem c3 : Tryz.prog.cellsOf 3 = 1 := by kernel_rfl
set_option maxRecDepth 100000 in
/-- A row of the table, cell for cell. -/
theorem row_of_trod {w : World} {enc : TypeId × Value → Unit} {sp : Nat → Bool} {held : Bool} {fuel : Nat} {cs : List Value} {k : Nat} {p : List MemPlace}
    (h : DataW.trod enc Tryz.prog w 0 sp held fuel 173 cs = some (rowDatum k, p)) : cs = uRow k := by
  obtain ⟨xs, n, rfl, hx, hl, hn, hel⟩ := DataW.trod_struct Tryz.underlying173 h
  rw [c177] at hl
  have h0 : DataW.trod enc Tryz.prog w 0 sp held n 9 ((cs.drop 0).take (Tryz.prog.cellsOf 9)) = xs[0]? := hel 0 _ rfl
  rw [c9] at h0
  have h1 : DataW.trod enc Tryz.prog w 0 sp held n 4 ((cs.drop 1).take (Tryz.prog.cellsOf 4)) = xs[1]? := hel 1 _ rfl
  rw [c4] at h1
  have h2 : DataW.trod enc Tryz.prog w 0 sp held n 4 ((cs.drop 2).take (Tryz.prog.cellsOf 4)) = xs[2]? := hel 2 _ rfl
  rw [c4] at h2
  have h3 : DataW.trod enc Tryz.prog w 0 sp held n 4 ((cs.drop 3).take (Tryz.prog.cellsOf 4)) = xs[3]? := hel 3 _ rfl
  rw [c4] at h3
  have h4 : DataW.trod enc Tryz.prog w 0 sp held n 4 ((cs.drop 4).take (Tryz.prog.cellsOf 4)) = xs[4]? := hel 4 _ rfl
  rw [c4] at h4
  have h5 : DataW.trod enc Tryz.prog w 0 sp held n 3 ((cs.drop 5).take (Tryz.prog.cellsOf 3)) = xs[5]? := hel 5 _ rfl
  rw [c3] at h5
  clear hel
  match cs, hl with
  | [a0, a1, a2, a3, a4, a5], _ =>
    match xs, hn with
    | [y0, y1, y2, y3, y4, y5], _ =>
      simp only [rowDatum, Prod.mk.injEq, DataW.agg.injEq, List.map_cons, List.map_nil, List.cons.injEq] at hx
      obtain ⟨⟨e0, e1, e2, e3, e4, e5, _⟩, _⟩ := hx
      obtain ⟨s, r0, q0, _⟩ := DataW.trod_string Tryz.underlying9 (show DataW.trod enc Tryz.prog w 0 sp held n 9 [a0] = some y0 from h0)
      obtain ⟨b1, r1, q1⟩ := DataW.trod_bool Tryz.underlying4 (show DataW.trod enc Tryz.prog w 0 sp held n 4 [a1] = some y1 from h1)
      obtain ⟨b2, r2, q2⟩ := DataW.trod_bool Tryz.underlying4 (show DataW.trod enc Tryz.prog w 0 sp held n 4 [a2] = some y2 from h2)
      obtain ⟨b3, r3, q3⟩ := DataW.trod_bool Tryz.underlying4 (show DataW.trod enc Tryz.prog w 0 sp held n 4 [a3] = some y3 from h3)
      obtain ⟨b4, r4, q4⟩ := DataW.trod_bool Tryz.underlying4 (show DataW.trod enc Tryz.prog w 0 sp held n 4 [a4] = some y4 from h4)
      obtain ⟨z, r5, q5, _⟩ := DataW.trod_int Tryz.underlying3 (show DataW.trod enc Tryz.prog w 0 sp held n 3 [a5] = some y5 from h5)
      rw [q0] at e0
      rw [q1] at e1
      rw [q2] at e2
      rw [q3] at e3
      rw [q4] at e4
      rw [q5] at e5
      simp at e0 e1 e2 e3 e4 e5 r0 r1 r2 r3 r4 r5
      subst r0 r1 r2 r3 r4 r5
      unfold uRow
      rw [e0, e1, e2, e3, e4, e5]
theorem usages_of_reads {w : World} (h : Lib.VarReads Tryz.prog w "replevin/object.usages" Rows.laid_replevin_object_usages) : Usages w := by
  obtain ⟨g, t, cs, fuel, p, hg, ht, hv, hd⟩ := h
  obtain rfl := Option.some.inj (gUsages.symm.trans hg)
  obtain rfl := Option.some.inj (tUsages.symm.trans ht)
  rw [usages_datum] at hd
  obtain ⟨xs, m, rfl, hx, hl, hn, hel⟩ := DataW.trod_array Tryz.underlying174 hd
  intro k j hk hj
  have hk' := hel k hk
  rw [c177] at hk'
  simp only [Prod.mk.injEq, DataW.agg.injEq] at hx
  have hxk : xs[k]?.map (·.1) = some (rowDatum k) := by
    rw [← List.getElem?_map, ← hx.1, List.getElem?_map, List.getElem?_range hk]; rfl
  cases hy : xs[k]? with
  | none => rw [hy] at hxk; cases hxk
  | some y =>
    rw [hy] at hxk hk'
    simp only [Option.map_some, Option.some.injEq] at hxk
    obtain ⟨y1, y2⟩ := y
    simp only at hxk
    subst hxk
    have hr := row_of_trod hk'
    have hc := World.var?_cell hg hv (k * 6 + j)
    refine hc.trans ?_
    rw [← hr, List.getElem?_take_of_lt hj, List.getElem?_drop]
    simp
end Go.Proofs.YtlaihnbappfbfaaGreatDoor

namespace Go.Proofs.YtlaihnbappfbfaaGreatDoor
open Go.RowKit

theorem tab_of_reads {w : World} {name : String} {g n : Nat} {t e : TypeId} {k : IntKind} {l : List Int} (hg : Tryz.prog.globalNamed name = some g) (ht : (Tryz.prog.globals[g]?).map (·.type) = some t) (hu : Tryz.prog.underlying t = some (.array n e)) (he : Tryz.prog.underlying e = some (.int k)) (hc : Tryz.prog.cellsOf e = 1)
    (hl : l.length = n) (h : Lib.VarReads Tryz.prog w name (.agg (l.map fun z => .lit (.int k z)))) : ∀ i, i < n → w.cell? ⟨g, i, none⟩ = some (.int k (l.getD i 0)) := by
  obtain ⟨g', t', cs, fuel, p, hg', hty, hvar, hd⟩ := h
  obtain rfl := Option.some.inj (hg.symm.trans hg')
  obtain rfl := Option.some.inj (ht.symm.trans hty)
  intro i hi
  obtain ⟨f', d, q, hdi, hti⟩ := Lib.array_elem hu hd i hi
  rw [hc, Nat.mul_one] at hti
  obtain ⟨z, h1, h2, _⟩ := DataW.trod_int he hti
  have hil : i < l.length := by omega
  rw [List.getElem?_map, List.getElem?_eq_getElem hil] at hdi
  simp only [Option.map_some, Option.some.injEq] at hdi
  simp only [Prod.mk.injEq] at h2
  rw [← hdi] at h2
  have hz : l[i] = z := by simpa using h2.1
  have := World.var?_cell hg hvar i
  refine this.trans ?_
  have h3 : cs[i]? = some (.int k z) := by
    have := congrArg (fun x : List Value => x[0]?) h1
    simpa using this
  rw [h3, ← hz]
  simp [hil]
theorem gConst : Tryz.prog.globalNamed "replevin/sha256.constants" = some 3 := by kernel_rfl
theorem gInit : Tryz.prog.globalNamed "replevin/sha256.initial" = some 2 := by kernel_rfl
theorem tConst : (Tryz.prog.globals[3]?).map (·.type) = some 254 := by kernel_rfl
theorem tInit : (Tryz.prog.globals[2]?).map (·.type) = some 219 := by kernel_rfl
theorem cU32 : Tryz.prog.cellsOf 212 = 1 := by kernel_rfl
theorem shaTab_of_reads {w : World} (h1 : Lib.VarReads Tryz.prog w "replevin/sha256.constants" Rows.laid_replevin_sha256_constants) (h2 : Lib.VarReads Tryz.prog w "replevin/sha256.initial" Rows.laid_replevin_sha256_initial) : ShaTab w :=
  ⟨tab_of_reads (l := shaK) gConst tConst Tryz.underlying254 Tryz.underlying212 cU32 rfl h1, tab_of_reads (l := shaI) gInit tInit Tryz.underlying219 Tryz.underlying212 cU32 rfl h2⟩
end Go.Proofs.YtlaihnbappfbfaaGreatDoor
