/- Walks: Check of an account. -/
import Derived.Test.YtlaihnbappfbfaaGreatDoorUserW2
import Derived.Deep.RegionHeld3
namespace Go.Proofs.YtlaihnbappfbfaaGreatDoor
open Go.RowKit

/-- The cells of an account. -/
def accCells (name : ByteArray) (number : Int) (g : Value) (home : ByteArray) (salt digest : List UInt8) (lk : Bool) : List Value :=
  [.string name, .int .i64 number, g, .string home] ++ (bcells salt ++ (bcells digest ++ [.bool lk]))
def accVal (name : ByteArray) (number : Int) (g : Value) (home : ByteArray) (salt digest : List UInt8) (lk : Bool) : Value := .agg (accCells name number g home salt digest lk).toArray
/-- The first error of an account. -/
def accE (name : List UInt8) (number : Int) (groups : List Int) (home : List UInt8) : Int :=
  firstE [uname name, whenF (!isUserB number) 2, whenF (decide (8 < groups.length)) 9, whenF (groups.any (fun n => !isUserB n)) 2, whenF (!incr groups) 32,
    whenF (decide (256 < home.length)) 5, whenF (!home.isEmpty && !Lib.hasPrefix home [47]) 3]
theorem uFirst_new (w : World) (l : List Int) (c : Array Value) (T : TypeId) (n cap : Nat) (hc : c = (l.map (Value.int .i64)).toArray) (hn : n = l.length) (hl : l.length ≤ 1000000) :
    Calls Tryz.prog 93 #[.slice (some ⟨w.heap.size, 0, none⟩) n cap] (w.alloc (.cells c T)) fun e w' => e = .returned (.int .i64 (firstE l)) ∧ w.alloc (.cells c T) = w' := by
  subst hc hn
  refine uFirst_any l hl fun i hi => ?_
  rw [cell_of_heap (heap_alloc_new w _)]
  simp [hi]

set_option maxRecDepth 100000 in
set_option maxHeartbeats 4000000 in
theorem accCheck_core {W : World} (name home : ByteArray) (number : Int) {g : Value} {groups : List Int} (hg : IntsAt W g groups) (hn : name.size ≤ 1000000) (hh : home.size ≤ 1000000)
    (cs : Array Value) (h0 : cs[0]? = some (.string name)) (h1 : cs[1]? = some (.int .i64 number)) (h2 : cs[2]? = some g) (h3 : cs[3]? = some (.string home)) :
    Calls Tryz.prog 94 #[.agg cs] W fun e w' => e = .returned (.int .i64 (accE name.data.toList number groups home.data.toList)) ∧ Mods [] W w' := by
  have hnm := fun W => checkName_any name W (by omega)
  have hus := fun W => isUser_any number W
  have hpf := fun W => Tryz.strings_HasPrefix home ⟨#[47]⟩ W
  have hacc : accE name.data.toList number groups home.data.toList = firstE [uname name.data.toList, whenF (!isUserB number) 2, whenF (decide (8 < groups.length)) 9, whenF (groups.any (fun n => !isUserB n)) 2, whenF (!incr groups) 32,
    whenF (decide (256 < home.data.toList.length)) 5, whenF (!home.data.toList.isEmpty && !Lib.hasPrefix home.data.toList [47]) 3] := rfl
  have e47 : (⟨#[47]⟩ : ByteArray).data.toList = [47] := rfl
  rw [e47] at hpf
  have d8 : decide (8 < groups.length) = decide ((8 : Int) < (groups.length : Int)) := decide_eq_decide.2 (by omega)
  have d256 : decide (256 < home.data.toList.length) = decide ((256 : Int) < (home.size : Int)) := decide_eq_decide.2 (by rw [slen]; omega)
  rw [hacc, d8, d256]
  clear hacc d8 d256 e47
  have hem : home.data.toList.isEmpty = home.toList.isEmpty := by rw [ByteArray.toList_eq]
  rw [hem]
  clear hem
  have hct := fun W (h : IntsAt W g groups) => containsNone_any h
  have hin := fun W (h : IntsAt W g groups) => increases_any h
  generalize uname name.data.toList = x1 at *
  generalize isUserB number = b1 at *
  generalize (groups.any fun n => !isUserB n) = b3 at *
  generalize incr groups = b4 at *
  generalize Lib.hasPrefix home.data.toList [47] = b6 at *
  obtain ⟨gp, gc, ge, _, hgl⟩ := id hg
  have hgl := hgl.1
  have Hg := Lib.hid hg
  have hW1 := heap_alloc_new W (.cells cs 116)
  have k0 := (cell_of_heap hW1 0).trans h0
  have k1 := (cell_of_heap hW1 1).trans h1
  have k2 := (cell_of_heap hW1 2).trans h2
  have k3 := (cell_of_heap hW1 3).trans h3
  clear hW1 h0 h1 h2 h3 hg
  subst ge
  have hM0 : Mods [] W (W.alloc (.cells cs 116)) := (Mods.refl _ _).alloc _
  have HM := Lib.hid hM0
  clear hM0
  have hee : (home.toList = [] ∧ home.toList.isEmpty = true) ∨ (home.toList ≠ [] ∧ home.toList.isEmpty = false) := by
    cases h : home.toList <;> simp
  rcases hee with ⟨he, he'⟩ | ⟨he, he'⟩
  · rw [he']
    go_enter Tryz.func94, Tryz.ntmps94
    go_wp2
    have HK : Hid (∀ W' : World, Mods [] (W.alloc (.cells cs 116)) W' → W'.cell? ⟨W.heap.size, 0, none⟩ = some (.string name) ∧ W'.cell? ⟨W.heap.size, 1, none⟩ = some (.int .i64 number) ∧ W'.cell? ⟨W.heap.size, 2, none⟩ = some (.slice gp groups.length gc) ∧ W'.cell? ⟨W.heap.size, 3, none⟩ = some (.string home) ∧ Mods [] (W.alloc (.cells cs 116)) W') := by
      show ∀ _, _
      exact fun W' h => ⟨h.keep k0, h.keep k1, h.keep k2, h.keep k3, h⟩
    have HG : Hid (∀ W' : World, Mods [] (W.alloc (.cells cs 116)) W' → IntsAt W' (.slice gp groups.length gc) groups) := by
      show ∀ _, _
      exact fun W' h => Hg.out.keep (HM.out.trans' h)
    generalize hW7 : W.alloc (.cells cs 116) = W7 at *
    have HWs := Lib.hid hW7
    clear hW7 k0 k1 k2 k3
    generalize hBn : W.heap.size = B at *
    have k7 := HK.out W7.drew ((Mods.refl _ _).drew)
    refine wp_region_held_drew (S := (fun W' => W'.cell? ⟨B, 0, none⟩ = some (.string name) ∧ W'.cell? ⟨B, 1, none⟩ = some (.int .i64 number) ∧ W'.cell? ⟨B, 2, none⟩ = some (.slice gp groups.length gc) ∧ W'.cell? ⟨B, 3, none⟩ = some (.string home) ∧ Mods [] W7 W')) (by kernel_rfl) (k7) (fun hHeld => ?_)
    refine wpAnyH_take (i := 0) (oi := { dst := some 4, op := Go.Op.fieldAddr 116 (Go.Operand.tmp 1) 0, type := 0, pos := "user.go:79", after := #[], guard := none }) (v := .pointer (some ⟨B, 0, none⟩)) rfl (by kernel_rfl) (by kernel_rfl) (by kernel_rfl) (fun _ _ _ h => h) (Or.inl ⟨by rfl, fun w hSw => by (try dsimp only at hSw); first | (go_simp; done) | (go_simp; with_reducible rfl)⟩) (by assumption) ?_
    try simp only [Act.put, List.setIfInBounds_toArray, List.set_cons_zero, List.set_cons_succ]
    refine wpAnyH_take (i := 1) (oi := { dst := some 5, op := Go.Op.load 9 (Go.Operand.tmp 4), type := 9, pos := "user.go:79", after := #[{ on := 0, ground := Go.Ground.data }], guard := none }) (v := .string name) rfl (by kernel_rfl) (by kernel_rfl) (by kernel_rfl) (fun _ _ _ h => h) (Or.inl ⟨by rfl, fun w hSw => by (try dsimp only at hSw); first | (go_simp; done) | (go_simp; with_reducible rfl)⟩) (by assumption) ?_
    try simp only [Act.put, List.setIfInBounds_toArray, List.set_cons_zero, List.set_cons_succ]
    refine wpAnyH_take (i := 3) (oi := { dst := some 7, op := Go.Op.fieldAddr 116 (Go.Operand.tmp 1) 1, type := 0, pos := "user.go:79", after := #[], guard := none }) (v := .pointer (some ⟨B, 1, none⟩)) rfl (by kernel_rfl) (by kernel_rfl) (by kernel_rfl) (fun _ _ _ h => h) (Or.inl ⟨by rfl, fun w hSw => by (try dsimp only at hSw); first | (go_simp; done) | (go_simp; with_reducible rfl)⟩) (by assumption) ?_
    try simp only [Act.put, List.setIfInBounds_toArray, List.set_cons_zero, List.set_cons_succ]
    refine wpAnyH_take (i := 4) (oi := { dst := some 8, op := Go.Op.load 3 (Go.Operand.tmp 7), type := 3, pos := "user.go:79", after := #[{ on := 3, ground := Go.Ground.data }], guard := none }) (v := .int .i64 number) rfl (by kernel_rfl) (by kernel_rfl) (by kernel_rfl) (fun _ _ _ h => h) (Or.inl ⟨by rfl, fun w hSw => by (try dsimp only at hSw); first | (go_simp; done) | (go_simp; with_reducible rfl)⟩) (by assumption) ?_
    try simp only [Act.put, List.setIfInBounds_toArray, List.set_cons_zero, List.set_cons_succ]
    refine wpAnyH_take (i := 8) (oi := { dst := some 12, op := Go.Op.fieldAddr 116 (Go.Operand.tmp 1) 2, type := 0, pos := "user.go:79", after := #[], guard := none }) (v := .pointer (some ⟨B, 2, none⟩)) rfl (by kernel_rfl) (by kernel_rfl) (by kernel_rfl) (fun _ _ _ h => h) (Or.inl ⟨by rfl, fun w hSw => by (try dsimp only at hSw); first | (go_simp; done) | (go_simp; with_reducible rfl)⟩) (by assumption) ?_
    try simp only [Act.put, List.setIfInBounds_toArray, List.set_cons_zero, List.set_cons_succ]
    refine wpAnyH_take (i := 9) (oi := { dst := some 13, op := Go.Op.load 73 (Go.Operand.tmp 12), type := 73, pos := "user.go:79", after := #[{ on := 8, ground := Go.Ground.data }], guard := none }) (v := .slice gp groups.length gc) rfl (by kernel_rfl) (by kernel_rfl) (by kernel_rfl) (fun _ _ _ h => h) (Or.inl ⟨by rfl, fun w hSw => by (try dsimp only at hSw); first | (go_simp; done) | (go_simp; with_reducible rfl)⟩) (by assumption) ?_
    try simp only [Act.put, List.setIfInBounds_toArray, List.set_cons_zero, List.set_cons_succ]
    refine wpAnyH_take (i := 10) (oi := { dst := some 14, op := Go.Op.call { callee := Go.Callee.builtin Go.Builtin.len, args := #[Go.Operand.tmp 13], argTypes := #[73] }, type := 3, pos := "user.go:79", after := #[{ on := 9, ground := Go.Ground.data }], guard := none }) (v := .int .i64 groups.length) rfl (by kernel_rfl) (by kernel_rfl) (by kernel_rfl) (fun _ _ _ h => h) (Or.inl ⟨by rfl, fun w hSw => by (try dsimp only at hSw); first | (go_simp; done) | (go_simp; with_reducible rfl)⟩) (by assumption) ?_
    try simp only [Act.put, List.setIfInBounds_toArray, List.set_cons_zero, List.set_cons_succ]
    refine wpAnyH_take (i := 11) (oi := { dst := some 15, op := Go.Op.binOp Go.BinOp.gtr 3 (Go.Operand.tmp 14) (Go.Operand.const (Go.Value.int Go.IntKind.i64 8)) 3, type := 4, pos := "user.go:79", after := #[{ on := 10, ground := Go.Ground.data }], guard := none }) (v := .bool (decide ((8 : Int) < groups.length))) rfl (by kernel_rfl) (by kernel_rfl) (by kernel_rfl) (fun _ _ _ h => h) (Or.inl ⟨by rfl, fun w hSw => by (try dsimp only at hSw); first | (go_simp; done) | (go_simp; with_reducible rfl)⟩) (by assumption) ?_
    try simp only [Act.put, List.setIfInBounds_toArray, List.set_cons_zero, List.set_cons_succ]
    refine wpAnyH_take (i := 13) (oi := { dst := some 17, op := Go.Op.fieldAddr 116 (Go.Operand.tmp 1) 2, type := 0, pos := "user.go:79", after := #[], guard := none }) (v := .pointer (some ⟨B, 2, none⟩)) rfl (by kernel_rfl) (by kernel_rfl) (by kernel_rfl) (fun _ _ _ h => h) (Or.inl ⟨by rfl, fun w hSw => by (try dsimp only at hSw); first | (go_simp; done) | (go_simp; with_reducible rfl)⟩) (by assumption) ?_
    try simp only [Act.put, List.setIfInBounds_toArray, List.set_cons_zero, List.set_cons_succ]
    refine wpAnyH_take (i := 14) (oi := { dst := some 18, op := Go.Op.load 73 (Go.Operand.tmp 17), type := 73, pos := "user.go:79", after := #[{ on := 13, ground := Go.Ground.data }], guard := none }) (v := .slice gp groups.length gc) rfl (by kernel_rfl) (by kernel_rfl) (by kernel_rfl) (fun _ _ _ h => h) (Or.inl ⟨by rfl, fun w hSw => by (try dsimp only at hSw); first | (go_simp; done) | (go_simp; with_reducible rfl)⟩) (by assumption) ?_
    try simp only [Act.put, List.setIfInBounds_toArray, List.set_cons_zero, List.set_cons_succ]
    refine wpAnyH_take (i := 15) (oi := { dst := some 19, op := Go.Op.move (Go.Operand.tmp 3), type := 147, pos := "user.go:79", after := #[], guard := none }) (v := .func (.func 119) #[] #[]) rfl (by kernel_rfl) (by kernel_rfl) (by kernel_rfl) (fun _ _ _ h => h) (Or.inl ⟨by rfl, fun w hSw => by (try dsimp only at hSw); first | (go_simp; done) | (go_simp; with_reducible rfl)⟩) (by assumption) ?_
    try simp only [Act.put, List.setIfInBounds_toArray, List.set_cons_zero, List.set_cons_succ]
    refine wpAnyH_take (i := 18) (oi := { dst := some 22, op := Go.Op.fieldAddr 116 (Go.Operand.tmp 1) 2, type := 0, pos := "user.go:79", after := #[], guard := none }) (v := .pointer (some ⟨B, 2, none⟩)) rfl (by kernel_rfl) (by kernel_rfl) (by kernel_rfl) (fun _ _ _ h => h) (Or.inl ⟨by rfl, fun w hSw => by (try dsimp only at hSw); first | (go_simp; done) | (go_simp; with_reducible rfl)⟩) (by assumption) ?_
    try simp only [Act.put, List.setIfInBounds_toArray, List.set_cons_zero, List.set_cons_succ]
    refine wpAnyH_take (i := 19) (oi := { dst := some 23, op := Go.Op.load 73 (Go.Operand.tmp 22), type := 73, pos := "user.go:79", after := #[{ on := 18, ground := Go.Ground.data }], guard := none }) (v := .slice gp groups.length gc) rfl (by kernel_rfl) (by kernel_rfl) (by kernel_rfl) (fun _ _ _ h => h) (Or.inl ⟨by rfl, fun w hSw => by (try dsimp only at hSw); first | (go_simp; done) | (go_simp; with_reducible rfl)⟩) (by assumption) ?_
    try simp only [Act.put, List.setIfInBounds_toArray, List.set_cons_zero, List.set_cons_succ]
    refine wpAnyH_take (i := 23) (oi := { dst := some 27, op := Go.Op.fieldAddr 116 (Go.Operand.tmp 1) 3, type := 0, pos := "user.go:79", after := #[], guard := none }) (v := .pointer (some ⟨B, 3, none⟩)) rfl (by kernel_rfl) (by kernel_rfl) (by kernel_rfl) (fun _ _ _ h => h) (Or.inl ⟨by rfl, fun w hSw => by (try dsimp only at hSw); first | (go_simp; done) | (go_simp; with_reducible rfl)⟩) (by assumption) ?_
    try simp only [Act.put, List.setIfInBounds_toArray, List.set_cons_zero, List.set_cons_succ]
    refine wpAnyH_take (i := 24) (oi := { dst := some 28, op := Go.Op.load 9 (Go.Operand.tmp 27), type := 9, pos := "user.go:79", after := #[{ on := 23, ground := Go.Ground.data }], guard := none }) (v := .string home) rfl (by kernel_rfl) (by kernel_rfl) (by kernel_rfl) (fun _ _ _ h => h) (Or.inl ⟨by rfl, fun w hSw => by (try dsimp only at hSw); first | (go_simp; done) | (go_simp; with_reducible rfl)⟩) (by assumption) ?_
    try simp only [Act.put, List.setIfInBounds_toArray, List.set_cons_zero, List.set_cons_succ]
    refine wpAnyH_take (i := 25) (oi := { dst := some 29, op := Go.Op.call { callee := Go.Callee.builtin Go.Builtin.len, args := #[Go.Operand.tmp 28], argTypes := #[9] }, type := 3, pos := "user.go:79", after := #[{ on := 24, ground := Go.Ground.data }], guard := none }) (v := .int .i64 home.size) rfl (by kernel_rfl) (by kernel_rfl) (by kernel_rfl) (fun _ _ _ h => h) (Or.inl ⟨by rfl, fun w hSw => by (try dsimp only at hSw); first | (go_simp; done) | (go_simp; with_reducible rfl)⟩) (by assumption) ?_
    try simp only [Act.put, List.setIfInBounds_toArray, List.set_cons_zero, List.set_cons_succ]
    refine wpAnyH_take (i := 26) (oi := { dst := some 30, op := Go.Op.binOp Go.BinOp.gtr 3 (Go.Operand.tmp 29) (Go.Operand.const (Go.Value.int Go.IntKind.i64 256)) 3, type := 4, pos := "user.go:79", after := #[{ on := 25, ground := Go.Ground.data }], guard := none }) (v := .bool (decide ((256 : Int) < home.size))) rfl (by kernel_rfl) (by kernel_rfl) (by kernel_rfl) (fun _ _ _ h => h) (Or.inl ⟨by rfl, fun w hSw => by (try dsimp only at hSw); first | (go_simp; done) | (go_simp; with_reducible rfl)⟩) (by assumption) ?_
    try simp only [Act.put, List.setIfInBounds_toArray, List.set_cons_zero, List.set_cons_succ]
    refine wpAnyH_take (i := 28) (oi := { dst := some 32, op := Go.Op.fieldAddr 116 (Go.Operand.tmp 1) 3, type := 0, pos := "user.go:79", after := #[], guard := none }) (v := .pointer (some ⟨B, 3, none⟩)) rfl (by kernel_rfl) (by kernel_rfl) (by kernel_rfl) (fun _ _ _ h => h) (Or.inl ⟨by rfl, fun w hSw => by (try dsimp only at hSw); first | (go_simp; done) | (go_simp; with_reducible rfl)⟩) (by assumption) ?_
    try simp only [Act.put, List.setIfInBounds_toArray, List.set_cons_zero, List.set_cons_succ]
    refine wpAnyH_take (i := 29) (oi := { dst := some 33, op := Go.Op.load 9 (Go.Operand.tmp 32), type := 9, pos := "user.go:79", after := #[{ on := 28, ground := Go.Ground.data }], guard := none }) (v := .string home) rfl (by kernel_rfl) (by kernel_rfl) (by kernel_rfl) (fun _ _ _ h => h) (Or.inl ⟨by rfl, fun w hSw => by (try dsimp only at hSw); first | (go_simp; done) | (go_simp; with_reducible rfl)⟩) (by assumption) ?_
    try simp only [Act.put, List.setIfInBounds_toArray, List.set_cons_zero, List.set_cons_succ]
    refine wpAnyH_take (i := 30) (oi := { dst := some 34, op := Go.Op.binOp Go.BinOp.neq 9 (Go.Operand.tmp 33) (Go.Operand.const (Go.Value.string { data := #[] })) 9, type := 4, pos := "user.go:79", after := #[{ on := 29, ground := Go.Ground.data }], guard := none }) (v := .bool false) rfl (by kernel_rfl) (by kernel_rfl) (by kernel_rfl) (fun _ _ _ h => h) (Or.inl ⟨by rfl, fun w hSw => by (try dsimp only at hSw); first | (go_simp; done) | (go_simp; with_reducible rfl)⟩) (by assumption) ?_
    try simp only [Act.put, List.setIfInBounds_toArray, List.set_cons_zero, List.set_cons_succ]
    refine wpAnyH_ready (rs := [2]) (by kernel_rfl) (by simp) ?_
    refine AllReadyH.cons (o := { dst := some 6, op := Go.Op.call { callee := Go.Callee.value (Go.Operand.func 17), args := #[Go.Operand.tmp 5], argTypes := #[9] }, type := 22, pos := "user.go:80", after := #[{ on := 1, ground := Go.Ground.data }], guard := none }) rfl (fun K hK => ?_) AllReadyH.nil
    go_simp
    refine (hnm _).mono ?_
    rintro e W8 ⟨rfl, rfl⟩
    go_wp2_with fail
    refine hK.out _ _ (by first | exact k7 | exact HK.out _ ((Mods.refl _ _).drewN _) | exact HK.out _ (((Mods.refl _ _).drewN _).alloc _)) (fun hHeld => ?_)
    clear hK K
    try simp only [Act.put, List.setIfInBounds_toArray, List.set_cons_zero, List.set_cons_succ]
    refine wpAnyH_ready (rs := [5]) (by kernel_rfl) (by simp) ?_
    refine AllReadyH.cons (o := { dst := some 9, op := Go.Op.call { callee := Go.Callee.value (Go.Operand.func 120), args := #[Go.Operand.tmp 8], argTypes := #[3] }, type := 4, pos := "user.go:81", after := #[{ on := 4, ground := Go.Ground.data }, { on := 2, ground := Go.Ground.chain }], guard := none }) rfl (fun K hK => ?_) AllReadyH.nil
    go_simp
    refine (hus _).mono ?_
    rintro e W8 ⟨rfl, rfl⟩
    go_wp2_with fail
    refine hK.out _ _ (by first | exact k7 | exact HK.out _ ((Mods.refl _ _).drewN _) | exact HK.out _ (((Mods.refl _ _).drewN _).alloc _)) (fun hHeld => ?_)
    clear hK K
    try simp only [Act.put, List.setIfInBounds_toArray, List.set_cons_zero, List.set_cons_succ]
    refine wpAnyH_take (i := 6) (oi := { dst := some 10, op := Go.Op.unOp Go.UnOp.not 4 (Go.Operand.tmp 9), type := 4, pos := "user.go:79", after := #[{ on := 5, ground := Go.Ground.data }], guard := none }) (v := .bool !b1) rfl (by kernel_rfl) (by kernel_rfl) (by kernel_rfl) (fun _ _ _ h => h) (Or.inl ⟨by rfl, fun w hSw => by (try dsimp only at hSw); first | (go_simp; done) | (go_simp; with_reducible rfl)⟩) (by assumption) ?_
    try simp only [Act.put, List.setIfInBounds_toArray, List.set_cons_zero, List.set_cons_succ]
    refine wpAnyH_ready (rs := [7]) (by kernel_rfl) (by simp) ?_
    refine AllReadyH.cons (o := { dst := some 11, op := Go.Op.call { callee := Go.Callee.value (Go.Operand.func 95), args := #[Go.Operand.tmp 10, Go.Operand.const (Go.Value.int Go.IntKind.i64 2)], argTypes := #[4, 22] }, type := 22, pos := "user.go:81", after := #[{ on := 6, ground := Go.Ground.data }, { on := 5, ground := Go.Ground.chain }], guard := none }) rfl (fun K hK => ?_) AllReadyH.nil
    go_simp
    refine (when_any _ _ _).mono ?_
    rintro e W8 ⟨rfl, rfl⟩
    go_wp2_with fail
    refine hK.out _ _ (by first | exact k7 | exact HK.out _ ((Mods.refl _ _).drewN _) | exact HK.out _ (((Mods.refl _ _).drewN _).alloc _)) (fun hHeld => ?_)
    clear hK K
    try simp only [Act.put, List.setIfInBounds_toArray, List.set_cons_zero, List.set_cons_succ]
    refine wpAnyH_ready (rs := [12]) (by kernel_rfl) (by simp) ?_
    refine AllReadyH.cons (o := { dst := some 16, op := Go.Op.call { callee := Go.Callee.value (Go.Operand.func 95), args := #[Go.Operand.tmp 15, Go.Operand.const (Go.Value.int Go.IntKind.i64 9)], argTypes := #[4, 22] }, type := 22, pos := "user.go:82", after := #[{ on := 11, ground := Go.Ground.data }, { on := 7, ground := Go.Ground.chain }], guard := none }) rfl (fun K hK => ?_) AllReadyH.nil
    go_simp
    refine (when_any _ _ _).mono ?_
    rintro e W8 ⟨rfl, rfl⟩
    go_wp2_with fail
    refine hK.out _ _ (by first | exact k7 | exact HK.out _ ((Mods.refl _ _).drewN _) | exact HK.out _ (((Mods.refl _ _).drewN _).alloc _)) (fun hHeld => ?_)
    clear hK K
    try simp only [Act.put, List.setIfInBounds_toArray, List.set_cons_zero, List.set_cons_succ]
    refine wpAnyH_ready (rs := [16]) (by kernel_rfl) (by simp) ?_
    refine AllReadyH.cons (o := { dst := some 20, op := Go.Op.call { callee := Go.Callee.value (Go.Operand.func 121), args := #[Go.Operand.tmp 18, Go.Operand.tmp 19], argTypes := #[73, 147] }, type := 4, pos := "user.go:83", after := #[{ on := 14, ground := Go.Ground.data }, { on := 15, ground := Go.Ground.data }, { on := 12, ground := Go.Ground.chain }], guard := none }) rfl (fun K hK => ?_) AllReadyH.nil
    go_simp
    refine (hct _ (by first | exact HG.out _ ((Mods.refl _ _).drew) | exact HG.out _ ((Mods.refl _ _).drewN _))).mono ?_
    rintro e W8 ⟨rfl, n8, rfl⟩
    go_wp2_with fail
    refine hK.out _ _ (by first | exact k7 | exact HK.out _ ((Mods.refl _ _).drewN _) | exact HK.out _ (((Mods.refl _ _).drewN _).alloc _)) (fun hHeld => ?_)
    clear hK K
    try simp only [Act.put, List.setIfInBounds_toArray, List.set_cons_zero, List.set_cons_succ]
    refine wpAnyH_ready (rs := [17]) (by kernel_rfl) (by simp) ?_
    refine AllReadyH.cons (o := { dst := some 21, op := Go.Op.call { callee := Go.Callee.value (Go.Operand.func 95), args := #[Go.Operand.tmp 20, Go.Operand.const (Go.Value.int Go.IntKind.i64 2)], argTypes := #[4, 22] }, type := 22, pos := "user.go:83", after := #[{ on := 16, ground := Go.Ground.data }, { on := 16, ground := Go.Ground.chain }], guard := none }) rfl (fun K hK => ?_) AllReadyH.nil
    go_simp
    refine (when_any _ _ _).mono ?_
    rintro e W8 ⟨rfl, rfl⟩
    go_wp2_with fail
    refine hK.out _ _ (by first | exact k7 | exact HK.out _ ((Mods.refl _ _).drewN _) | exact HK.out _ (((Mods.refl _ _).drewN _).alloc _)) (fun hHeld => ?_)
    clear hK K
    try simp only [Act.put, List.setIfInBounds_toArray, List.set_cons_zero, List.set_cons_succ]
    refine wpAnyH_ready (rs := [20]) (by kernel_rfl) (by simp) ?_
    refine AllReadyH.cons (o := { dst := some 24, op := Go.Op.call { callee := Go.Callee.value (Go.Operand.func 122), args := #[Go.Operand.tmp 23], argTypes := #[73] }, type := 4, pos := "user.go:84", after := #[{ on := 19, ground := Go.Ground.data }, { on := 17, ground := Go.Ground.chain }], guard := none }) rfl (fun K hK => ?_) AllReadyH.nil
    go_simp
    refine (hin _ (by first | exact HG.out _ ((Mods.refl _ _).drew) | exact HG.out _ ((Mods.refl _ _).drewN _))).mono ?_
    rintro e W8 ⟨rfl, n9, rfl⟩
    go_wp2_with fail
    refine hK.out _ _ (by first | exact k7 | exact HK.out _ ((Mods.refl _ _).drewN _) | exact HK.out _ (((Mods.refl _ _).drewN _).alloc _)) (fun hHeld => ?_)
    clear hK K
    try simp only [Act.put, List.setIfInBounds_toArray, List.set_cons_zero, List.set_cons_succ]
    refine wpAnyH_take (i := 21) (oi := { dst := some 25, op := Go.Op.unOp Go.UnOp.not 4 (Go.Operand.tmp 24), type := 4, pos := "user.go:79", after := #[{ on := 20, ground := Go.Ground.data }], guard := none }) (v := .bool !b4) rfl (by kernel_rfl) (by kernel_rfl) (by kernel_rfl) (fun _ _ _ h => h) (Or.inl ⟨by rfl, fun w hSw => by (try dsimp only at hSw); first | (go_simp; done) | (go_simp; with_reducible rfl)⟩) (by assumption) ?_
    try simp only [Act.put, List.setIfInBounds_toArray, List.set_cons_zero, List.set_cons_succ]
    refine wpAnyH_ready (rs := [22]) (by kernel_rfl) (by simp) ?_
    refine AllReadyH.cons (o := { dst := some 26, op := Go.Op.call { callee := Go.Callee.value (Go.Operand.func 95), args := #[Go.Operand.tmp 25, Go.Operand.const (Go.Value.int Go.IntKind.i64 32)], argTypes := #[4, 22] }, type := 22, pos := "user.go:84", after := #[{ on := 21, ground := Go.Ground.data }, { on := 20, ground := Go.Ground.chain }], guard := none }) rfl (fun K hK => ?_) AllReadyH.nil
    go_simp
    refine (when_any _ _ _).mono ?_
    rintro e W8 ⟨rfl, rfl⟩
    go_wp2_with fail
    refine hK.out _ _ (by first | exact k7 | exact HK.out _ ((Mods.refl _ _).drewN _) | exact HK.out _ (((Mods.refl _ _).drewN _).alloc _)) (fun hHeld => ?_)
    clear hK K
    try simp only [Act.put, List.setIfInBounds_toArray, List.set_cons_zero, List.set_cons_succ]
    refine wpAnyH_ready (rs := [27]) (by kernel_rfl) (by simp) ?_
    refine AllReadyH.cons (o := { dst := some 31, op := Go.Op.call { callee := Go.Callee.value (Go.Operand.func 95), args := #[Go.Operand.tmp 30, Go.Operand.const (Go.Value.int Go.IntKind.i64 5)], argTypes := #[4, 22] }, type := 22, pos := "user.go:85", after := #[{ on := 26, ground := Go.Ground.data }, { on := 22, ground := Go.Ground.chain }], guard := none }) rfl (fun K hK => ?_) AllReadyH.nil
    go_simp
    refine (when_any _ _ _).mono ?_
    rintro e W8 ⟨rfl, rfl⟩
    go_wp2_with fail
    refine hK.out _ _ (by first | exact k7 | exact HK.out _ ((Mods.refl _ _).drewN _) | exact HK.out _ (((Mods.refl _ _).drewN _).alloc _)) (fun hHeld => ?_)
    clear hK K
    try simp only [Act.put, List.setIfInBounds_toArray, List.set_cons_zero, List.set_cons_succ]
    refine wpAnyH_take (i := 31) (oi := { dst := some 35, op := Go.Op.move (Go.Operand.tmp 34), type := 4, pos := "user.go:79", after := #[{ on := 30, ground := Go.Ground.data }, { on := 27, ground := Go.Ground.chain }], guard := none }) (v := .bool false) rfl (by kernel_rfl) (by kernel_rfl) (by kernel_rfl) (fun _ _ _ h => h) (Or.inl ⟨by rfl, fun w hSw => by (try dsimp only at hSw); first | (go_simp; done) | (go_simp; with_reducible rfl)⟩) (by assumption) ?_
    try simp only [Act.put, List.setIfInBounds_toArray, List.set_cons_zero, List.set_cons_succ]
    refine wpAnyH_take (i := 32) (oi := { dst := some 36, op := Go.Op.fieldAddr 116 (Go.Operand.tmp 1) 3, type := 0, pos := "user.go:79", after := #[{ on := 31, ground := Go.Ground.guard }], guard := some (31, true) }) (v := undef) rfl (by kernel_rfl) (by kernel_rfl) (by kernel_rfl) (fun _ _ _ h => h) (Or.inr ⟨by rfl, rfl⟩) (by assumption) ?_
    try simp only [Act.put, List.setIfInBounds_toArray, List.set_cons_zero, List.set_cons_succ]
    refine wpAnyH_take (i := 33) (oi := { dst := some 37, op := Go.Op.load 9 (Go.Operand.tmp 36), type := 9, pos := "user.go:79", after := #[{ on := 32, ground := Go.Ground.data }, { on := 31, ground := Go.Ground.guard }], guard := some (31, true) }) (v := undef) rfl (by kernel_rfl) (by kernel_rfl) (by kernel_rfl) (fun _ _ _ h => h) (Or.inr ⟨by rfl, rfl⟩) (by assumption) ?_
    try simp only [Act.put, List.setIfInBounds_toArray, List.set_cons_zero, List.set_cons_succ]
    refine wpAnyH_take (i := 34) (oi := { dst := some 38, op := Go.Op.call { callee := Go.Callee.value (Go.Operand.func 123), args := #[Go.Operand.tmp 37, Go.Operand.const (Go.Value.string { data := #[47] })], argTypes := #[9, 9] }, type := 4, pos := "user.go:86", after := #[{ on := 33, ground := Go.Ground.data }, { on := 31, ground := Go.Ground.chain }, { on := 31, ground := Go.Ground.guard }], guard := some (31, true) }) (v := undef) rfl (by kernel_rfl) (by kernel_rfl) (by kernel_rfl) (fun _ _ _ h => h) (Or.inr ⟨by rfl, rfl⟩) (by assumption) ?_
    try simp only [Act.put, List.setIfInBounds_toArray, List.set_cons_zero, List.set_cons_succ]
    refine wpAnyH_take (i := 35) (oi := { dst := some 39, op := Go.Op.unOp Go.UnOp.not 4 (Go.Operand.tmp 38), type := 4, pos := "user.go:79", after := #[{ on := 34, ground := Go.Ground.data }, { on := 31, ground := Go.Ground.guard }], guard := some (31, true) }) (v := undef) rfl (by kernel_rfl) (by kernel_rfl) (by kernel_rfl) (fun _ _ _ h => h) (Or.inr ⟨by rfl, rfl⟩) (by assumption) ?_
    try simp only [Act.put, List.setIfInBounds_toArray, List.set_cons_zero, List.set_cons_succ]
    refine wpAnyH_take (i := 36) (oi := { dst := some 40, op := Go.Op.pick (Go.Operand.tmp 35) (Go.Operand.tmp 39) (Go.Operand.const (Go.Value.bool false)), type := 4, pos := "user.go:79", after := #[{ on := 31, ground := Go.Ground.data }, { on := 35, ground := Go.Ground.data }], guard := none }) (v := .bool false) rfl (by kernel_rfl) (by kernel_rfl) (by kernel_rfl) (fun _ _ _ h => h) (Or.inl ⟨by rfl, fun w hSw => by (try dsimp only at hSw); first | (go_simp; done) | (go_simp; with_reducible rfl)⟩) (by assumption) ?_
    try simp only [Act.put, List.setIfInBounds_toArray, List.set_cons_zero, List.set_cons_succ]
    refine wpAnyH_ready (rs := [37]) (by kernel_rfl) (by simp) ?_
    refine AllReadyH.cons (o := { dst := some 41, op := Go.Op.call { callee := Go.Callee.value (Go.Operand.func 95), args := #[Go.Operand.tmp 40, Go.Operand.const (Go.Value.int Go.IntKind.i64 3)], argTypes := #[4, 22] }, type := 22, pos := "user.go:86", after := #[{ on := 36, ground := Go.Ground.data }, { on := 34, ground := Go.Ground.chain }], guard := none }) rfl (fun K hK => ?_) AllReadyH.nil
    go_simp
    refine (when_any _ _ _).mono ?_
    rintro e W8 ⟨rfl, rfl⟩
    go_wp2_with fail
    refine hK.out _ _ (by first | exact k7 | exact HK.out _ ((Mods.refl _ _).drewN _) | exact HK.out _ (((Mods.refl _ _).drewN _).alloc _)) (fun hHeld => ?_)
    clear hK K
    try simp only [Act.put, List.setIfInBounds_toArray, List.set_cons_zero, List.set_cons_succ]
    refine wpAnyH_ready (rs := [38]) (by kernel_rfl) (by simp) ?_
    refine AllReadyH.cons (o := { dst := some 42, op := Go.Op.buildSlice 189 7 #[(0, Go.Operand.tmp 6), (1, Go.Operand.tmp 11), (2, Go.Operand.tmp 16), (3, Go.Operand.tmp 21), (4, Go.Operand.tmp 26), (5, Go.Operand.tmp 31), (6, Go.Operand.tmp 41)], type := 189, pos := "user.go:79", after := #[{ on := 2, ground := Go.Ground.data }, { on := 7, ground := Go.Ground.data }, { on := 12, ground := Go.Ground.data }, { on := 17, ground := Go.Ground.data }, { on := 22, ground := Go.Ground.data }, { on := 27, ground := Go.Ground.data }, { on := 37, ground := Go.Ground.data }], guard := none }) rfl (fun K hK => ?_) AllReadyH.nil
    go_simp
    refine hK.out _ _ (by first | exact k7 | exact HK.out _ ((Mods.refl _ _).drewN _) | exact HK.out _ (((Mods.refl _ _).drewN _).alloc _)) (fun hHeld => ?_)
    clear hK K
    try simp only [Act.put, List.setIfInBounds_toArray, List.set_cons_zero, List.set_cons_succ]
    refine wpAnyH_ready (rs := [39]) (by kernel_rfl) (by simp) ?_
    refine AllReadyH.cons (o := { dst := some 43, op := Go.Op.call { callee := Go.Callee.value (Go.Operand.func 93), args := #[Go.Operand.tmp 42], argTypes := #[189] }, type := 22, pos := "user.go:79", after := #[{ on := 38, ground := Go.Ground.data }, { on := 37, ground := Go.Ground.chain }], guard := none }) rfl (fun K hK => ?_) AllReadyH.nil
    go_simp
    refine (uFirst_new _ [_, _, _, _, _, _, _] _ _ 7 7 rfl rfl (by simp)).mono ?_
    rintro e W8 ⟨rfl, rfl⟩
    go_wp2_with fail
    refine hK.out _ _ (by first | exact k7 | exact HK.out _ ((Mods.refl _ _).drewN _) | exact HK.out _ (((Mods.refl _ _).drewN _).alloc _)) (fun hHeld => ?_)
    clear hK K
    try simp only [Act.put, List.setIfInBounds_toArray, List.set_cons_zero, List.set_cons_succ]
    refine wpAnyH_ready (rs := [40]) (by kernel_rfl) (by simp) ?_
    refine AllReadyH.cons (o := { dst := some 2, op := Go.Op.assign (Go.Operand.tmp 43), type := 22, pos := "user.go:79", after := #[{ on := 39, ground := Go.Ground.data }, { on := 39, ground := Go.Ground.chain }, { on := 0, ground := Go.Ground.phase }, { on := 1, ground := Go.Ground.phase }, { on := 2, ground := Go.Ground.phase }, { on := 3, ground := Go.Ground.phase }, { on := 4, ground := Go.Ground.phase }, { on := 5, ground := Go.Ground.phase }, { on := 6, ground := Go.Ground.phase }, { on := 7, ground := Go.Ground.phase }, { on := 8, ground := Go.Ground.phase }, { on := 9, ground := Go.Ground.phase }, { on := 10, ground := Go.Ground.phase }, { on := 11, ground := Go.Ground.phase }, { on := 12, ground := Go.Ground.phase }, { on := 13, ground := Go.Ground.phase }, { on := 14, ground := Go.Ground.phase }, { on := 15, ground := Go.Ground.phase }, { on := 16, ground := Go.Ground.phase }, { on := 17, ground := Go.Ground.phase }, { on := 18, ground := Go.Ground.phase }, { on := 19, ground := Go.Ground.phase }, { on := 20, ground := Go.Ground.phase }, { on := 21, ground := Go.Ground.phase }, { on := 22, ground := Go.Ground.phase }, { on := 23, ground := Go.Ground.phase }, { on := 24, ground := Go.Ground.phase }, { on := 25, ground := Go.Ground.phase }, { on := 26, ground := Go.Ground.phase }, { on := 27, ground := Go.Ground.phase }, { on := 28, ground := Go.Ground.phase }, { on := 29, ground := Go.Ground.phase }, { on := 30, ground := Go.Ground.phase }, { on := 31, ground := Go.Ground.phase }, { on := 32, ground := Go.Ground.phase }, { on := 33, ground := Go.Ground.phase }, { on := 34, ground := Go.Ground.phase }, { on := 35, ground := Go.Ground.phase }, { on := 36, ground := Go.Ground.phase }, { on := 37, ground := Go.Ground.phase }, { on := 38, ground := Go.Ground.phase }, { on := 39, ground := Go.Ground.phase }], guard := none }) rfl (fun K hK => ?_) AllReadyH.nil
    go_simp
    refine hK.out _ _ (by first | exact k7 | exact HK.out _ ((Mods.refl _ _).drewN _) | exact HK.out _ (((Mods.refl _ _).drewN _).alloc _)) (fun hHeld => ?_)
    clear hK K
    try simp only [Act.put, List.setIfInBounds_toArray, List.set_cons_zero, List.set_cons_succ]
    refine wpAnyH_done (by kernel_rfl) ?_ _
    all_goals go_wp2
    all_goals go_ret
    all_goals go_tidy
    all_goals exact ⟨rfl, HM.out.trans' (((Mods.refl _ _).drewN _).alloc _)⟩
  · rw [he']
    go_enter Tryz.func94, Tryz.ntmps94
    go_wp2
    have HK : Hid (∀ W' : World, Mods [] (W.alloc (.cells cs 116)) W' → W'.cell? ⟨W.heap.size, 0, none⟩ = some (.string name) ∧ W'.cell? ⟨W.heap.size, 1, none⟩ = some (.int .i64 number) ∧ W'.cell? ⟨W.heap.size, 2, none⟩ = some (.slice gp groups.length gc) ∧ W'.cell? ⟨W.heap.size, 3, none⟩ = some (.string home) ∧ Mods [] (W.alloc (.cells cs 116)) W') := by
      show ∀ _, _
      exact fun W' h => ⟨h.keep k0, h.keep k1, h.keep k2, h.keep k3, h⟩
    have HG : Hid (∀ W' : World, Mods [] (W.alloc (.cells cs 116)) W' → IntsAt W' (.slice gp groups.length gc) groups) := by
      show ∀ _, _
      exact fun W' h => Hg.out.keep (HM.out.trans' h)
    generalize hW7 : W.alloc (.cells cs 116) = W7 at *
    have HWs := Lib.hid hW7
    clear hW7 k0 k1 k2 k3
    generalize hBn : W.heap.size = B at *
    have k7 := HK.out W7.drew ((Mods.refl _ _).drew)
    go_region_held3 (fun W' => W'.cell? ⟨B, 0, none⟩ = some (.string name) ∧ W'.cell? ⟨B, 1, none⟩ = some (.int .i64 number) ∧ W'.cell? ⟨B, 2, none⟩ = some (.slice gp groups.length gc) ∧ W'.cell? ⟨B, 3, none⟩ = some (.string home) ∧ Mods [] W7 W') (first | exact k7 | exact HK.out _ ((Mods.refl _ _).drewN _) | exact HK.out _ (((Mods.refl _ _).drewN _).alloc _)) (first
      | (go_at_call 17; refine (hnm _).mono ?_; rintro e W8 ⟨rfl, rfl⟩)
      | (go_at_call 120; refine (hus _).mono ?_; rintro e W8 ⟨rfl, rfl⟩)
      | (go_at_call 95; refine (when_any _ _ _).mono ?_; rintro e W8 ⟨rfl, rfl⟩)
      | (go_at_call 121; refine (hct _ (by first | exact HG.out _ ((Mods.refl _ _).drew) | exact HG.out _ ((Mods.refl _ _).drewN _))).mono ?_; rintro e W8 ⟨rfl, n8, rfl⟩)
      | (go_at_call 122; refine (hin _ (by first | exact HG.out _ ((Mods.refl _ _).drew) | exact HG.out _ ((Mods.refl _ _).drewN _))).mono ?_; rintro e W8 ⟨rfl, n8, rfl⟩)
      | (go_at_call 123; refine (hpf _).mono ?_; rintro e W8 ⟨rfl, rfl⟩)
      | (go_at_call 93; refine (uFirst_new _ [_, _, _, _, _, _, _] _ _ 7 7 rfl rfl (by simp)).mono ?_; rintro e W8 ⟨rfl, rfl⟩))
    all_goals go_wp2
    all_goals go_ret
    all_goals go_tidy
    all_goals exact ⟨rfl, HM.out.trans' (((Mods.refl _ _).drewN _).alloc _)⟩
end Go.Proofs.YtlaihnbappfbfaaGreatDoor
