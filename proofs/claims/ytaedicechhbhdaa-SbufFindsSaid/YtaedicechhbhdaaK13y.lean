/- Layer 13: the loops of the law on what is found, continued (no claim; lemmas). -/
import Derived.Test.YtaedicechhbhdaaK13x
set_option linter.unusedSimpArgs false
set_option linter.unusedVariables false
namespace Go.Proofs.Ytaedicechhbhdaa
open Go Go.Vm

theorem zw_iff (w o : Wr) : zw w = o ↔ w.id = o.id ∧ w.addr = o.addr ∧ w.size = o.size ∧ zx w.data (8 * w.size) = o.data := by
  obtain ⟨a, b, c, d⟩ := w
  obtain ⟨a', b', c', d'⟩ := o
  unfold zw
  simp only [Wr.mk.injEq]
theorem Finds_stan (v : V) (hvs : isS v = true) (ji jo jl : Nat) (I O A : List Wr) (hI : ∀ w ∈ I, okS w) (hIl : I.length ≤ 60) (i k : Nat) (hk : k < O.length) (j : Nat) (h : j < I.length) (H H2 : List Vm.Obj) (j2 : Nat) (X : List (List V)) (p1 : appV 2 4 32 ⟨[[]], [], H⟩ .nils (.els [wrV I[j]]) = some (.osl true j2 X, ⟨[[]], [], H2⟩))  (B : C) (hB : B = C.loop ir_undertowlaw13_SbufFindsl0) :
    evCI pg B ⟨[v, .undef, .ptr 0 0 0, .osl true ji (wsV I), .int .i64 (i : Int), .undef, .osl true jo (wsV O), .int .i64 (k : Int), .nils, .bool true, .int .i64 (j : Int), .undef, .undef, .undef, .undef, .undef, .undef, .undef, .undef, .undef, .undef, .undef, .undef, .undef, .undef, .undef, .undef, .undef, .undef, .undef, .undef, .undef, .undef, .undef], ⟨[[]], [], H⟩⟩ = evCI pg B ⟨[v, .undef, .ptr 0 0 0, .osl true ji (wsV I), .int .i64 (i : Int), .undef, .osl true jo (wsV O), .int .i64 (k : Int), (.osl true j2 X), .bool true, .int .i64 ((j + 1 : Nat) : Int), .undef, .undef, .undef, .undef, .undef, .undef, .undef, .undef, .undef, .undef, .undef, .undef, .undef, .undef, .undef, .undef, .undef, .undef, .undef, .undef, .undef, .undef, .undef], ⟨[[]], [], H2⟩⟩ := by
  have hw := hI I[j] (List.getElem_mem _)
  unfold okS at hw
  have e1 := fun m => osl_iw ji I m h
  have e2 := fun m => osl_iw jo O m hk
  have e3 := succ_i64 h (by omega)
  have ez : IntKind.i64.wrap (8 * I[j].size) = 8 * I[j].size := wrap_i64 (by omega) (by omega)
  have hZ := refZext_ok I[j].data (8 * I[j].size) hw.2.2.2.2
  have hskp : ∀ m t d, toImm m t (d + 1) .skp = none := fun _ _ _ => rfl
  have hwv : wrV I[j] = [.int .i64 I[j].id, .int .i64 I[j].addr, .int .i64 I[j].size, .int .u64 (I[j].data : Int)] := rfl
  rw [hwv] at p1
  conv => lhs; rw [s_loop_at hB]
  simp [ir_undertowlaw13_SbufFindsl0, go_sem, hvs, wsV_len, h, e1, e2, e3, litParts, p1, hskp, unV, -Int.natCast_add]
theorem Finds_stao (v : V) (hvs : isS v = true) (ji jo jl : Nat) (I O A : List Wr) (hI : ∀ w ∈ I, okS w) (hIl : I.length ≤ 60) (i k : Nat) (hk : k < O.length) (j : Nat) (h : j < I.length) (H H2 : List Vm.Obj) (j2 : Nat) (X : List (List V)) (p1 : appV 2 4 32 ⟨[[]], [], H⟩ (.osl true jl (wsV A)) (.els [wrV I[j]]) = some (.osl true j2 X, ⟨[[]], [], H2⟩))  (B : C) (hB : B = C.loop ir_undertowlaw13_SbufFindsl0) :
    evCI pg B ⟨[v, .undef, .ptr 0 0 0, .osl true ji (wsV I), .int .i64 (i : Int), .undef, .osl true jo (wsV O), .int .i64 (k : Int), (.osl true jl (wsV A)), .bool true, .int .i64 (j : Int), .undef, .undef, .undef, .undef, .undef, .undef, .undef, .undef, .undef, .undef, .undef, .undef, .undef, .undef, .undef, .undef, .undef, .undef, .undef, .undef, .undef, .undef, .undef], ⟨[[]], [], H⟩⟩ = evCI pg B ⟨[v, .undef, .ptr 0 0 0, .osl true ji (wsV I), .int .i64 (i : Int), .undef, .osl true jo (wsV O), .int .i64 (k : Int), (.osl true j2 X), .bool true, .int .i64 ((j + 1 : Nat) : Int), .undef, .undef, .undef, .undef, .undef, .undef, .undef, .undef, .undef, .undef, .undef, .undef, .undef, .undef, .undef, .undef, .undef, .undef, .undef, .undef, .undef, .undef, .undef], ⟨[[]], [], H2⟩⟩ := by
  have hw := hI I[j] (List.getElem_mem _)
  unfold okS at hw
  have e1 := fun m => osl_iw ji I m h
  have e2 := fun m => osl_iw jo O m hk
  have e3 := succ_i64 h (by omega)
  have ez : IntKind.i64.wrap (8 * I[j].size) = 8 * I[j].size := wrap_i64 (by omega) (by omega)
  have hZ := refZext_ok I[j].data (8 * I[j].size) hw.2.2.2.2
  have hskp : ∀ m t d, toImm m t (d + 1) .skp = none := fun _ _ _ => rfl
  have hwv : wrV I[j] = [.int .i64 I[j].id, .int .i64 I[j].addr, .int .i64 I[j].size, .int .u64 (I[j].data : Int)] := rfl
  rw [hwv] at p1
  conv => lhs; rw [s_loop_at hB]
  simp [ir_undertowlaw13_SbufFindsl0, go_sem, hvs, wsV_len, h, e1, e2, e3, litParts, p1, hskp, unV, -Int.natCast_add]
theorem Finds_stbn (v : V) (hvs : isS v = true) (ji jo jl : Nat) (I O A : List Wr) (hI : ∀ w ∈ I, okS w) (hIl : I.length ≤ 60) (i k : Nat) (hk : k < O.length) (j : Nat) (h : j < I.length) (H H2 : List Vm.Obj) (j2 : Nat) (X : List (List V)) (p1 : appV 2 4 32 ⟨[[]], [], H⟩ .nils (.els [wrV I[j]]) = some (.osl true j2 X, ⟨[[]], [], H2⟩)) (z1 : ¬ I[j].id = O[k].id) (B : C) (hB : B = C.loop ir_undertowlaw13_SbufFindsl0) :
    evCI pg B ⟨[v, .undef, .ptr 0 0 0, .osl true ji (wsV I), .int .i64 (i : Int), .undef, .osl true jo (wsV O), .int .i64 (k : Int), .nils, .bool false, .int .i64 (j : Int), .undef, .undef, .undef, .undef, .undef, .undef, .undef, .undef, .undef, .undef, .undef, .undef, .undef, .undef, .undef, .undef, .undef, .undef, .undef, .undef, .undef, .undef, .undef], ⟨[[]], [], H⟩⟩ = evCI pg B ⟨[v, .undef, .ptr 0 0 0, .osl true ji (wsV I), .int .i64 (i : Int), .undef, .osl true jo (wsV O), .int .i64 (k : Int), (.osl true j2 X), .bool false, .int .i64 ((j + 1 : Nat) : Int), .undef, .undef, .undef, .undef, .undef, .undef, .undef, .undef, .undef, .undef, .undef, .undef, .undef, .undef, .undef, .undef, .undef, .undef, .undef, .undef, .undef, .undef, .undef], ⟨[[]], [], H2⟩⟩ := by
  have hw := hI I[j] (List.getElem_mem _)
  unfold okS at hw
  have e1 := fun m => osl_iw ji I m h
  have e2 := fun m => osl_iw jo O m hk
  have e3 := succ_i64 h (by omega)
  have ez : IntKind.i64.wrap (8 * I[j].size) = 8 * I[j].size := wrap_i64 (by omega) (by omega)
  have hZ := refZext_ok I[j].data (8 * I[j].size) hw.2.2.2.2
  have hskp : ∀ m t d, toImm m t (d + 1) .skp = none := fun _ _ _ => rfl
  have hwv : wrV I[j] = [.int .i64 I[j].id, .int .i64 I[j].addr, .int .i64 I[j].size, .int .u64 (I[j].data : Int)] := rfl
  rw [hwv] at p1
  conv => lhs; rw [s_loop_at hB]
  simp [ir_undertowlaw13_SbufFindsl0, go_sem, hvs, wsV_len, h, e1, e2, e3, z1, litParts, p1, hskp, unV, -Int.natCast_add]
theorem Finds_stbo (v : V) (hvs : isS v = true) (ji jo jl : Nat) (I O A : List Wr) (hI : ∀ w ∈ I, okS w) (hIl : I.length ≤ 60) (i k : Nat) (hk : k < O.length) (j : Nat) (h : j < I.length) (H H2 : List Vm.Obj) (j2 : Nat) (X : List (List V)) (p1 : appV 2 4 32 ⟨[[]], [], H⟩ (.osl true jl (wsV A)) (.els [wrV I[j]]) = some (.osl true j2 X, ⟨[[]], [], H2⟩)) (z1 : ¬ I[j].id = O[k].id) (B : C) (hB : B = C.loop ir_undertowlaw13_SbufFindsl0) :
    evCI pg B ⟨[v, .undef, .ptr 0 0 0, .osl true ji (wsV I), .int .i64 (i : Int), .undef, .osl true jo (wsV O), .int .i64 (k : Int), (.osl true jl (wsV A)), .bool false, .int .i64 (j : Int), .undef, .undef, .undef, .undef, .undef, .undef, .undef, .undef, .undef, .undef, .undef, .undef, .undef, .undef, .undef, .undef, .undef, .undef, .undef, .undef, .undef, .undef, .undef], ⟨[[]], [], H⟩⟩ = evCI pg B ⟨[v, .undef, .ptr 0 0 0, .osl true ji (wsV I), .int .i64 (i : Int), .undef, .osl true jo (wsV O), .int .i64 (k : Int), (.osl true j2 X), .bool false, .int .i64 ((j + 1 : Nat) : Int), .undef, .undef, .undef, .undef, .undef, .undef, .undef, .undef, .undef, .undef, .undef, .undef, .undef, .undef, .undef, .undef, .undef, .undef, .undef, .undef, .undef, .undef, .undef], ⟨[[]], [], H2⟩⟩ := by
  have hw := hI I[j] (List.getElem_mem _)
  unfold okS at hw
  have e1 := fun m => osl_iw ji I m h
  have e2 := fun m => osl_iw jo O m hk
  have e3 := succ_i64 h (by omega)
  have ez : IntKind.i64.wrap (8 * I[j].size) = 8 * I[j].size := wrap_i64 (by omega) (by omega)
  have hZ := refZext_ok I[j].data (8 * I[j].size) hw.2.2.2.2
  have hskp : ∀ m t d, toImm m t (d + 1) .skp = none := fun _ _ _ => rfl
  have hwv : wrV I[j] = [.int .i64 I[j].id, .int .i64 I[j].addr, .int .i64 I[j].size, .int .u64 (I[j].data : Int)] := rfl
  rw [hwv] at p1
  conv => lhs; rw [s_loop_at hB]
  simp [ir_undertowlaw13_SbufFindsl0, go_sem, hvs, wsV_len, h, e1, e2, e3, z1, litParts, p1, hskp, unV, -Int.natCast_add]
theorem Finds_stcn (v : V) (hvs : isS v = true) (ji jo jl : Nat) (I O A : List Wr) (hI : ∀ w ∈ I, okS w) (hIl : I.length ≤ 60) (i k : Nat) (hk : k < O.length) (j : Nat) (h : j < I.length) (H H2 : List Vm.Obj) (j2 : Nat) (X : List (List V)) (p1 : appV 2 4 32 ⟨[[]], [], H⟩ .nils (.els [wrV I[j]]) = some (.osl true j2 X, ⟨[[]], [], H2⟩)) (z1 : I[j].id = O[k].id) (z2 : ¬ I[j].addr = O[k].addr) (B : C) (hB : B = C.loop ir_undertowlaw13_SbufFindsl0) :
    evCI pg B ⟨[v, .undef, .ptr 0 0 0, .osl true ji (wsV I), .int .i64 (i : Int), .undef, .osl true jo (wsV O), .int .i64 (k : Int), .nils, .bool false, .int .i64 (j : Int), .undef, .undef, .undef, .undef, .undef, .undef, .undef, .undef, .undef, .undef, .undef, .undef, .undef, .undef, .undef, .undef, .undef, .undef, .undef, .undef, .undef, .undef, .undef], ⟨[[]], [], H⟩⟩ = evCI pg B ⟨[v, .undef, .ptr 0 0 0, .osl true ji (wsV I), .int .i64 (i : Int), .undef, .osl true jo (wsV O), .int .i64 (k : Int), (.osl true j2 X), .bool false, .int .i64 ((j + 1 : Nat) : Int), .undef, .undef, .undef, .undef, .undef, .undef, .undef, .undef, .undef, .undef, .undef, .undef, .undef, .undef, .undef, .undef, .undef, .undef, .undef, .undef, .undef, .undef, .undef], ⟨[[]], [], H2⟩⟩ := by
  have hw := hI I[j] (List.getElem_mem _)
  unfold okS at hw
  have e1 := fun m => osl_iw ji I m h
  have e2 := fun m => osl_iw jo O m hk
  rw [← z1] at e2
  have e3 := succ_i64 h (by omega)
  have ez : IntKind.i64.wrap (8 * I[j].size) = 8 * I[j].size := wrap_i64 (by omega) (by omega)
  have hZ := refZext_ok I[j].data (8 * I[j].size) hw.2.2.2.2
  have hskp : ∀ m t d, toImm m t (d + 1) .skp = none := fun _ _ _ => rfl
  have hwv : wrV I[j] = [.int .i64 I[j].id, .int .i64 I[j].addr, .int .i64 I[j].size, .int .u64 (I[j].data : Int)] := rfl
  rw [hwv] at p1
  conv => lhs; rw [s_loop_at hB]
  simp [ir_undertowlaw13_SbufFindsl0, go_sem, hvs, wsV_len, h, e1, e2, e3, z2, litParts, p1, hskp, unV, -Int.natCast_add]
theorem Finds_stco (v : V) (hvs : isS v = true) (ji jo jl : Nat) (I O A : List Wr) (hI : ∀ w ∈ I, okS w) (hIl : I.length ≤ 60) (i k : Nat) (hk : k < O.length) (j : Nat) (h : j < I.length) (H H2 : List Vm.Obj) (j2 : Nat) (X : List (List V)) (p1 : appV 2 4 32 ⟨[[]], [], H⟩ (.osl true jl (wsV A)) (.els [wrV I[j]]) = some (.osl true j2 X, ⟨[[]], [], H2⟩)) (z1 : I[j].id = O[k].id) (z2 : ¬ I[j].addr = O[k].addr) (B : C) (hB : B = C.loop ir_undertowlaw13_SbufFindsl0) :
    evCI pg B ⟨[v, .undef, .ptr 0 0 0, .osl true ji (wsV I), .int .i64 (i : Int), .undef, .osl true jo (wsV O), .int .i64 (k : Int), (.osl true jl (wsV A)), .bool false, .int .i64 (j : Int), .undef, .undef, .undef, .undef, .undef, .undef, .undef, .undef, .undef, .undef, .undef, .undef, .undef, .undef, .undef, .undef, .undef, .undef, .undef, .undef, .undef, .undef, .undef], ⟨[[]], [], H⟩⟩ = evCI pg B ⟨[v, .undef, .ptr 0 0 0, .osl true ji (wsV I), .int .i64 (i : Int), .undef, .osl true jo (wsV O), .int .i64 (k : Int), (.osl true j2 X), .bool false, .int .i64 ((j + 1 : Nat) : Int), .undef, .undef, .undef, .undef, .undef, .undef, .undef, .undef, .undef, .undef, .undef, .undef, .undef, .undef, .undef, .undef, .undef, .undef, .undef, .undef, .undef, .undef, .undef], ⟨[[]], [], H2⟩⟩ := by
  have hw := hI I[j] (List.getElem_mem _)
  unfold okS at hw
  have e1 := fun m => osl_iw ji I m h
  have e2 := fun m => osl_iw jo O m hk
  rw [← z1] at e2
  have e3 := succ_i64 h (by omega)
  have ez : IntKind.i64.wrap (8 * I[j].size) = 8 * I[j].size := wrap_i64 (by omega) (by omega)
  have hZ := refZext_ok I[j].data (8 * I[j].size) hw.2.2.2.2
  have hskp : ∀ m t d, toImm m t (d + 1) .skp = none := fun _ _ _ => rfl
  have hwv : wrV I[j] = [.int .i64 I[j].id, .int .i64 I[j].addr, .int .i64 I[j].size, .int .u64 (I[j].data : Int)] := rfl
  rw [hwv] at p1
  conv => lhs; rw [s_loop_at hB]
  simp [ir_undertowlaw13_SbufFindsl0, go_sem, hvs, wsV_len, h, e1, e2, e3, z2, litParts, p1, hskp, unV, -Int.natCast_add]
theorem Finds_stdn (v : V) (hvs : isS v = true) (ji jo jl : Nat) (I O A : List Wr) (hI : ∀ w ∈ I, okS w) (hIl : I.length ≤ 60) (i k : Nat) (hk : k < O.length) (j : Nat) (h : j < I.length) (H H2 : List Vm.Obj) (j2 : Nat) (X : List (List V)) (p1 : appV 2 4 32 ⟨[[]], [], H⟩ .nils (.els [wrV I[j]]) = some (.osl true j2 X, ⟨[[]], [], H2⟩)) (z1 : I[j].id = O[k].id) (z2 : I[j].addr = O[k].addr) (z3 : ¬ I[j].size = O[k].size) (B : C) (hB : B = C.loop ir_undertowlaw13_SbufFindsl0) :
    evCI pg B ⟨[v, .undef, .ptr 0 0 0, .osl true ji (wsV I), .int .i64 (i : Int), .undef, .osl true jo (wsV O), .int .i64 (k : Int), .nils, .bool false, .int .i64 (j : Int), .undef, .undef, .undef, .undef, .undef, .undef, .undef, .undef, .undef, .undef, .undef, .undef, .undef, .undef, .undef, .undef, .undef, .undef, .undef, .undef, .undef, .undef, .undef], ⟨[[]], [], H⟩⟩ = evCI pg B ⟨[v, .undef, .ptr 0 0 0, .osl true ji (wsV I), .int .i64 (i : Int), .undef, .osl true jo (wsV O), .int .i64 (k : Int), (.osl true j2 X), .bool false, .int .i64 ((j + 1 : Nat) : Int), .undef, .undef, .undef, .undef, .undef, .undef, .undef, .undef, .undef, .undef, .undef, .undef, .undef, .undef, .undef, .undef, .undef, .undef, .undef, .undef, .undef, .undef, .undef], ⟨[[]], [], H2⟩⟩ := by
  have hw := hI I[j] (List.getElem_mem _)
  unfold okS at hw
  have e1 := fun m => osl_iw ji I m h
  have e2 := fun m => osl_iw jo O m hk
  rw [← z1, ← z2] at e2
  have e3 := succ_i64 h (by omega)
  have ez : IntKind.i64.wrap (8 * I[j].size) = 8 * I[j].size := wrap_i64 (by omega) (by omega)
  have hZ := refZext_ok I[j].data (8 * I[j].size) hw.2.2.2.2
  have hskp : ∀ m t d, toImm m t (d + 1) .skp = none := fun _ _ _ => rfl
  have hwv : wrV I[j] = [.int .i64 I[j].id, .int .i64 I[j].addr, .int .i64 I[j].size, .int .u64 (I[j].data : Int)] := rfl
  rw [hwv] at p1
  conv => lhs; rw [s_loop_at hB]
  simp [ir_undertowlaw13_SbufFindsl0, go_sem, hvs, wsV_len, h, e1, e2, e3, z3, litParts, p1, hskp, unV, -Int.natCast_add]
theorem Finds_stdo (v : V) (hvs : isS v = true) (ji jo jl : Nat) (I O A : List Wr) (hI : ∀ w ∈ I, okS w) (hIl : I.length ≤ 60) (i k : Nat) (hk : k < O.length) (j : Nat) (h : j < I.length) (H H2 : List Vm.Obj) (j2 : Nat) (X : List (List V)) (p1 : appV 2 4 32 ⟨[[]], [], H⟩ (.osl true jl (wsV A)) (.els [wrV I[j]]) = some (.osl true j2 X, ⟨[[]], [], H2⟩)) (z1 : I[j].id = O[k].id) (z2 : I[j].addr = O[k].addr) (z3 : ¬ I[j].size = O[k].size) (B : C) (hB : B = C.loop ir_undertowlaw13_SbufFindsl0) :
    evCI pg B ⟨[v, .undef, .ptr 0 0 0, .osl true ji (wsV I), .int .i64 (i : Int), .undef, .osl true jo (wsV O), .int .i64 (k : Int), (.osl true jl (wsV A)), .bool false, .int .i64 (j : Int), .undef, .undef, .undef, .undef, .undef, .undef, .undef, .undef, .undef, .undef, .undef, .undef, .undef, .undef, .undef, .undef, .undef, .undef, .undef, .undef, .undef, .undef, .undef], ⟨[[]], [], H⟩⟩ = evCI pg B ⟨[v, .undef, .ptr 0 0 0, .osl true ji (wsV I), .int .i64 (i : Int), .undef, .osl true jo (wsV O), .int .i64 (k : Int), (.osl true j2 X), .bool false, .int .i64 ((j + 1 : Nat) : Int), .undef, .undef, .undef, .undef, .undef, .undef, .undef, .undef, .undef, .undef, .undef, .undef, .undef, .undef, .undef, .undef, .undef, .undef, .undef, .undef, .undef, .undef, .undef], ⟨[[]], [], H2⟩⟩ := by
  have hw := hI I[j] (List.getElem_mem _)
  unfold okS at hw
  have e1 := fun m => osl_iw ji I m h
  have e2 := fun m => osl_iw jo O m hk
  rw [← z1, ← z2] at e2
  have e3 := succ_i64 h (by omega)
  have ez : IntKind.i64.wrap (8 * I[j].size) = 8 * I[j].size := wrap_i64 (by omega) (by omega)
  have hZ := refZext_ok I[j].data (8 * I[j].size) hw.2.2.2.2
  have hskp : ∀ m t d, toImm m t (d + 1) .skp = none := fun _ _ _ => rfl
  have hwv : wrV I[j] = [.int .i64 I[j].id, .int .i64 I[j].addr, .int .i64 I[j].size, .int .u64 (I[j].data : Int)] := rfl
  rw [hwv] at p1
  conv => lhs; rw [s_loop_at hB]
  simp [ir_undertowlaw13_SbufFindsl0, go_sem, hvs, wsV_len, h, e1, e2, e3, z3, litParts, p1, hskp, unV, -Int.natCast_add]
theorem Finds_sten (v : V) (hvs : isS v = true) (ji jo jl : Nat) (I O A : List Wr) (hI : ∀ w ∈ I, okS w) (hIl : I.length ≤ 60) (i k : Nat) (hk : k < O.length) (j : Nat) (h : j < I.length) (H H2 : List Vm.Obj) (j2 : Nat) (X : List (List V)) (p1 : appV 2 4 32 ⟨[[]], [], H⟩ .nils (.els [wrV I[j]]) = some (.osl true j2 X, ⟨[[]], [], H2⟩)) (z1 : I[j].id = O[k].id) (z2 : I[j].addr = O[k].addr) (z3 : I[j].size = O[k].size) (z4 : ¬ zx I[j].data (8 * I[j].size) = O[k].data) (B : C) (hB : B = C.loop ir_undertowlaw13_SbufFindsl0) :
    evCI pg B ⟨[v, .undef, .ptr 0 0 0, .osl true ji (wsV I), .int .i64 (i : Int), .undef, .osl true jo (wsV O), .int .i64 (k : Int), .nils, .bool false, .int .i64 (j : Int), .undef, .undef, .undef, .undef, .undef, .undef, .undef, .undef, .undef, .undef, .undef, .undef, .undef, .undef, .undef, .undef, .undef, .undef, .undef, .undef, .undef, .undef, .undef], ⟨[[]], [], H⟩⟩ = evCI pg B ⟨[v, .undef, .ptr 0 0 0, .osl true ji (wsV I), .int .i64 (i : Int), .undef, .osl true jo (wsV O), .int .i64 (k : Int), (.osl true j2 X), .bool false, .int .i64 ((j + 1 : Nat) : Int), .undef, .undef, .undef, .undef, .undef, .undef, .undef, .undef, .undef, .undef, .undef, .undef, .undef, .undef, .undef, .undef, .undef, .undef, .undef, .undef, .undef, .undef, .undef], ⟨[[]], [], H2⟩⟩ := by
  have hw := hI I[j] (List.getElem_mem _)
  unfold okS at hw
  have e1 := fun m => osl_iw ji I m h
  have e2 := fun m => osl_iw jo O m hk
  rw [← z1, ← z2, ← z3] at e2
  have e3 := succ_i64 h (by omega)
  have ez : IntKind.i64.wrap (8 * I[j].size) = 8 * I[j].size := wrap_i64 (by omega) (by omega)
  have hZ := refZext_ok I[j].data (8 * I[j].size) hw.2.2.2.2
  have hskp : ∀ m t d, toImm m t (d + 1) .skp = none := fun _ _ _ => rfl
  have hwv : wrV I[j] = [.int .i64 I[j].id, .int .i64 I[j].addr, .int .i64 I[j].size, .int .u64 (I[j].data : Int)] := rfl
  rw [hwv] at p1
  conv => lhs; rw [s_loop_at hB]
  simp [ir_undertowlaw13_SbufFindsl0, go_sem, hvs, wsV_len, h, e1, e2, e3, ez, hZ, z4, litParts, p1, hskp, unV, -Int.natCast_add]
theorem Finds_steo (v : V) (hvs : isS v = true) (ji jo jl : Nat) (I O A : List Wr) (hI : ∀ w ∈ I, okS w) (hIl : I.length ≤ 60) (i k : Nat) (hk : k < O.length) (j : Nat) (h : j < I.length) (H H2 : List Vm.Obj) (j2 : Nat) (X : List (List V)) (p1 : appV 2 4 32 ⟨[[]], [], H⟩ (.osl true jl (wsV A)) (.els [wrV I[j]]) = some (.osl true j2 X, ⟨[[]], [], H2⟩)) (z1 : I[j].id = O[k].id) (z2 : I[j].addr = O[k].addr) (z3 : I[j].size = O[k].size) (z4 : ¬ zx I[j].data (8 * I[j].size) = O[k].data) (B : C) (hB : B = C.loop ir_undertowlaw13_SbufFindsl0) :
    evCI pg B ⟨[v, .undef, .ptr 0 0 0, .osl true ji (wsV I), .int .i64 (i : Int), .undef, .osl true jo (wsV O), .int .i64 (k : Int), (.osl true jl (wsV A)), .bool false, .int .i64 (j : Int), .undef, .undef, .undef, .undef, .undef, .undef, .undef, .undef, .undef, .undef, .undef, .undef, .undef, .undef, .undef, .undef, .undef, .undef, .undef, .undef, .undef, .undef, .undef], ⟨[[]], [], H⟩⟩ = evCI pg B ⟨[v, .undef, .ptr 0 0 0, .osl true ji (wsV I), .int .i64 (i : Int), .undef, .osl true jo (wsV O), .int .i64 (k : Int), (.osl true j2 X), .bool false, .int .i64 ((j + 1 : Nat) : Int), .undef, .undef, .undef, .undef, .undef, .undef, .undef, .undef, .undef, .undef, .undef, .undef, .undef, .undef, .undef, .undef, .undef, .undef, .undef, .undef, .undef, .undef, .undef], ⟨[[]], [], H2⟩⟩ := by
  have hw := hI I[j] (List.getElem_mem _)
  unfold okS at hw
  have e1 := fun m => osl_iw ji I m h
  have e2 := fun m => osl_iw jo O m hk
  rw [← z1, ← z2, ← z3] at e2
  have e3 := succ_i64 h (by omega)
  have ez : IntKind.i64.wrap (8 * I[j].size) = 8 * I[j].size := wrap_i64 (by omega) (by omega)
  have hZ := refZext_ok I[j].data (8 * I[j].size) hw.2.2.2.2
  have hskp : ∀ m t d, toImm m t (d + 1) .skp = none := fun _ _ _ => rfl
  have hwv : wrV I[j] = [.int .i64 I[j].id, .int .i64 I[j].addr, .int .i64 I[j].size, .int .u64 (I[j].data : Int)] := rfl
  rw [hwv] at p1
  conv => lhs; rw [s_loop_at hB]
  simp [ir_undertowlaw13_SbufFindsl0, go_sem, hvs, wsV_len, h, e1, e2, e3, ez, hZ, z4, litParts, p1, hskp, unV, -Int.natCast_add]
theorem Finds_hitn (v : V) (hvs : isS v = true) (ji jo jl : Nat) (I O A : List Wr) (hI : ∀ w ∈ I, okS w) (hIl : I.length ≤ 60) (i k : Nat) (hk : k < O.length) (j : Nat) (h : j < I.length) (H : List Vm.Obj) (z1 : I[j].id = O[k].id) (z2 : I[j].addr = O[k].addr) (z3 : I[j].size = O[k].size) (z4 : zx I[j].data (8 * I[j].size) = O[k].data) (B : C) (hB : B = C.loop ir_undertowlaw13_SbufFindsl0) :
    evCI pg B ⟨[v, .undef, .ptr 0 0 0, .osl true ji (wsV I), .int .i64 (i : Int), .undef, .osl true jo (wsV O), .int .i64 (k : Int), .nils, .bool false, .int .i64 (j : Int), .undef, .undef, .undef, .undef, .undef, .undef, .undef, .undef, .undef, .undef, .undef, .undef, .undef, .undef, .undef, .undef, .undef, .undef, .undef, .undef, .undef, .undef, .undef], ⟨[[]], [], H⟩⟩ = evCI pg B ⟨[v, .undef, .ptr 0 0 0, .osl true ji (wsV I), .int .i64 (i : Int), .undef, .osl true jo (wsV O), .int .i64 (k : Int), .nils, .bool true, .int .i64 ((j + 1 : Nat) : Int), .undef, .undef, .undef, .undef, .undef, .undef, .undef, .undef, .undef, .undef, .undef, .undef, .undef, .undef, .undef, .undef, .undef, .undef, .undef, .undef, .undef, .undef, .undef], ⟨[[]], [], H⟩⟩ := by
  have hw := hI I[j] (List.getElem_mem _)
  unfold okS at hw
  have e1 := fun m => osl_iw ji I m h
  have e2 := fun m => osl_iw jo O m hk
  rw [← z1, ← z2, ← z3, ← z4] at e2
  have e3 := succ_i64 h (by omega)
  have ez : IntKind.i64.wrap (8 * I[j].size) = 8 * I[j].size := wrap_i64 (by omega) (by omega)
  have hZ := refZext_ok I[j].data (8 * I[j].size) hw.2.2.2.2
  have hskp : ∀ m t d, toImm m t (d + 1) .skp = none := fun _ _ _ => rfl
  conv => lhs; rw [s_loop_at hB]
  simp [ir_undertowlaw13_SbufFindsl0, go_sem, hvs, wsV_len, h, e1, e2, e3, ez, hZ, hskp, unV, -Int.natCast_add]
theorem Finds_hito (v : V) (hvs : isS v = true) (ji jo jl : Nat) (I O A : List Wr) (hI : ∀ w ∈ I, okS w) (hIl : I.length ≤ 60) (i k : Nat) (hk : k < O.length) (j : Nat) (h : j < I.length) (H : List Vm.Obj) (z1 : I[j].id = O[k].id) (z2 : I[j].addr = O[k].addr) (z3 : I[j].size = O[k].size) (z4 : zx I[j].data (8 * I[j].size) = O[k].data) (B : C) (hB : B = C.loop ir_undertowlaw13_SbufFindsl0) :
    evCI pg B ⟨[v, .undef, .ptr 0 0 0, .osl true ji (wsV I), .int .i64 (i : Int), .undef, .osl true jo (wsV O), .int .i64 (k : Int), (.osl true jl (wsV A)), .bool false, .int .i64 (j : Int), .undef, .undef, .undef, .undef, .undef, .undef, .undef, .undef, .undef, .undef, .undef, .undef, .undef, .undef, .undef, .undef, .undef, .undef, .undef, .undef, .undef, .undef, .undef], ⟨[[]], [], H⟩⟩ = evCI pg B ⟨[v, .undef, .ptr 0 0 0, .osl true ji (wsV I), .int .i64 (i : Int), .undef, .osl true jo (wsV O), .int .i64 (k : Int), (.osl true jl (wsV A)), .bool true, .int .i64 ((j + 1 : Nat) : Int), .undef, .undef, .undef, .undef, .undef, .undef, .undef, .undef, .undef, .undef, .undef, .undef, .undef, .undef, .undef, .undef, .undef, .undef, .undef, .undef, .undef, .undef, .undef], ⟨[[]], [], H⟩⟩ := by
  have hw := hI I[j] (List.getElem_mem _)
  unfold okS at hw
  have e1 := fun m => osl_iw ji I m h
  have e2 := fun m => osl_iw jo O m hk
  rw [← z1, ← z2, ← z3, ← z4] at e2
  have e3 := succ_i64 h (by omega)
  have ez : IntKind.i64.wrap (8 * I[j].size) = 8 * I[j].size := wrap_i64 (by omega) (by omega)
  have hZ := refZext_ok I[j].data (8 * I[j].size) hw.2.2.2.2
  have hskp : ∀ m t d, toImm m t (d + 1) .skp = none := fun _ _ _ => rfl
  conv => lhs; rw [s_loop_at hB]
  simp [ir_undertowlaw13_SbufFindsl0, go_sem, hvs, wsV_len, h, e1, e2, e3, ez, hZ, hskp, unV, -Int.natCast_add]
theorem Finds_loop0 (v : V) (hvs : isS v = true) (ji jo : Nat) (I O : List Wr) (hI : ∀ w ∈ I, okS w) (hIl : I.length ≤ 60) (i : Nat) (k : Nat) (hk : k < O.length) (j : Nat) (hj : j ≤ I.length) (H : List Vm.Obj) (lv : V) (A : List Wr) (hA : A.length + I.length ≤ 60 + j) (g : Bool) (hlv : Lg H lv (wsV A)) :
    ∃ H' lv', evCI pg (.loop ir_undertowlaw13_SbufFindsl0) ⟨[v, .undef, .ptr 0 0 0, .osl true ji (wsV I), .int .i64 (i : Int), .undef, .osl true jo (wsV O), .int .i64 (k : Int), lv, .bool g, .int .i64 (j : Int), .undef, .undef, .undef, .undef, .undef, .undef, .undef, .undef, .undef, .undef, .undef, .undef, .undef, .undef, .undef, .undef, .undef, .undef, .undef, .undef, .undef, .undef, .undef], ⟨[[]], [], H⟩⟩ =
      some (.exit 5, ⟨[v, .undef, .ptr 0 0 0, .osl true ji (wsV I), .int .i64 (i : Int), .undef, .osl true jo (wsV O), .int .i64 (k : Int), lv', .bool (rm O[k] g (I.drop j)).2, .int .i64 (I.length : Int), .undef, .undef, .undef, .undef, .undef, .undef, .undef, .undef, .undef, .undef, .undef, .undef, .undef, .undef, .undef, .undef, .bool false, .undef, .undef, .undef, .undef, .undef, .undef], ⟨[[]], [], H'⟩⟩) ∧
      Lg H' lv' (wsV (A ++ (rm O[k] g (I.drop j)).1)) ∧ H.length ≤ H'.length ∧ (∀ q, q < H.length → vid lv ≠ some q → H'[q]? = H[q]?) ∧ (∀ q, vid lv' = some q → vid lv = some q ∨ H.length ≤ q) := by
  obtain ⟨B, hB⟩ : ∃ B, B = C.loop ir_undertowlaw13_SbufFindsl0 := ⟨_, rfl⟩
  by_cases h : j < I.length
  · have hw := hI I[j] (List.getElem_mem _)
    unfold okS at hw
    have e1 := fun m => osl_iw ji I m h
    have e2 := fun m => osl_iw jo O m hk
    have e3 := succ_i64 h (by omega)
    have ez : IntKind.i64.wrap (8 * I[j].size) = 8 * I[j].size := wrap_i64 (by omega) (by omega)
    have hZ := refZext_ok I[j].data (8 * I[j].size) hw.2.2.2.2
    have hci : ∀ a b : Nat, ((a : Int) = (b : Int)) ↔ a = b := fun a b => by omega
    have hzi := zw_iff I[j] O[k]
    rw [List.drop_eq_getElem_cons h, rm]
    have hlvs := hlv.ivs
    have hskp : ∀ m t d, toImm m t (d + 1) .skp = none := fun _ _ _ => rfl
    by_cases cg : g = false ∧ zw I[j] = O[k]
    · obtain ⟨rfl, cz⟩ := cg
      obtain ⟨z1, z2, z3, z4⟩ := hzi.1 cz
      obtain ⟨H', lv', ih, r⟩ := Finds_loop0 v hvs ji jo I O hI hIl i k hk (j + 1) (by omega) H lv A (by omega) true hlv
      rw [if_pos ⟨rfl, cz⟩]
      refine ⟨H', lv', ?_, r⟩
      rw [← ih, ← hB]
      rcases hlvs with ⟨rfl, _⟩ | ⟨jl, rfl⟩
      · exact Finds_hitn v hvs ji jo 0 I O [] hI hIl i k hk j h H z1 z2 z3 z4 B hB
      · exact Finds_hito v hvs ji jo jl I O A hI hIl i k hk j h H z1 z2 z3 z4 B hB
    · rw [if_neg cg]
      obtain ⟨j2, H2, p1, p2, p3, p4, p5⟩ := hlv.push (w := I[j]) (vs := [[]]) (tk := []) (by omega)
      obtain ⟨H', lv', ih, r1, r2, r3, r4⟩ := Finds_loop0 v hvs ji jo I O hI hIl i k hk (j + 1) (by omega) H2 (.osl true j2 (wsV (A ++ [I[j]]))) (A ++ [I[j]]) (by simp; omega) g p2
      refine ⟨H', lv', ?_, by rw [List.append_assoc] at r1; exact r1, by omega, fun q hq hn => ?_, fun q hq => ?_⟩
      · rw [← ih, ← hB]
        cases g with
        | true =>
          rcases hlvs with ⟨rfl, _⟩ | ⟨jl, rfl⟩
          · exact Finds_stan v hvs ji jo 0 I O [] hI hIl i k hk j h H H2 j2 _ p1 B hB
          · exact Finds_stao v hvs ji jo jl I O A hI hIl i k hk j h H H2 j2 _ p1 B hB
        | false =>
          have cz : ¬ zw I[j] = O[k] := fun hc => cg ⟨rfl, hc⟩
          rw [hzi] at cz
          by_cases z1 : I[j].id = O[k].id
          · by_cases z2 : I[j].addr = O[k].addr
            · by_cases z3 : I[j].size = O[k].size
              · have z4 : ¬ zx I[j].data (8 * I[j].size) = O[k].data := fun hc => cz ⟨z1, z2, z3, hc⟩
                rcases hlvs with ⟨rfl, _⟩ | ⟨jl, rfl⟩
                · exact Finds_sten v hvs ji jo 0 I O [] hI hIl i k hk j h H H2 j2 _ p1 z1 z2 z3 z4 B hB
                · exact Finds_steo v hvs ji jo jl I O A hI hIl i k hk j h H H2 j2 _ p1 z1 z2 z3 z4 B hB
              · rcases hlvs with ⟨rfl, _⟩ | ⟨jl, rfl⟩
                · exact Finds_stdn v hvs ji jo 0 I O [] hI hIl i k hk j h H H2 j2 _ p1 z1 z2 z3 B hB
                · exact Finds_stdo v hvs ji jo jl I O A hI hIl i k hk j h H H2 j2 _ p1 z1 z2 z3 B hB
            · rcases hlvs with ⟨rfl, _⟩ | ⟨jl, rfl⟩
              · exact Finds_stcn v hvs ji jo 0 I O [] hI hIl i k hk j h H H2 j2 _ p1 z1 z2 B hB
              · exact Finds_stco v hvs ji jo jl I O A hI hIl i k hk j h H H2 j2 _ p1 z1 z2 B hB
          · rcases hlvs with ⟨rfl, _⟩ | ⟨jl, rfl⟩
            · exact Finds_stbn v hvs ji jo 0 I O [] hI hIl i k hk j h H H2 j2 _ p1 z1 B hB
            · exact Finds_stbo v hvs ji jo jl I O A hI hIl i k hk j h H H2 j2 _ p1 z1 B hB
      · have hqj : q ≠ j2 := by
          rcases p5 with p5 | ⟨_, p5⟩
          · intro e; exact hn (by rw [e]; exact p5)
          · omega
        rw [r3 q (by omega) (by simp [vid]; exact fun e => hqj e.symm), p4 q hq hqj]
      · rcases r4 q hq with hc | hc
        · simp [vid] at hc
          subst hc
          rcases p5 with p5 | ⟨_, p5⟩
          · exact .inl p5
          · exact .inr (by omega)
        · exact .inr (by omega)
  · obtain rfl : j = I.length := by omega
    refine ⟨H, lv, ?_, by rw [List.drop_length]; simpa [rm] using hlv, Nat.le_refl _, fun _ _ _ => rfl, fun q hq => .inl hq⟩
    rw [← hB, s_loop_at hB, List.drop_length]
    rcases hlv.ivs with ⟨rfl, _⟩ | ⟨jl, rfl⟩
    · simp [ir_undertowlaw13_SbufFindsl0, go_sem, hvs, wsV_len, rm]
    · simp [ir_undertowlaw13_SbufFindsl0, go_sem, hvs, wsV_len, rm]
termination_by I.length - j
end Go.Proofs.Ytaedicechhbhdaa
