/- Layer 20: what is looked at; image, how many, numbers, places (no claim; lemmas). -/
import Derived.Test.YtlkcfhpklibnaaaK20f
set_option linter.unusedSimpArgs false
set_option linter.unusedVariables false
set_option maxRecDepth 20000
namespace Go.Proofs.Ytlkcfhpklibnaaa
open Go Go.Vm

/-- What is looked at. -/
structure Lk (x0 : V) (lv : Nat → V) (x4 u : V) (R : Nat → List Rt) (img : List Nat) (cv : List V) (co : List (List Int)) : Prop where
  im : Sl x0 (byV img)
  ib : (∀ b ∈ img, b < 256) ∧ img.length ≤ 100000
  li : ∀ h, h < 3 → Sl (lv h) (rwR (R h)) ∧ bdL (R h) ∧ (R h).length ≤ 512
  co4 : Sl x4 (slR cv)
  cs : SlI cv co
  cl : cv.length ≤ 100000
  ol : ∀ l ∈ co, l.length ≤ 100000
  ev : Sl u (evR (evs R))
def xC (x0 : V) (lv : Nat → V) (x4 u : V) (mid : Nat) : List V := [x0, lv 0, lv 1, lv 2, x4, u, .map mid]
theorem evs_bd {R : Nat → List Rt} (h : ∀ h, h < 3 → bdL (R h)) : ∀ e ∈ evs R, Bd e.r := fun e he => by
  obtain ⟨h1, h2, _⟩ := evs_mem he
  exact h _ h1 _ (List.mem_of_getElem? h2)
section
variable {x0 : V} {lv : Nat → V} {x4 u : V} {R : Nat → List Rt} {img : List Nat} {cv : List V} {co : List (List Int)} (w : Lk x0 lv x4 u R img cv co) (mid : Nat) (H : List Vm.Obj)
include w
/-! ### the image, and how many -/
def imgB (img : List Nat) (n : Nat) : Bool := decide (1024 < img.length) || decide (n ≠ img.length)
theorem image_ok : evI pg .heap n_cand_look_image [.agg (xC x0 lv x4 u mid)] H = some (.bool (imgB img cv.length), H) := by
  have i0 := w.im.is
  have i4 := w.co4.is
  have iu := w.ev.is
  have j0 := (w.li 0 (by omega)).1.is
  have j1 := (w.li 1 (by omega)).1.is
  have j2 := (w.li 2 (by omega)).1.is
  have hr0 : (rows x0).length = img.length := by rw [w.im.rows, byV_len]
  have hr4 : (rows x4).length = cv.length := by rw [w.co4.rows, slR_len]
  unfold imgB xC
  rw [s_fn fn_cand_look_image]
  by_cases c : 1024 < img.length
  · have c' : (1024 : Int) < (img.length : Int) := by omega
    simp [ir_cand_look_image, go_sem, i0, i4, iu, j0, j1, j2, hr0, hr4, c, c', V.cells, V.exp]
  · have c' : ¬ (1024 : Int) < (img.length : Int) := by omega
    have c2 : (img.length : Int) ≤ 1024 := by omega
    by_cases d : cv.length = img.length
    · simp [ir_cand_look_image, go_sem, i0, i4, iu, j0, j1, j2, hr0, hr4, c, c', c2, d, V.cells, V.exp]
    · have d' : ¬ (cv.length : Int) = (img.length : Int) := by omega
      simp [ir_cand_look_image, go_sem, i0, i4, iu, j0, j1, j2, hr0, hr4, c, c', c2, d, d', V.cells, V.exp]
def manB (R : Nat → List Rt) : Bool := decide (512 < (R 0).length + (R 1).length + (R 2).length)
theorem many_l0 (h : Nat) (hh : h ≤ 3) (n : Nat) (hn : n ≤ 1000 * h) :
    evCI pg (.loop ir_cand_look_manyl0) ⟨[.undef, .undef, .undef, .int .i64 (n : Nat), .undef, .agg (ls3 lv), .int .i64 (h : Int), .undef], ⟨[[]], [], H⟩⟩ =
      some (.exit 0, ⟨[.undef, .undef, .undef, .int .i64 (n + ((List.range' h (3 - h)).map fun k => (R k).length).sum : Nat), .undef, .agg (ls3 lv), .int .i64 (3 : Int), .bool false], ⟨[[]], [], H⟩⟩) := by
  obtain ⟨B, hB⟩ : ∃ B, B = Vm.C.loop ir_cand_look_manyl0 := ⟨_, rfl⟩
  by_cases c : h < 3
  · have e3 := succ_i64 c (by omega)
    obtain ⟨h1, h2, h3⟩ := w.li h c
    have ih := many_l0 (h + 1) (by omega) (n + (R h).length) (by omega)
    have hd : List.range' h (3 - h) = h :: List.range' (h + 1) (3 - (h + 1)) := by
      have : 3 - h = (3 - (h + 1)) + 1 := by omega
      rw [this, List.range'_succ]
    rw [hd, List.map_cons, List.sum_cons, ← Nat.add_assoc, ← ih, ← hB]
    conv => lhs; rw [s_loop_at hB]
    have hrl : (rows (lv h)).length = (R h).length := by rw [h1.rows, rwR_len]
    have hi := h1.is
    clear ih hd
    have c2 : (h : Int) < 3 := by omega
    obtain ⟨hg, hg2⟩ := ls3_get lv c
    have hll := ls3_len lv
    have hg' : ∀ q : h < (ls3 lv).length, (ls3 lv)[h] = lv h := fun q => by
      rw [List.getElem?_eq_getElem q] at hg
      exact Option.some.inj hg
    generalize ls3 lv = ls at *
    have c3 : h ≤ 2 := by omega
    have ew : IntKind.i64.wrap ((n : Int) + ((R h).length : Int)) = ((n + (R h).length : Nat) : Int) := by rw [i64_small (by omega)]; rfl
    simp [ir_cand_look_manyl0, go_sem, c, c2, c3, e3, hg, hg', hg2, hll, hi, hrl, ew, -Int.natCast_add]
  · obtain rfl : h = 3 := by omega
    rw [← hB, s_loop_at hB]
    simp [ir_cand_look_manyl0, go_sem]
termination_by 3 - h
theorem many_ok : evI pg .heap n_cand_look_many [.agg (xC x0 lv x4 u mid)] H = some (.bool (manB R), H) := by
  have i0 := w.im.is
  have i4 := w.co4.is
  have iu := w.ev.is
  have j0 := (w.li 0 (by omega)).1.is
  have j1 := (w.li 1 (by omega)).1.is
  have j2 := (w.li 2 (by omega)).1.is
  have hl := many_l0 w H 0 (by omega) 0 (by omega)
  have e : 0 + ((List.range' 0 (3 - 0)).map fun k => (R k).length).sum = (R 0).length + (R 1).length + (R 2).length := by simp [List.range'_succ]; omega
  rw [e, Int.natCast_zero] at hl
  unfold ls3 at hl
  unfold manB xC
  rw [s_fn fn_cand_look_many]
  generalize (R 0).length + (R 1).length + (R 2).length = n at *
  by_cases c : 512 < n
  · have c' : (512 : Int) < (n : Int) := by omega
    simp [ir_cand_look_many, go_sem, i0, i4, iu, j0, j1, j2, hl, c, c', V.cells, V.exp]
  · have c' : ¬ (512 : Int) < (n : Int) := by omega
    have c2 : (n : Int) ≤ 512 := by omega
    simp [ir_cand_look_many, go_sem, i0, i4, iu, j0, j1, j2, hl, c, c', c2, V.cells, V.exp]
end
end Go.Proofs.Ytlkcfhpklibnaaa
