/- Layer 8: what is stored, by the document (no claim; lemmas). -/
import Derived.Test.YtffbhbjnkecieaaK08j
set_option linter.unusedSimpArgs false
set_option linter.unusedVariables false
set_option linter.unusedSectionVars false
namespace Go.Proofs.Ytffbhbjnkecieaa
open Go Go.Vm

section
variable {a b : Nat} (ha : a < 18446744073709551616) (hb : b < 18446744073709551616)
include ha hb
theorem anti' (h1 : lts a b = false) (h2 : lts b a = false) : a = b := by
  unfold lts at h1 h2
  simp only [decide_eq_false_iff_not] at h1 h2
  have h : IntKind.i64.wrap (a : Int) = IntKind.i64.wrap (b : Int) := by omega
  have e1 := back_u ha
  have e2 := back_u hb
  rw [h, e2] at e1
  omega
theorem asym' (h1 : lts a b = true) : lts b a = false := by
  unfold lts at *
  simp only [decide_eq_true_eq] at h1
  simp only [decide_eq_false_iff_not]
  omega
theorem refStored_58 : evI pg .val n_undertowref08_Stored [.int .i64 58, .int .u64 (a : Int), .int .u64 (b : Int)] [] = some (.int .u64 (stI 58 a b : Nat), []) := by
  have rS : evI pg .val n_undertowref05_Sort [.int .i64 58] [] = some (.int .i64 12, []) := refSort_tab 58 (by decide)
  have rZ : evI pg .val n_undertowref05_Size [.int .i64 58] [] = some (.int .i64 4, []) := refSize_tab 58 (by decide)
  have hN : evI pg .val n_undertowref05_Name [.int .i64 58] [] = some (.str [97, 109, 111, 115, 119, 97, 112, 46, 119], []) := refName_tab 58 (by decide)
  have hsl : ∀ m, slcV 0 m (.str [97, 109, 111, 115, 119, 97, 112, 46, 119]) (some (.int .i64 3)) (some (.int .i64 7)) none = some (.str [115, 119, 97, 112]) := fun _ => by rfl
  have hw : IntKind.i64.wrap (8 * 4) = 32 := by rfl
  have hw2 : IntKind.i64.wrap 32 = 32 := by rfl
  have hw3 : IntKind.i64.wrap (9 - 2) = 7 := by rfl
  have hw4 : IntKind.i64.wrap 7 = 7 := by rfl
  have e1 := refSext_ok a 32 ha
  have e2 := refSext_ok b 32 hb
  have e3 := refZext_ok a 32 ha
  have e4 := refZext_ok b 32 hb
  have l1 := sx_lt a 32 ha
  have l2 := sx_lt b 32 hb
  have u1 := zx_lt (n := 32) ha
  have u2 := zx_lt (n := 32) hb
  have c1 := zx_sx a 32 ha
  have c2 := zx_sx b 32 hb
  have c3 := zx_zx a 32
  have c4 := zx_zx b 32
  have hst : stI 58 a b = zx (atI 0 (sx a 32) (sx b 32) (zx (sx a 32) 32) (zx (sx b 32) 32)) 32 := rfl
  rw [hst, c1, c2]
  generalize sx a 32 = x at *
  generalize sx b 32 = y at *
  generalize zx a 32 = u at *
  generalize zx b 32 = v at *
  have z1 := fun q h => refZext_ok q 32 h
  have f1 := f_xor l1 l2
  have f2 := f_or l1 l2
  have w1 := Low_ok l1 l2
  have w2 := Low_ok l2 l1
  have z2 := z1 ((x + y) % 18446744073709551616) (by omega)
  have z3 := z1 (x ^^^ y) (Nat.xor_lt_two_pow (n := 64) l1 l2)
  have z4 := z1 (x &&& y) (Nat.and_lt_two_pow (n := 64) _ l2)
  have z5 := z1 (x ||| y) (Nat.or_lt_two_pow (n := 64) l1 l2)
  have z6 := z1 x l1
  have z7 := z1 y l2
  have z8 := z1 u u1
  have z9 := z1 v u2
  rw [s_fn fn_undertowref08_Stored]
  simp [ir_undertowref08_Stored, go_sem, strV, rS, rZ, hN, hsl, hw, hw2, hw3, hw4, e1, e2, e3, e4, atI, add_u, and_u64 l1 l2, or_u64 l1 l2, f1, f2, w1, w2, z2, z3, z4, z5, z6, z7, z8, z9, -Int.natCast_emod, -Int.natCast_ediv, -Int.natCast_mul, -Int.natCast_pow, -Int.natCast_add]
theorem refStored_59 : evI pg .val n_undertowref08_Stored [.int .i64 59, .int .u64 (a : Int), .int .u64 (b : Int)] [] = some (.int .u64 (stI 59 a b : Nat), []) := by
  have rS : evI pg .val n_undertowref05_Sort [.int .i64 59] [] = some (.int .i64 12, []) := refSort_tab 59 (by decide)
  have rZ : evI pg .val n_undertowref05_Size [.int .i64 59] [] = some (.int .i64 4, []) := refSize_tab 59 (by decide)
  have hN : evI pg .val n_undertowref05_Name [.int .i64 59] [] = some (.str [97, 109, 111, 97, 100, 100, 46, 119], []) := refName_tab 59 (by decide)
  have hsl : ∀ m, slcV 0 m (.str [97, 109, 111, 97, 100, 100, 46, 119]) (some (.int .i64 3)) (some (.int .i64 6)) none = some (.str [97, 100, 100]) := fun _ => by rfl
  have hw : IntKind.i64.wrap (8 * 4) = 32 := by rfl
  have hw2 : IntKind.i64.wrap 32 = 32 := by rfl
  have hw3 : IntKind.i64.wrap (8 - 2) = 6 := by rfl
  have hw4 : IntKind.i64.wrap 6 = 6 := by rfl
  have e1 := refSext_ok a 32 ha
  have e2 := refSext_ok b 32 hb
  have e3 := refZext_ok a 32 ha
  have e4 := refZext_ok b 32 hb
  have l1 := sx_lt a 32 ha
  have l2 := sx_lt b 32 hb
  have u1 := zx_lt (n := 32) ha
  have u2 := zx_lt (n := 32) hb
  have c1 := zx_sx a 32 ha
  have c2 := zx_sx b 32 hb
  have c3 := zx_zx a 32
  have c4 := zx_zx b 32
  have hst : stI 59 a b = zx (atI 1 (sx a 32) (sx b 32) (zx (sx a 32) 32) (zx (sx b 32) 32)) 32 := rfl
  rw [hst, c1, c2]
  generalize sx a 32 = x at *
  generalize sx b 32 = y at *
  generalize zx a 32 = u at *
  generalize zx b 32 = v at *
  have z1 := fun q h => refZext_ok q 32 h
  have f1 := f_xor l1 l2
  have f2 := f_or l1 l2
  have w1 := Low_ok l1 l2
  have w2 := Low_ok l2 l1
  have z2 := z1 ((x + y) % 18446744073709551616) (by omega)
  have z3 := z1 (x ^^^ y) (Nat.xor_lt_two_pow (n := 64) l1 l2)
  have z4 := z1 (x &&& y) (Nat.and_lt_two_pow (n := 64) _ l2)
  have z5 := z1 (x ||| y) (Nat.or_lt_two_pow (n := 64) l1 l2)
  have z6 := z1 x l1
  have z7 := z1 y l2
  have z8 := z1 u u1
  have z9 := z1 v u2
  rw [s_fn fn_undertowref08_Stored]
  simp [ir_undertowref08_Stored, go_sem, strV, rS, rZ, hN, hsl, hw, hw2, hw3, hw4, e1, e2, e3, e4, atI, add_u, and_u64 l1 l2, or_u64 l1 l2, f1, f2, w1, w2, z2, z3, z4, z5, z6, z7, z8, z9, -Int.natCast_emod, -Int.natCast_ediv, -Int.natCast_mul, -Int.natCast_pow, -Int.natCast_add]
theorem refStored_60 : evI pg .val n_undertowref08_Stored [.int .i64 60, .int .u64 (a : Int), .int .u64 (b : Int)] [] = some (.int .u64 (stI 60 a b : Nat), []) := by
  have rS : evI pg .val n_undertowref05_Sort [.int .i64 60] [] = some (.int .i64 12, []) := refSort_tab 60 (by decide)
  have rZ : evI pg .val n_undertowref05_Size [.int .i64 60] [] = some (.int .i64 4, []) := refSize_tab 60 (by decide)
  have hN : evI pg .val n_undertowref05_Name [.int .i64 60] [] = some (.str [97, 109, 111, 120, 111, 114, 46, 119], []) := refName_tab 60 (by decide)
  have hsl : ∀ m, slcV 0 m (.str [97, 109, 111, 120, 111, 114, 46, 119]) (some (.int .i64 3)) (some (.int .i64 6)) none = some (.str [120, 111, 114]) := fun _ => by rfl
  have hw : IntKind.i64.wrap (8 * 4) = 32 := by rfl
  have hw2 : IntKind.i64.wrap 32 = 32 := by rfl
  have hw3 : IntKind.i64.wrap (8 - 2) = 6 := by rfl
  have hw4 : IntKind.i64.wrap 6 = 6 := by rfl
  have e1 := refSext_ok a 32 ha
  have e2 := refSext_ok b 32 hb
  have e3 := refZext_ok a 32 ha
  have e4 := refZext_ok b 32 hb
  have l1 := sx_lt a 32 ha
  have l2 := sx_lt b 32 hb
  have u1 := zx_lt (n := 32) ha
  have u2 := zx_lt (n := 32) hb
  have c1 := zx_sx a 32 ha
  have c2 := zx_sx b 32 hb
  have c3 := zx_zx a 32
  have c4 := zx_zx b 32
  have hst : stI 60 a b = zx (atI 2 (sx a 32) (sx b 32) (zx (sx a 32) 32) (zx (sx b 32) 32)) 32 := rfl
  rw [hst, c1, c2]
  generalize sx a 32 = x at *
  generalize sx b 32 = y at *
  generalize zx a 32 = u at *
  generalize zx b 32 = v at *
  have z1 := fun q h => refZext_ok q 32 h
  have f1 := f_xor l1 l2
  have f2 := f_or l1 l2
  have w1 := Low_ok l1 l2
  have w2 := Low_ok l2 l1
  have z2 := z1 ((x + y) % 18446744073709551616) (by omega)
  have z3 := z1 (x ^^^ y) (Nat.xor_lt_two_pow (n := 64) l1 l2)
  have z4 := z1 (x &&& y) (Nat.and_lt_two_pow (n := 64) _ l2)
  have z5 := z1 (x ||| y) (Nat.or_lt_two_pow (n := 64) l1 l2)
  have z6 := z1 x l1
  have z7 := z1 y l2
  have z8 := z1 u u1
  have z9 := z1 v u2
  rw [s_fn fn_undertowref08_Stored]
  simp [ir_undertowref08_Stored, go_sem, strV, rS, rZ, hN, hsl, hw, hw2, hw3, hw4, e1, e2, e3, e4, atI, add_u, and_u64 l1 l2, or_u64 l1 l2, f1, f2, w1, w2, z2, z3, z4, z5, z6, z7, z8, z9, -Int.natCast_emod, -Int.natCast_ediv, -Int.natCast_mul, -Int.natCast_pow, -Int.natCast_add]
theorem refStored_61 : evI pg .val n_undertowref08_Stored [.int .i64 61, .int .u64 (a : Int), .int .u64 (b : Int)] [] = some (.int .u64 (stI 61 a b : Nat), []) := by
  have rS : evI pg .val n_undertowref05_Sort [.int .i64 61] [] = some (.int .i64 12, []) := refSort_tab 61 (by decide)
  have rZ : evI pg .val n_undertowref05_Size [.int .i64 61] [] = some (.int .i64 4, []) := refSize_tab 61 (by decide)
  have hN : evI pg .val n_undertowref05_Name [.int .i64 61] [] = some (.str [97, 109, 111, 97, 110, 100, 46, 119], []) := refName_tab 61 (by decide)
  have hsl : ∀ m, slcV 0 m (.str [97, 109, 111, 97, 110, 100, 46, 119]) (some (.int .i64 3)) (some (.int .i64 6)) none = some (.str [97, 110, 100]) := fun _ => by rfl
  have hw : IntKind.i64.wrap (8 * 4) = 32 := by rfl
  have hw2 : IntKind.i64.wrap 32 = 32 := by rfl
  have hw3 : IntKind.i64.wrap (8 - 2) = 6 := by rfl
  have hw4 : IntKind.i64.wrap 6 = 6 := by rfl
  have e1 := refSext_ok a 32 ha
  have e2 := refSext_ok b 32 hb
  have e3 := refZext_ok a 32 ha
  have e4 := refZext_ok b 32 hb
  have l1 := sx_lt a 32 ha
  have l2 := sx_lt b 32 hb
  have u1 := zx_lt (n := 32) ha
  have u2 := zx_lt (n := 32) hb
  have c1 := zx_sx a 32 ha
  have c2 := zx_sx b 32 hb
  have c3 := zx_zx a 32
  have c4 := zx_zx b 32
  have hst : stI 61 a b = zx (atI 3 (sx a 32) (sx b 32) (zx (sx a 32) 32) (zx (sx b 32) 32)) 32 := rfl
  rw [hst, c1, c2]
  generalize sx a 32 = x at *
  generalize sx b 32 = y at *
  generalize zx a 32 = u at *
  generalize zx b 32 = v at *
  have z1 := fun q h => refZext_ok q 32 h
  have f1 := f_xor l1 l2
  have f2 := f_or l1 l2
  have w1 := Low_ok l1 l2
  have w2 := Low_ok l2 l1
  have z2 := z1 ((x + y) % 18446744073709551616) (by omega)
  have z3 := z1 (x ^^^ y) (Nat.xor_lt_two_pow (n := 64) l1 l2)
  have z4 := z1 (x &&& y) (Nat.and_lt_two_pow (n := 64) _ l2)
  have z5 := z1 (x ||| y) (Nat.or_lt_two_pow (n := 64) l1 l2)
  have z6 := z1 x l1
  have z7 := z1 y l2
  have z8 := z1 u u1
  have z9 := z1 v u2
  rw [s_fn fn_undertowref08_Stored]
  simp [ir_undertowref08_Stored, go_sem, strV, rS, rZ, hN, hsl, hw, hw2, hw3, hw4, e1, e2, e3, e4, atI, add_u, and_u64 l1 l2, or_u64 l1 l2, f1, f2, w1, w2, z2, z3, z4, z5, z6, z7, z8, z9, -Int.natCast_emod, -Int.natCast_ediv, -Int.natCast_mul, -Int.natCast_pow, -Int.natCast_add]
theorem refStored_62 : evI pg .val n_undertowref08_Stored [.int .i64 62, .int .u64 (a : Int), .int .u64 (b : Int)] [] = some (.int .u64 (stI 62 a b : Nat), []) := by
  have rS : evI pg .val n_undertowref05_Sort [.int .i64 62] [] = some (.int .i64 12, []) := refSort_tab 62 (by decide)
  have rZ : evI pg .val n_undertowref05_Size [.int .i64 62] [] = some (.int .i64 4, []) := refSize_tab 62 (by decide)
  have hN : evI pg .val n_undertowref05_Name [.int .i64 62] [] = some (.str [97, 109, 111, 111, 114, 46, 119], []) := refName_tab 62 (by decide)
  have hsl : ∀ m, slcV 0 m (.str [97, 109, 111, 111, 114, 46, 119]) (some (.int .i64 3)) (some (.int .i64 5)) none = some (.str [111, 114]) := fun _ => by rfl
  have hw : IntKind.i64.wrap (8 * 4) = 32 := by rfl
  have hw2 : IntKind.i64.wrap 32 = 32 := by rfl
  have hw3 : IntKind.i64.wrap (7 - 2) = 5 := by rfl
  have hw4 : IntKind.i64.wrap 5 = 5 := by rfl
  have e1 := refSext_ok a 32 ha
  have e2 := refSext_ok b 32 hb
  have e3 := refZext_ok a 32 ha
  have e4 := refZext_ok b 32 hb
  have l1 := sx_lt a 32 ha
  have l2 := sx_lt b 32 hb
  have u1 := zx_lt (n := 32) ha
  have u2 := zx_lt (n := 32) hb
  have c1 := zx_sx a 32 ha
  have c2 := zx_sx b 32 hb
  have c3 := zx_zx a 32
  have c4 := zx_zx b 32
  have hst : stI 62 a b = zx (atI 4 (sx a 32) (sx b 32) (zx (sx a 32) 32) (zx (sx b 32) 32)) 32 := rfl
  rw [hst, c1, c2]
  generalize sx a 32 = x at *
  generalize sx b 32 = y at *
  generalize zx a 32 = u at *
  generalize zx b 32 = v at *
  have z1 := fun q h => refZext_ok q 32 h
  have f1 := f_xor l1 l2
  have f2 := f_or l1 l2
  have w1 := Low_ok l1 l2
  have w2 := Low_ok l2 l1
  have z2 := z1 ((x + y) % 18446744073709551616) (by omega)
  have z3 := z1 (x ^^^ y) (Nat.xor_lt_two_pow (n := 64) l1 l2)
  have z4 := z1 (x &&& y) (Nat.and_lt_two_pow (n := 64) _ l2)
  have z5 := z1 (x ||| y) (Nat.or_lt_two_pow (n := 64) l1 l2)
  have z6 := z1 x l1
  have z7 := z1 y l2
  have z8 := z1 u u1
  have z9 := z1 v u2
  rw [s_fn fn_undertowref08_Stored]
  simp [ir_undertowref08_Stored, go_sem, strV, rS, rZ, hN, hsl, hw, hw2, hw3, hw4, e1, e2, e3, e4, atI, add_u, and_u64 l1 l2, or_u64 l1 l2, f1, f2, w1, w2, z2, z3, z4, z5, z6, z7, z8, z9, -Int.natCast_emod, -Int.natCast_ediv, -Int.natCast_mul, -Int.natCast_pow, -Int.natCast_add]
theorem refStored_63 : evI pg .val n_undertowref08_Stored [.int .i64 63, .int .u64 (a : Int), .int .u64 (b : Int)] [] = some (.int .u64 (stI 63 a b : Nat), []) := by
  have rS : evI pg .val n_undertowref05_Sort [.int .i64 63] [] = some (.int .i64 12, []) := refSort_tab 63 (by decide)
  have rZ : evI pg .val n_undertowref05_Size [.int .i64 63] [] = some (.int .i64 4, []) := refSize_tab 63 (by decide)
  have hN : evI pg .val n_undertowref05_Name [.int .i64 63] [] = some (.str [97, 109, 111, 109, 105, 110, 46, 119], []) := refName_tab 63 (by decide)
  have hsl : ∀ m, slcV 0 m (.str [97, 109, 111, 109, 105, 110, 46, 119]) (some (.int .i64 3)) (some (.int .i64 6)) none = some (.str [109, 105, 110]) := fun _ => by rfl
  have hw : IntKind.i64.wrap (8 * 4) = 32 := by rfl
  have hw2 : IntKind.i64.wrap 32 = 32 := by rfl
  have hw3 : IntKind.i64.wrap (8 - 2) = 6 := by rfl
  have hw4 : IntKind.i64.wrap 6 = 6 := by rfl
  have e1 := refSext_ok a 32 ha
  have e2 := refSext_ok b 32 hb
  have e3 := refZext_ok a 32 ha
  have e4 := refZext_ok b 32 hb
  have l1 := sx_lt a 32 ha
  have l2 := sx_lt b 32 hb
  have u1 := zx_lt (n := 32) ha
  have u2 := zx_lt (n := 32) hb
  have c1 := zx_sx a 32 ha
  have c2 := zx_sx b 32 hb
  have c3 := zx_zx a 32
  have c4 := zx_zx b 32
  have hst : stI 63 a b = zx (atI 5 (sx a 32) (sx b 32) (zx (sx a 32) 32) (zx (sx b 32) 32)) 32 := rfl
  rw [hst, c1, c2]
  generalize sx a 32 = x at *
  generalize sx b 32 = y at *
  generalize zx a 32 = u at *
  generalize zx b 32 = v at *
  have z1 := fun q h => refZext_ok q 32 h
  have f1 := f_xor l1 l2
  have f2 := f_or l1 l2
  have w1 := Low_ok l1 l2
  have w2 := Low_ok l2 l1
  have z2 := z1 ((x + y) % 18446744073709551616) (by omega)
  have z3 := z1 (x ^^^ y) (Nat.xor_lt_two_pow (n := 64) l1 l2)
  have z4 := z1 (x &&& y) (Nat.and_lt_two_pow (n := 64) _ l2)
  have z5 := z1 (x ||| y) (Nat.or_lt_two_pow (n := 64) l1 l2)
  have z6 := z1 x l1
  have z7 := z1 y l2
  have z8 := z1 u u1
  have z9 := z1 v u2
  rw [s_fn fn_undertowref08_Stored]
  cases h : lts x y with
  | true =>
    have h' := asym' l1 l2 h
    simp [ir_undertowref08_Stored, go_sem, strV, rS, rZ, hN, hsl, hw, hw2, hw3, hw4, e1, e2, e3, e4, atI, add_u, and_u64 l1 l2, or_u64 l1 l2, f1, f2, w1, w2, z2, z3, z4, z5, z6, z7, z8, z9, h, h', -Int.natCast_emod, -Int.natCast_ediv, -Int.natCast_mul, -Int.natCast_pow, -Int.natCast_add]
  | false =>
    cases h' : lts y x with
    | true =>
      simp [ir_undertowref08_Stored, go_sem, strV, rS, rZ, hN, hsl, hw, hw2, hw3, hw4, e1, e2, e3, e4, atI, add_u, and_u64 l1 l2, or_u64 l1 l2, f1, f2, w1, w2, z2, z3, z4, z5, z6, z7, z8, z9, h, h', -Int.natCast_emod, -Int.natCast_ediv, -Int.natCast_mul, -Int.natCast_pow, -Int.natCast_add]
    | false =>
      have hxy := anti' l1 l2 h h'
      subst hxy
      simp [ir_undertowref08_Stored, go_sem, strV, rS, rZ, hN, hsl, hw, hw2, hw3, hw4, e1, e2, e3, e4, atI, add_u, and_u64 l1 l2, or_u64 l1 l2, f1, f2, w1, w2, z2, z3, z4, z5, z6, z7, z8, z9, h, h', -Int.natCast_emod, -Int.natCast_ediv, -Int.natCast_mul, -Int.natCast_pow, -Int.natCast_add]
theorem refStored_64 : evI pg .val n_undertowref08_Stored [.int .i64 64, .int .u64 (a : Int), .int .u64 (b : Int)] [] = some (.int .u64 (stI 64 a b : Nat), []) := by
  have rS : evI pg .val n_undertowref05_Sort [.int .i64 64] [] = some (.int .i64 12, []) := refSort_tab 64 (by decide)
  have rZ : evI pg .val n_undertowref05_Size [.int .i64 64] [] = some (.int .i64 4, []) := refSize_tab 64 (by decide)
  have hN : evI pg .val n_undertowref05_Name [.int .i64 64] [] = some (.str [97, 109, 111, 109, 97, 120, 46, 119], []) := refName_tab 64 (by decide)
  have hsl : ∀ m, slcV 0 m (.str [97, 109, 111, 109, 97, 120, 46, 119]) (some (.int .i64 3)) (some (.int .i64 6)) none = some (.str [109, 97, 120]) := fun _ => by rfl
  have hw : IntKind.i64.wrap (8 * 4) = 32 := by rfl
  have hw2 : IntKind.i64.wrap 32 = 32 := by rfl
  have hw3 : IntKind.i64.wrap (8 - 2) = 6 := by rfl
  have hw4 : IntKind.i64.wrap 6 = 6 := by rfl
  have e1 := refSext_ok a 32 ha
  have e2 := refSext_ok b 32 hb
  have e3 := refZext_ok a 32 ha
  have e4 := refZext_ok b 32 hb
  have l1 := sx_lt a 32 ha
  have l2 := sx_lt b 32 hb
  have u1 := zx_lt (n := 32) ha
  have u2 := zx_lt (n := 32) hb
  have c1 := zx_sx a 32 ha
  have c2 := zx_sx b 32 hb
  have c3 := zx_zx a 32
  have c4 := zx_zx b 32
  have hst : stI 64 a b = zx (atI 6 (sx a 32) (sx b 32) (zx (sx a 32) 32) (zx (sx b 32) 32)) 32 := rfl
  rw [hst, c1, c2]
  generalize sx a 32 = x at *
  generalize sx b 32 = y at *
  generalize zx a 32 = u at *
  generalize zx b 32 = v at *
  have z1 := fun q h => refZext_ok q 32 h
  have f1 := f_xor l1 l2
  have f2 := f_or l1 l2
  have w1 := Low_ok l1 l2
  have w2 := Low_ok l2 l1
  have z2 := z1 ((x + y) % 18446744073709551616) (by omega)
  have z3 := z1 (x ^^^ y) (Nat.xor_lt_two_pow (n := 64) l1 l2)
  have z4 := z1 (x &&& y) (Nat.and_lt_two_pow (n := 64) _ l2)
  have z5 := z1 (x ||| y) (Nat.or_lt_two_pow (n := 64) l1 l2)
  have z6 := z1 x l1
  have z7 := z1 y l2
  have z8 := z1 u u1
  have z9 := z1 v u2
  rw [s_fn fn_undertowref08_Stored]
  cases h : lts y x with
  | true =>
    have h' := asym' l2 l1 h
    simp [ir_undertowref08_Stored, go_sem, strV, rS, rZ, hN, hsl, hw, hw2, hw3, hw4, e1, e2, e3, e4, atI, add_u, and_u64 l1 l2, or_u64 l1 l2, f1, f2, w1, w2, z2, z3, z4, z5, z6, z7, z8, z9, h, h', -Int.natCast_emod, -Int.natCast_ediv, -Int.natCast_mul, -Int.natCast_pow, -Int.natCast_add]
  | false =>
    cases h' : lts x y with
    | true =>
      simp [ir_undertowref08_Stored, go_sem, strV, rS, rZ, hN, hsl, hw, hw2, hw3, hw4, e1, e2, e3, e4, atI, add_u, and_u64 l1 l2, or_u64 l1 l2, f1, f2, w1, w2, z2, z3, z4, z5, z6, z7, z8, z9, h, h', -Int.natCast_emod, -Int.natCast_ediv, -Int.natCast_mul, -Int.natCast_pow, -Int.natCast_add]
    | false =>
      have hxy := anti' l2 l1 h h'
      subst hxy
      simp [ir_undertowref08_Stored, go_sem, strV, rS, rZ, hN, hsl, hw, hw2, hw3, hw4, e1, e2, e3, e4, atI, add_u, and_u64 l1 l2, or_u64 l1 l2, f1, f2, w1, w2, z2, z3, z4, z5, z6, z7, z8, z9, h, h', -Int.natCast_emod, -Int.natCast_ediv, -Int.natCast_mul, -Int.natCast_pow, -Int.natCast_add]
theorem refStored_65 : evI pg .val n_undertowref08_Stored [.int .i64 65, .int .u64 (a : Int), .int .u64 (b : Int)] [] = some (.int .u64 (stI 65 a b : Nat), []) := by
  have rS : evI pg .val n_undertowref05_Sort [.int .i64 65] [] = some (.int .i64 12, []) := refSort_tab 65 (by decide)
  have rZ : evI pg .val n_undertowref05_Size [.int .i64 65] [] = some (.int .i64 4, []) := refSize_tab 65 (by decide)
  have hN : evI pg .val n_undertowref05_Name [.int .i64 65] [] = some (.str [97, 109, 111, 109, 105, 110, 117, 46, 119], []) := refName_tab 65 (by decide)
  have hsl : ∀ m, slcV 0 m (.str [97, 109, 111, 109, 105, 110, 117, 46, 119]) (some (.int .i64 3)) (some (.int .i64 7)) none = some (.str [109, 105, 110, 117]) := fun _ => by rfl
  have hw : IntKind.i64.wrap (8 * 4) = 32 := by rfl
  have hw2 : IntKind.i64.wrap 32 = 32 := by rfl
  have hw3 : IntKind.i64.wrap (9 - 2) = 7 := by rfl
  have hw4 : IntKind.i64.wrap 7 = 7 := by rfl
  have e1 := refSext_ok a 32 ha
  have e2 := refSext_ok b 32 hb
  have e3 := refZext_ok a 32 ha
  have e4 := refZext_ok b 32 hb
  have l1 := sx_lt a 32 ha
  have l2 := sx_lt b 32 hb
  have u1 := zx_lt (n := 32) ha
  have u2 := zx_lt (n := 32) hb
  have c1 := zx_sx a 32 ha
  have c2 := zx_sx b 32 hb
  have c3 := zx_zx a 32
  have c4 := zx_zx b 32
  have hst : stI 65 a b = zx (atI 7 (sx a 32) (sx b 32) (zx (sx a 32) 32) (zx (sx b 32) 32)) 32 := rfl
  rw [hst, c1, c2]
  generalize sx a 32 = x at *
  generalize sx b 32 = y at *
  generalize zx a 32 = u at *
  generalize zx b 32 = v at *
  have z1 := fun q h => refZext_ok q 32 h
  have f1 := f_xor l1 l2
  have f2 := f_or l1 l2
  have w1 := Low_ok l1 l2
  have w2 := Low_ok l2 l1
  have z2 := z1 ((x + y) % 18446744073709551616) (by omega)
  have z3 := z1 (x ^^^ y) (Nat.xor_lt_two_pow (n := 64) l1 l2)
  have z4 := z1 (x &&& y) (Nat.and_lt_two_pow (n := 64) _ l2)
  have z5 := z1 (x ||| y) (Nat.or_lt_two_pow (n := 64) l1 l2)
  have z6 := z1 x l1
  have z7 := z1 y l2
  have z8 := z1 u u1
  have z9 := z1 v u2
  rw [s_fn fn_undertowref08_Stored]
  by_cases h : u < v
  · have h' : ¬ v < u := by omega
    simp [ir_undertowref08_Stored, go_sem, strV, rS, rZ, hN, hsl, hw, hw2, hw3, hw4, e1, e2, e3, e4, atI, add_u, and_u64 l1 l2, or_u64 l1 l2, f1, f2, w1, w2, z2, z3, z4, z5, z6, z7, z8, z9, h, h', c1, c2, c3, c4, -Int.natCast_emod, -Int.natCast_ediv, -Int.natCast_mul, -Int.natCast_pow, -Int.natCast_add]
  · by_cases h' : v < u
    · simp [ir_undertowref08_Stored, go_sem, strV, rS, rZ, hN, hsl, hw, hw2, hw3, hw4, e1, e2, e3, e4, atI, add_u, and_u64 l1 l2, or_u64 l1 l2, f1, f2, w1, w2, z2, z3, z4, z5, z6, z7, z8, z9, h, h', c1, c2, c3, c4, -Int.natCast_emod, -Int.natCast_ediv, -Int.natCast_mul, -Int.natCast_pow, -Int.natCast_add]
    · have huv : u = v := by omega
      simp [ir_undertowref08_Stored, go_sem, strV, rS, rZ, hN, hsl, hw, hw2, hw3, hw4, e1, e2, e3, e4, atI, add_u, and_u64 l1 l2, or_u64 l1 l2, f1, f2, w1, w2, z2, z3, z4, z5, z6, z7, z8, z9, h, h', c1, c2, c3, c4, huv, -Int.natCast_emod, -Int.natCast_ediv, -Int.natCast_mul, -Int.natCast_pow, -Int.natCast_add]
      try rw [huv]
      try rw [c4]
      try rw [c3]
theorem refStored_66 : evI pg .val n_undertowref08_Stored [.int .i64 66, .int .u64 (a : Int), .int .u64 (b : Int)] [] = some (.int .u64 (stI 66 a b : Nat), []) := by
  have rS : evI pg .val n_undertowref05_Sort [.int .i64 66] [] = some (.int .i64 12, []) := refSort_tab 66 (by decide)
  have rZ : evI pg .val n_undertowref05_Size [.int .i64 66] [] = some (.int .i64 4, []) := refSize_tab 66 (by decide)
  have hN : evI pg .val n_undertowref05_Name [.int .i64 66] [] = some (.str [97, 109, 111, 109, 97, 120, 117, 46, 119], []) := refName_tab 66 (by decide)
  have hsl : ∀ m, slcV 0 m (.str [97, 109, 111, 109, 97, 120, 117, 46, 119]) (some (.int .i64 3)) (some (.int .i64 7)) none = some (.str [109, 97, 120, 117]) := fun _ => by rfl
  have hw : IntKind.i64.wrap (8 * 4) = 32 := by rfl
  have hw2 : IntKind.i64.wrap 32 = 32 := by rfl
  have hw3 : IntKind.i64.wrap (9 - 2) = 7 := by rfl
  have hw4 : IntKind.i64.wrap 7 = 7 := by rfl
  have e1 := refSext_ok a 32 ha
  have e2 := refSext_ok b 32 hb
  have e3 := refZext_ok a 32 ha
  have e4 := refZext_ok b 32 hb
  have l1 := sx_lt a 32 ha
  have l2 := sx_lt b 32 hb
  have u1 := zx_lt (n := 32) ha
  have u2 := zx_lt (n := 32) hb
  have c1 := zx_sx a 32 ha
  have c2 := zx_sx b 32 hb
  have c3 := zx_zx a 32
  have c4 := zx_zx b 32
  have hst : stI 66 a b = zx (atI 8 (sx a 32) (sx b 32) (zx (sx a 32) 32) (zx (sx b 32) 32)) 32 := rfl
  rw [hst, c1, c2]
  generalize sx a 32 = x at *
  generalize sx b 32 = y at *
  generalize zx a 32 = u at *
  generalize zx b 32 = v at *
  have z1 := fun q h => refZext_ok q 32 h
  have f1 := f_xor l1 l2
  have f2 := f_or l1 l2
  have w1 := Low_ok l1 l2
  have w2 := Low_ok l2 l1
  have z2 := z1 ((x + y) % 18446744073709551616) (by omega)
  have z3 := z1 (x ^^^ y) (Nat.xor_lt_two_pow (n := 64) l1 l2)
  have z4 := z1 (x &&& y) (Nat.and_lt_two_pow (n := 64) _ l2)
  have z5 := z1 (x ||| y) (Nat.or_lt_two_pow (n := 64) l1 l2)
  have z6 := z1 x l1
  have z7 := z1 y l2
  have z8 := z1 u u1
  have z9 := z1 v u2
  rw [s_fn fn_undertowref08_Stored]
  by_cases h : v < u
  · have h' : ¬ u < v := by omega
    simp [ir_undertowref08_Stored, go_sem, strV, rS, rZ, hN, hsl, hw, hw2, hw3, hw4, e1, e2, e3, e4, atI, add_u, and_u64 l1 l2, or_u64 l1 l2, f1, f2, w1, w2, z2, z3, z4, z5, z6, z7, z8, z9, h, h', c1, c2, c3, c4, -Int.natCast_emod, -Int.natCast_ediv, -Int.natCast_mul, -Int.natCast_pow, -Int.natCast_add]
  · by_cases h' : u < v
    · simp [ir_undertowref08_Stored, go_sem, strV, rS, rZ, hN, hsl, hw, hw2, hw3, hw4, e1, e2, e3, e4, atI, add_u, and_u64 l1 l2, or_u64 l1 l2, f1, f2, w1, w2, z2, z3, z4, z5, z6, z7, z8, z9, h, h', c1, c2, c3, c4, -Int.natCast_emod, -Int.natCast_ediv, -Int.natCast_mul, -Int.natCast_pow, -Int.natCast_add]
    · have huv : u = v := by omega
      simp [ir_undertowref08_Stored, go_sem, strV, rS, rZ, hN, hsl, hw, hw2, hw3, hw4, e1, e2, e3, e4, atI, add_u, and_u64 l1 l2, or_u64 l1 l2, f1, f2, w1, w2, z2, z3, z4, z5, z6, z7, z8, z9, h, h', c1, c2, c3, c4, huv, -Int.natCast_emod, -Int.natCast_ediv, -Int.natCast_mul, -Int.natCast_pow, -Int.natCast_add]
      try rw [huv]
      try rw [c4]
      try rw [c3]
theorem refStored_67 : evI pg .val n_undertowref08_Stored [.int .i64 67, .int .u64 (a : Int), .int .u64 (b : Int)] [] = some (.int .u64 (stI 67 a b : Nat), []) := by
  have rS : evI pg .val n_undertowref05_Sort [.int .i64 67] [] = some (.int .i64 12, []) := refSort_tab 67 (by decide)
  have rZ : evI pg .val n_undertowref05_Size [.int .i64 67] [] = some (.int .i64 8, []) := refSize_tab 67 (by decide)
  have hN : evI pg .val n_undertowref05_Name [.int .i64 67] [] = some (.str [97, 109, 111, 115, 119, 97, 112, 46, 100], []) := refName_tab 67 (by decide)
  have hsl : ∀ m, slcV 0 m (.str [97, 109, 111, 115, 119, 97, 112, 46, 100]) (some (.int .i64 3)) (some (.int .i64 7)) none = some (.str [115, 119, 97, 112]) := fun _ => by rfl
  have hw : IntKind.i64.wrap (8 * 8) = 64 := by rfl
  have hw2 : IntKind.i64.wrap 64 = 64 := by rfl
  have hw3 : IntKind.i64.wrap (9 - 2) = 7 := by rfl
  have hw4 : IntKind.i64.wrap 7 = 7 := by rfl
  have e1 := refSext_ok a 64 ha
  have e2 := refSext_ok b 64 hb
  have e3 := refZext_ok a 64 ha
  have e4 := refZext_ok b 64 hb
  have l1 := sx_lt a 64 ha
  have l2 := sx_lt b 64 hb
  have u1 := zx_lt (n := 64) ha
  have u2 := zx_lt (n := 64) hb
  have c1 := zx_sx a 64 ha
  have c2 := zx_sx b 64 hb
  have c3 := zx_zx a 64
  have c4 := zx_zx b 64
  have hst : stI 67 a b = zx (atI 0 (sx a 64) (sx b 64) (zx (sx a 64) 64) (zx (sx b 64) 64)) 64 := rfl
  rw [hst, c1, c2]
  generalize sx a 64 = x at *
  generalize sx b 64 = y at *
  generalize zx a 64 = u at *
  generalize zx b 64 = v at *
  have z1 := fun q h => refZext_ok q 64 h
  have f1 := f_xor l1 l2
  have f2 := f_or l1 l2
  have w1 := Low_ok l1 l2
  have w2 := Low_ok l2 l1
  have z2 := z1 ((x + y) % 18446744073709551616) (by omega)
  have z3 := z1 (x ^^^ y) (Nat.xor_lt_two_pow (n := 64) l1 l2)
  have z4 := z1 (x &&& y) (Nat.and_lt_two_pow (n := 64) _ l2)
  have z5 := z1 (x ||| y) (Nat.or_lt_two_pow (n := 64) l1 l2)
  have z6 := z1 x l1
  have z7 := z1 y l2
  have z8 := z1 u u1
  have z9 := z1 v u2
  rw [s_fn fn_undertowref08_Stored]
  simp [ir_undertowref08_Stored, go_sem, strV, rS, rZ, hN, hsl, hw, hw2, hw3, hw4, e1, e2, e3, e4, atI, add_u, and_u64 l1 l2, or_u64 l1 l2, f1, f2, w1, w2, z2, z3, z4, z5, z6, z7, z8, z9, -Int.natCast_emod, -Int.natCast_ediv, -Int.natCast_mul, -Int.natCast_pow, -Int.natCast_add]
theorem refStored_68 : evI pg .val n_undertowref08_Stored [.int .i64 68, .int .u64 (a : Int), .int .u64 (b : Int)] [] = some (.int .u64 (stI 68 a b : Nat), []) := by
  have rS : evI pg .val n_undertowref05_Sort [.int .i64 68] [] = some (.int .i64 12, []) := refSort_tab 68 (by decide)
  have rZ : evI pg .val n_undertowref05_Size [.int .i64 68] [] = some (.int .i64 8, []) := refSize_tab 68 (by decide)
  have hN : evI pg .val n_undertowref05_Name [.int .i64 68] [] = some (.str [97, 109, 111, 97, 100, 100, 46, 100], []) := refName_tab 68 (by decide)
  have hsl : ∀ m, slcV 0 m (.str [97, 109, 111, 97, 100, 100, 46, 100]) (some (.int .i64 3)) (some (.int .i64 6)) none = some (.str [97, 100, 100]) := fun _ => by rfl
  have hw : IntKind.i64.wrap (8 * 8) = 64 := by rfl
  have hw2 : IntKind.i64.wrap 64 = 64 := by rfl
  have hw3 : IntKind.i64.wrap (8 - 2) = 6 := by rfl
  have hw4 : IntKind.i64.wrap 6 = 6 := by rfl
  have e1 := refSext_ok a 64 ha
  have e2 := refSext_ok b 64 hb
  have e3 := refZext_ok a 64 ha
  have e4 := refZext_ok b 64 hb
  have l1 := sx_lt a 64 ha
  have l2 := sx_lt b 64 hb
  have u1 := zx_lt (n := 64) ha
  have u2 := zx_lt (n := 64) hb
  have c1 := zx_sx a 64 ha
  have c2 := zx_sx b 64 hb
  have c3 := zx_zx a 64
  have c4 := zx_zx b 64
  have hst : stI 68 a b = zx (atI 1 (sx a 64) (sx b 64) (zx (sx a 64) 64) (zx (sx b 64) 64)) 64 := rfl
  rw [hst, c1, c2]
  generalize sx a 64 = x at *
  generalize sx b 64 = y at *
  generalize zx a 64 = u at *
  generalize zx b 64 = v at *
  have z1 := fun q h => refZext_ok q 64 h
  have f1 := f_xor l1 l2
  have f2 := f_or l1 l2
  have w1 := Low_ok l1 l2
  have w2 := Low_ok l2 l1
  have z2 := z1 ((x + y) % 18446744073709551616) (by omega)
  have z3 := z1 (x ^^^ y) (Nat.xor_lt_two_pow (n := 64) l1 l2)
  have z4 := z1 (x &&& y) (Nat.and_lt_two_pow (n := 64) _ l2)
  have z5 := z1 (x ||| y) (Nat.or_lt_two_pow (n := 64) l1 l2)
  have z6 := z1 x l1
  have z7 := z1 y l2
  have z8 := z1 u u1
  have z9 := z1 v u2
  rw [s_fn fn_undertowref08_Stored]
  simp [ir_undertowref08_Stored, go_sem, strV, rS, rZ, hN, hsl, hw, hw2, hw3, hw4, e1, e2, e3, e4, atI, add_u, and_u64 l1 l2, or_u64 l1 l2, f1, f2, w1, w2, z2, z3, z4, z5, z6, z7, z8, z9, -Int.natCast_emod, -Int.natCast_ediv, -Int.natCast_mul, -Int.natCast_pow, -Int.natCast_add]
theorem refStored_69 : evI pg .val n_undertowref08_Stored [.int .i64 69, .int .u64 (a : Int), .int .u64 (b : Int)] [] = some (.int .u64 (stI 69 a b : Nat), []) := by
  have rS : evI pg .val n_undertowref05_Sort [.int .i64 69] [] = some (.int .i64 12, []) := refSort_tab 69 (by decide)
  have rZ : evI pg .val n_undertowref05_Size [.int .i64 69] [] = some (.int .i64 8, []) := refSize_tab 69 (by decide)
  have hN : evI pg .val n_undertowref05_Name [.int .i64 69] [] = some (.str [97, 109, 111, 120, 111, 114, 46, 100], []) := refName_tab 69 (by decide)
  have hsl : ∀ m, slcV 0 m (.str [97, 109, 111, 120, 111, 114, 46, 100]) (some (.int .i64 3)) (some (.int .i64 6)) none = some (.str [120, 111, 114]) := fun _ => by rfl
  have hw : IntKind.i64.wrap (8 * 8) = 64 := by rfl
  have hw2 : IntKind.i64.wrap 64 = 64 := by rfl
  have hw3 : IntKind.i64.wrap (8 - 2) = 6 := by rfl
  have hw4 : IntKind.i64.wrap 6 = 6 := by rfl
  have e1 := refSext_ok a 64 ha
  have e2 := refSext_ok b 64 hb
  have e3 := refZext_ok a 64 ha
  have e4 := refZext_ok b 64 hb
  have l1 := sx_lt a 64 ha
  have l2 := sx_lt b 64 hb
  have u1 := zx_lt (n := 64) ha
  have u2 := zx_lt (n := 64) hb
  have c1 := zx_sx a 64 ha
  have c2 := zx_sx b 64 hb
  have c3 := zx_zx a 64
  have c4 := zx_zx b 64
  have hst : stI 69 a b = zx (atI 2 (sx a 64) (sx b 64) (zx (sx a 64) 64) (zx (sx b 64) 64)) 64 := rfl
  rw [hst, c1, c2]
  generalize sx a 64 = x at *
  generalize sx b 64 = y at *
  generalize zx a 64 = u at *
  generalize zx b 64 = v at *
  have z1 := fun q h => refZext_ok q 64 h
  have f1 := f_xor l1 l2
  have f2 := f_or l1 l2
  have w1 := Low_ok l1 l2
  have w2 := Low_ok l2 l1
  have z2 := z1 ((x + y) % 18446744073709551616) (by omega)
  have z3 := z1 (x ^^^ y) (Nat.xor_lt_two_pow (n := 64) l1 l2)
  have z4 := z1 (x &&& y) (Nat.and_lt_two_pow (n := 64) _ l2)
  have z5 := z1 (x ||| y) (Nat.or_lt_two_pow (n := 64) l1 l2)
  have z6 := z1 x l1
  have z7 := z1 y l2
  have z8 := z1 u u1
  have z9 := z1 v u2
  rw [s_fn fn_undertowref08_Stored]
  simp [ir_undertowref08_Stored, go_sem, strV, rS, rZ, hN, hsl, hw, hw2, hw3, hw4, e1, e2, e3, e4, atI, add_u, and_u64 l1 l2, or_u64 l1 l2, f1, f2, w1, w2, z2, z3, z4, z5, z6, z7, z8, z9, -Int.natCast_emod, -Int.natCast_ediv, -Int.natCast_mul, -Int.natCast_pow, -Int.natCast_add]
theorem refStored_70 : evI pg .val n_undertowref08_Stored [.int .i64 70, .int .u64 (a : Int), .int .u64 (b : Int)] [] = some (.int .u64 (stI 70 a b : Nat), []) := by
  have rS : evI pg .val n_undertowref05_Sort [.int .i64 70] [] = some (.int .i64 12, []) := refSort_tab 70 (by decide)
  have rZ : evI pg .val n_undertowref05_Size [.int .i64 70] [] = some (.int .i64 8, []) := refSize_tab 70 (by decide)
  have hN : evI pg .val n_undertowref05_Name [.int .i64 70] [] = some (.str [97, 109, 111, 97, 110, 100, 46, 100], []) := refName_tab 70 (by decide)
  have hsl : ∀ m, slcV 0 m (.str [97, 109, 111, 97, 110, 100, 46, 100]) (some (.int .i64 3)) (some (.int .i64 6)) none = some (.str [97, 110, 100]) := fun _ => by rfl
  have hw : IntKind.i64.wrap (8 * 8) = 64 := by rfl
  have hw2 : IntKind.i64.wrap 64 = 64 := by rfl
  have hw3 : IntKind.i64.wrap (8 - 2) = 6 := by rfl
  have hw4 : IntKind.i64.wrap 6 = 6 := by rfl
  have e1 := refSext_ok a 64 ha
  have e2 := refSext_ok b 64 hb
  have e3 := refZext_ok a 64 ha
  have e4 := refZext_ok b 64 hb
  have l1 := sx_lt a 64 ha
  have l2 := sx_lt b 64 hb
  have u1 := zx_lt (n := 64) ha
  have u2 := zx_lt (n := 64) hb
  have c1 := zx_sx a 64 ha
  have c2 := zx_sx b 64 hb
  have c3 := zx_zx a 64
  have c4 := zx_zx b 64
  have hst : stI 70 a b = zx (atI 3 (sx a 64) (sx b 64) (zx (sx a 64) 64) (zx (sx b 64) 64)) 64 := rfl
  rw [hst, c1, c2]
  generalize sx a 64 = x at *
  generalize sx b 64 = y at *
  generalize zx a 64 = u at *
  generalize zx b 64 = v at *
  have z1 := fun q h => refZext_ok q 64 h
  have f1 := f_xor l1 l2
  have f2 := f_or l1 l2
  have w1 := Low_ok l1 l2
  have w2 := Low_ok l2 l1
  have z2 := z1 ((x + y) % 18446744073709551616) (by omega)
  have z3 := z1 (x ^^^ y) (Nat.xor_lt_two_pow (n := 64) l1 l2)
  have z4 := z1 (x &&& y) (Nat.and_lt_two_pow (n := 64) _ l2)
  have z5 := z1 (x ||| y) (Nat.or_lt_two_pow (n := 64) l1 l2)
  have z6 := z1 x l1
  have z7 := z1 y l2
  have z8 := z1 u u1
  have z9 := z1 v u2
  rw [s_fn fn_undertowref08_Stored]
  simp [ir_undertowref08_Stored, go_sem, strV, rS, rZ, hN, hsl, hw, hw2, hw3, hw4, e1, e2, e3, e4, atI, add_u, and_u64 l1 l2, or_u64 l1 l2, f1, f2, w1, w2, z2, z3, z4, z5, z6, z7, z8, z9, -Int.natCast_emod, -Int.natCast_ediv, -Int.natCast_mul, -Int.natCast_pow, -Int.natCast_add]
theorem refStored_71 : evI pg .val n_undertowref08_Stored [.int .i64 71, .int .u64 (a : Int), .int .u64 (b : Int)] [] = some (.int .u64 (stI 71 a b : Nat), []) := by
  have rS : evI pg .val n_undertowref05_Sort [.int .i64 71] [] = some (.int .i64 12, []) := refSort_tab 71 (by decide)
  have rZ : evI pg .val n_undertowref05_Size [.int .i64 71] [] = some (.int .i64 8, []) := refSize_tab 71 (by decide)
  have hN : evI pg .val n_undertowref05_Name [.int .i64 71] [] = some (.str [97, 109, 111, 111, 114, 46, 100], []) := refName_tab 71 (by decide)
  have hsl : ∀ m, slcV 0 m (.str [97, 109, 111, 111, 114, 46, 100]) (some (.int .i64 3)) (some (.int .i64 5)) none = some (.str [111, 114]) := fun _ => by rfl
  have hw : IntKind.i64.wrap (8 * 8) = 64 := by rfl
  have hw2 : IntKind.i64.wrap 64 = 64 := by rfl
  have hw3 : IntKind.i64.wrap (7 - 2) = 5 := by rfl
  have hw4 : IntKind.i64.wrap 5 = 5 := by rfl
  have e1 := refSext_ok a 64 ha
  have e2 := refSext_ok b 64 hb
  have e3 := refZext_ok a 64 ha
  have e4 := refZext_ok b 64 hb
  have l1 := sx_lt a 64 ha
  have l2 := sx_lt b 64 hb
  have u1 := zx_lt (n := 64) ha
  have u2 := zx_lt (n := 64) hb
  have c1 := zx_sx a 64 ha
  have c2 := zx_sx b 64 hb
  have c3 := zx_zx a 64
  have c4 := zx_zx b 64
  have hst : stI 71 a b = zx (atI 4 (sx a 64) (sx b 64) (zx (sx a 64) 64) (zx (sx b 64) 64)) 64 := rfl
  rw [hst, c1, c2]
  generalize sx a 64 = x at *
  generalize sx b 64 = y at *
  generalize zx a 64 = u at *
  generalize zx b 64 = v at *
  have z1 := fun q h => refZext_ok q 64 h
  have f1 := f_xor l1 l2
  have f2 := f_or l1 l2
  have w1 := Low_ok l1 l2
  have w2 := Low_ok l2 l1
  have z2 := z1 ((x + y) % 18446744073709551616) (by omega)
  have z3 := z1 (x ^^^ y) (Nat.xor_lt_two_pow (n := 64) l1 l2)
  have z4 := z1 (x &&& y) (Nat.and_lt_two_pow (n := 64) _ l2)
  have z5 := z1 (x ||| y) (Nat.or_lt_two_pow (n := 64) l1 l2)
  have z6 := z1 x l1
  have z7 := z1 y l2
  have z8 := z1 u u1
  have z9 := z1 v u2
  rw [s_fn fn_undertowref08_Stored]
  simp [ir_undertowref08_Stored, go_sem, strV, rS, rZ, hN, hsl, hw, hw2, hw3, hw4, e1, e2, e3, e4, atI, add_u, and_u64 l1 l2, or_u64 l1 l2, f1, f2, w1, w2, z2, z3, z4, z5, z6, z7, z8, z9, -Int.natCast_emod, -Int.natCast_ediv, -Int.natCast_mul, -Int.natCast_pow, -Int.natCast_add]
theorem refStored_72 : evI pg .val n_undertowref08_Stored [.int .i64 72, .int .u64 (a : Int), .int .u64 (b : Int)] [] = some (.int .u64 (stI 72 a b : Nat), []) := by
  have rS : evI pg .val n_undertowref05_Sort [.int .i64 72] [] = some (.int .i64 12, []) := refSort_tab 72 (by decide)
  have rZ : evI pg .val n_undertowref05_Size [.int .i64 72] [] = some (.int .i64 8, []) := refSize_tab 72 (by decide)
  have hN : evI pg .val n_undertowref05_Name [.int .i64 72] [] = some (.str [97, 109, 111, 109, 105, 110, 46, 100], []) := refName_tab 72 (by decide)
  have hsl : ∀ m, slcV 0 m (.str [97, 109, 111, 109, 105, 110, 46, 100]) (some (.int .i64 3)) (some (.int .i64 6)) none = some (.str [109, 105, 110]) := fun _ => by rfl
  have hw : IntKind.i64.wrap (8 * 8) = 64 := by rfl
  have hw2 : IntKind.i64.wrap 64 = 64 := by rfl
  have hw3 : IntKind.i64.wrap (8 - 2) = 6 := by rfl
  have hw4 : IntKind.i64.wrap 6 = 6 := by rfl
  have e1 := refSext_ok a 64 ha
  have e2 := refSext_ok b 64 hb
  have e3 := refZext_ok a 64 ha
  have e4 := refZext_ok b 64 hb
  have l1 := sx_lt a 64 ha
  have l2 := sx_lt b 64 hb
  have u1 := zx_lt (n := 64) ha
  have u2 := zx_lt (n := 64) hb
  have c1 := zx_sx a 64 ha
  have c2 := zx_sx b 64 hb
  have c3 := zx_zx a 64
  have c4 := zx_zx b 64
  have hst : stI 72 a b = zx (atI 5 (sx a 64) (sx b 64) (zx (sx a 64) 64) (zx (sx b 64) 64)) 64 := rfl
  rw [hst, c1, c2]
  generalize sx a 64 = x at *
  generalize sx b 64 = y at *
  generalize zx a 64 = u at *
  generalize zx b 64 = v at *
  have z1 := fun q h => refZext_ok q 64 h
  have f1 := f_xor l1 l2
  have f2 := f_or l1 l2
  have w1 := Low_ok l1 l2
  have w2 := Low_ok l2 l1
  have z2 := z1 ((x + y) % 18446744073709551616) (by omega)
  have z3 := z1 (x ^^^ y) (Nat.xor_lt_two_pow (n := 64) l1 l2)
  have z4 := z1 (x &&& y) (Nat.and_lt_two_pow (n := 64) _ l2)
  have z5 := z1 (x ||| y) (Nat.or_lt_two_pow (n := 64) l1 l2)
  have z6 := z1 x l1
  have z7 := z1 y l2
  have z8 := z1 u u1
  have z9 := z1 v u2
  rw [s_fn fn_undertowref08_Stored]
  cases h : lts x y with
  | true =>
    have h' := asym' l1 l2 h
    simp [ir_undertowref08_Stored, go_sem, strV, rS, rZ, hN, hsl, hw, hw2, hw3, hw4, e1, e2, e3, e4, atI, add_u, and_u64 l1 l2, or_u64 l1 l2, f1, f2, w1, w2, z2, z3, z4, z5, z6, z7, z8, z9, h, h', -Int.natCast_emod, -Int.natCast_ediv, -Int.natCast_mul, -Int.natCast_pow, -Int.natCast_add]
  | false =>
    cases h' : lts y x with
    | true =>
      simp [ir_undertowref08_Stored, go_sem, strV, rS, rZ, hN, hsl, hw, hw2, hw3, hw4, e1, e2, e3, e4, atI, add_u, and_u64 l1 l2, or_u64 l1 l2, f1, f2, w1, w2, z2, z3, z4, z5, z6, z7, z8, z9, h, h', -Int.natCast_emod, -Int.natCast_ediv, -Int.natCast_mul, -Int.natCast_pow, -Int.natCast_add]
    | false =>
      have hxy := anti' l1 l2 h h'
      subst hxy
      simp [ir_undertowref08_Stored, go_sem, strV, rS, rZ, hN, hsl, hw, hw2, hw3, hw4, e1, e2, e3, e4, atI, add_u, and_u64 l1 l2, or_u64 l1 l2, f1, f2, w1, w2, z2, z3, z4, z5, z6, z7, z8, z9, h, h', -Int.natCast_emod, -Int.natCast_ediv, -Int.natCast_mul, -Int.natCast_pow, -Int.natCast_add]
theorem refStored_73 : evI pg .val n_undertowref08_Stored [.int .i64 73, .int .u64 (a : Int), .int .u64 (b : Int)] [] = some (.int .u64 (stI 73 a b : Nat), []) := by
  have rS : evI pg .val n_undertowref05_Sort [.int .i64 73] [] = some (.int .i64 12, []) := refSort_tab 73 (by decide)
  have rZ : evI pg .val n_undertowref05_Size [.int .i64 73] [] = some (.int .i64 8, []) := refSize_tab 73 (by decide)
  have hN : evI pg .val n_undertowref05_Name [.int .i64 73] [] = some (.str [97, 109, 111, 109, 97, 120, 46, 100], []) := refName_tab 73 (by decide)
  have hsl : ∀ m, slcV 0 m (.str [97, 109, 111, 109, 97, 120, 46, 100]) (some (.int .i64 3)) (some (.int .i64 6)) none = some (.str [109, 97, 120]) := fun _ => by rfl
  have hw : IntKind.i64.wrap (8 * 8) = 64 := by rfl
  have hw2 : IntKind.i64.wrap 64 = 64 := by rfl
  have hw3 : IntKind.i64.wrap (8 - 2) = 6 := by rfl
  have hw4 : IntKind.i64.wrap 6 = 6 := by rfl
  have e1 := refSext_ok a 64 ha
  have e2 := refSext_ok b 64 hb
  have e3 := refZext_ok a 64 ha
  have e4 := refZext_ok b 64 hb
  have l1 := sx_lt a 64 ha
  have l2 := sx_lt b 64 hb
  have u1 := zx_lt (n := 64) ha
  have u2 := zx_lt (n := 64) hb
  have c1 := zx_sx a 64 ha
  have c2 := zx_sx b 64 hb
  have c3 := zx_zx a 64
  have c4 := zx_zx b 64
  have hst : stI 73 a b = zx (atI 6 (sx a 64) (sx b 64) (zx (sx a 64) 64) (zx (sx b 64) 64)) 64 := rfl
  rw [hst, c1, c2]
  generalize sx a 64 = x at *
  generalize sx b 64 = y at *
  generalize zx a 64 = u at *
  generalize zx b 64 = v at *
  have z1 := fun q h => refZext_ok q 64 h
  have f1 := f_xor l1 l2
  have f2 := f_or l1 l2
  have w1 := Low_ok l1 l2
  have w2 := Low_ok l2 l1
  have z2 := z1 ((x + y) % 18446744073709551616) (by omega)
  have z3 := z1 (x ^^^ y) (Nat.xor_lt_two_pow (n := 64) l1 l2)
  have z4 := z1 (x &&& y) (Nat.and_lt_two_pow (n := 64) _ l2)
  have z5 := z1 (x ||| y) (Nat.or_lt_two_pow (n := 64) l1 l2)
  have z6 := z1 x l1
  have z7 := z1 y l2
  have z8 := z1 u u1
  have z9 := z1 v u2
  rw [s_fn fn_undertowref08_Stored]
  cases h : lts y x with
  | true =>
    have h' := asym' l2 l1 h
    simp [ir_undertowref08_Stored, go_sem, strV, rS, rZ, hN, hsl, hw, hw2, hw3, hw4, e1, e2, e3, e4, atI, add_u, and_u64 l1 l2, or_u64 l1 l2, f1, f2, w1, w2, z2, z3, z4, z5, z6, z7, z8, z9, h, h', -Int.natCast_emod, -Int.natCast_ediv, -Int.natCast_mul, -Int.natCast_pow, -Int.natCast_add]
  | false =>
    cases h' : lts x y with
    | true =>
      simp [ir_undertowref08_Stored, go_sem, strV, rS, rZ, hN, hsl, hw, hw2, hw3, hw4, e1, e2, e3, e4, atI, add_u, and_u64 l1 l2, or_u64 l1 l2, f1, f2, w1, w2, z2, z3, z4, z5, z6, z7, z8, z9, h, h', -Int.natCast_emod, -Int.natCast_ediv, -Int.natCast_mul, -Int.natCast_pow, -Int.natCast_add]
    | false =>
      have hxy := anti' l2 l1 h h'
      subst hxy
      simp [ir_undertowref08_Stored, go_sem, strV, rS, rZ, hN, hsl, hw, hw2, hw3, hw4, e1, e2, e3, e4, atI, add_u, and_u64 l1 l2, or_u64 l1 l2, f1, f2, w1, w2, z2, z3, z4, z5, z6, z7, z8, z9, h, h', -Int.natCast_emod, -Int.natCast_ediv, -Int.natCast_mul, -Int.natCast_pow, -Int.natCast_add]
theorem refStored_74 : evI pg .val n_undertowref08_Stored [.int .i64 74, .int .u64 (a : Int), .int .u64 (b : Int)] [] = some (.int .u64 (stI 74 a b : Nat), []) := by
  have rS : evI pg .val n_undertowref05_Sort [.int .i64 74] [] = some (.int .i64 12, []) := refSort_tab 74 (by decide)
  have rZ : evI pg .val n_undertowref05_Size [.int .i64 74] [] = some (.int .i64 8, []) := refSize_tab 74 (by decide)
  have hN : evI pg .val n_undertowref05_Name [.int .i64 74] [] = some (.str [97, 109, 111, 109, 105, 110, 117, 46, 100], []) := refName_tab 74 (by decide)
  have hsl : ∀ m, slcV 0 m (.str [97, 109, 111, 109, 105, 110, 117, 46, 100]) (some (.int .i64 3)) (some (.int .i64 7)) none = some (.str [109, 105, 110, 117]) := fun _ => by rfl
  have hw : IntKind.i64.wrap (8 * 8) = 64 := by rfl
  have hw2 : IntKind.i64.wrap 64 = 64 := by rfl
  have hw3 : IntKind.i64.wrap (9 - 2) = 7 := by rfl
  have hw4 : IntKind.i64.wrap 7 = 7 := by rfl
  have e1 := refSext_ok a 64 ha
  have e2 := refSext_ok b 64 hb
  have e3 := refZext_ok a 64 ha
  have e4 := refZext_ok b 64 hb
  have l1 := sx_lt a 64 ha
  have l2 := sx_lt b 64 hb
  have u1 := zx_lt (n := 64) ha
  have u2 := zx_lt (n := 64) hb
  have c1 := zx_sx a 64 ha
  have c2 := zx_sx b 64 hb
  have c3 := zx_zx a 64
  have c4 := zx_zx b 64
  have hst : stI 74 a b = zx (atI 7 (sx a 64) (sx b 64) (zx (sx a 64) 64) (zx (sx b 64) 64)) 64 := rfl
  rw [hst, c1, c2]
  generalize sx a 64 = x at *
  generalize sx b 64 = y at *
  generalize zx a 64 = u at *
  generalize zx b 64 = v at *
  have z1 := fun q h => refZext_ok q 64 h
  have f1 := f_xor l1 l2
  have f2 := f_or l1 l2
  have w1 := Low_ok l1 l2
  have w2 := Low_ok l2 l1
  have z2 := z1 ((x + y) % 18446744073709551616) (by omega)
  have z3 := z1 (x ^^^ y) (Nat.xor_lt_two_pow (n := 64) l1 l2)
  have z4 := z1 (x &&& y) (Nat.and_lt_two_pow (n := 64) _ l2)
  have z5 := z1 (x ||| y) (Nat.or_lt_two_pow (n := 64) l1 l2)
  have z6 := z1 x l1
  have z7 := z1 y l2
  have z8 := z1 u u1
  have z9 := z1 v u2
  rw [s_fn fn_undertowref08_Stored]
  by_cases h : u < v
  · have h' : ¬ v < u := by omega
    simp [ir_undertowref08_Stored, go_sem, strV, rS, rZ, hN, hsl, hw, hw2, hw3, hw4, e1, e2, e3, e4, atI, add_u, and_u64 l1 l2, or_u64 l1 l2, f1, f2, w1, w2, z2, z3, z4, z5, z6, z7, z8, z9, h, h', c1, c2, c3, c4, -Int.natCast_emod, -Int.natCast_ediv, -Int.natCast_mul, -Int.natCast_pow, -Int.natCast_add]
  · by_cases h' : v < u
    · simp [ir_undertowref08_Stored, go_sem, strV, rS, rZ, hN, hsl, hw, hw2, hw3, hw4, e1, e2, e3, e4, atI, add_u, and_u64 l1 l2, or_u64 l1 l2, f1, f2, w1, w2, z2, z3, z4, z5, z6, z7, z8, z9, h, h', c1, c2, c3, c4, -Int.natCast_emod, -Int.natCast_ediv, -Int.natCast_mul, -Int.natCast_pow, -Int.natCast_add]
    · have huv : u = v := by omega
      simp [ir_undertowref08_Stored, go_sem, strV, rS, rZ, hN, hsl, hw, hw2, hw3, hw4, e1, e2, e3, e4, atI, add_u, and_u64 l1 l2, or_u64 l1 l2, f1, f2, w1, w2, z2, z3, z4, z5, z6, z7, z8, z9, h, h', c1, c2, c3, c4, huv, -Int.natCast_emod, -Int.natCast_ediv, -Int.natCast_mul, -Int.natCast_pow, -Int.natCast_add]
      try rw [huv]
      try rw [c4]
      try rw [c3]
theorem refStored_75 : evI pg .val n_undertowref08_Stored [.int .i64 75, .int .u64 (a : Int), .int .u64 (b : Int)] [] = some (.int .u64 (stI 75 a b : Nat), []) := by
  have rS : evI pg .val n_undertowref05_Sort [.int .i64 75] [] = some (.int .i64 12, []) := refSort_tab 75 (by decide)
  have rZ : evI pg .val n_undertowref05_Size [.int .i64 75] [] = some (.int .i64 8, []) := refSize_tab 75 (by decide)
  have hN : evI pg .val n_undertowref05_Name [.int .i64 75] [] = some (.str [97, 109, 111, 109, 97, 120, 117, 46, 100], []) := refName_tab 75 (by decide)
  have hsl : ∀ m, slcV 0 m (.str [97, 109, 111, 109, 97, 120, 117, 46, 100]) (some (.int .i64 3)) (some (.int .i64 7)) none = some (.str [109, 97, 120, 117]) := fun _ => by rfl
  have hw : IntKind.i64.wrap (8 * 8) = 64 := by rfl
  have hw2 : IntKind.i64.wrap 64 = 64 := by rfl
  have hw3 : IntKind.i64.wrap (9 - 2) = 7 := by rfl
  have hw4 : IntKind.i64.wrap 7 = 7 := by rfl
  have e1 := refSext_ok a 64 ha
  have e2 := refSext_ok b 64 hb
  have e3 := refZext_ok a 64 ha
  have e4 := refZext_ok b 64 hb
  have l1 := sx_lt a 64 ha
  have l2 := sx_lt b 64 hb
  have u1 := zx_lt (n := 64) ha
  have u2 := zx_lt (n := 64) hb
  have c1 := zx_sx a 64 ha
  have c2 := zx_sx b 64 hb
  have c3 := zx_zx a 64
  have c4 := zx_zx b 64
  have hst : stI 75 a b = zx (atI 8 (sx a 64) (sx b 64) (zx (sx a 64) 64) (zx (sx b 64) 64)) 64 := rfl
  rw [hst, c1, c2]
  generalize sx a 64 = x at *
  generalize sx b 64 = y at *
  generalize zx a 64 = u at *
  generalize zx b 64 = v at *
  have z1 := fun q h => refZext_ok q 64 h
  have f1 := f_xor l1 l2
  have f2 := f_or l1 l2
  have w1 := Low_ok l1 l2
  have w2 := Low_ok l2 l1
  have z2 := z1 ((x + y) % 18446744073709551616) (by omega)
  have z3 := z1 (x ^^^ y) (Nat.xor_lt_two_pow (n := 64) l1 l2)
  have z4 := z1 (x &&& y) (Nat.and_lt_two_pow (n := 64) _ l2)
  have z5 := z1 (x ||| y) (Nat.or_lt_two_pow (n := 64) l1 l2)
  have z6 := z1 x l1
  have z7 := z1 y l2
  have z8 := z1 u u1
  have z9 := z1 v u2
  rw [s_fn fn_undertowref08_Stored]
  by_cases h : v < u
  · have h' : ¬ u < v := by omega
    simp [ir_undertowref08_Stored, go_sem, strV, rS, rZ, hN, hsl, hw, hw2, hw3, hw4, e1, e2, e3, e4, atI, add_u, and_u64 l1 l2, or_u64 l1 l2, f1, f2, w1, w2, z2, z3, z4, z5, z6, z7, z8, z9, h, h', c1, c2, c3, c4, -Int.natCast_emod, -Int.natCast_ediv, -Int.natCast_mul, -Int.natCast_pow, -Int.natCast_add]
  · by_cases h' : u < v
    · simp [ir_undertowref08_Stored, go_sem, strV, rS, rZ, hN, hsl, hw, hw2, hw3, hw4, e1, e2, e3, e4, atI, add_u, and_u64 l1 l2, or_u64 l1 l2, f1, f2, w1, w2, z2, z3, z4, z5, z6, z7, z8, z9, h, h', c1, c2, c3, c4, -Int.natCast_emod, -Int.natCast_ediv, -Int.natCast_mul, -Int.natCast_pow, -Int.natCast_add]
    · have huv : u = v := by omega
      simp [ir_undertowref08_Stored, go_sem, strV, rS, rZ, hN, hsl, hw, hw2, hw3, hw4, e1, e2, e3, e4, atI, add_u, and_u64 l1 l2, or_u64 l1 l2, f1, f2, w1, w2, z2, z3, z4, z5, z6, z7, z8, z9, h, h', c1, c2, c3, c4, huv, -Int.natCast_emod, -Int.natCast_ediv, -Int.natCast_mul, -Int.natCast_pow, -Int.natCast_add]
      try rw [huv]
      try rw [c4]
      try rw [c3]
theorem Stored_no {op z : Int} {q : Nat} (hS : evI pg .val n_ops_Sort [.int .i64 op] [] = some (.int .i64 (q : Nat), [])) (hZ : evI pg .val n_ops_Size [.int .i64 op] [] = some (.int .i64 z, []))
    (rS : evI pg .val n_undertowref05_Sort [.int .i64 op] [] = some (.int .i64 (q : Nat), [])) (rZ : evI pg .val n_undertowref05_Size [.int .i64 op] [] = some (.int .i64 z, [])) (h12 : q ≠ 12) :
    ∃ r : Nat, evI pg .val n_alu_Stored [.int .i64 op, .int .u64 (a : Int), .int .u64 (b : Int)] [] = some (.int .u64 (r : Int), []) ∧ evI pg .val n_undertowref08_Stored [.int .i64 op, .int .u64 (a : Int), .int .u64 (b : Int)] [] = some (.int .u64 (r : Int), []) := by
  have e12 : ¬ ((q : Int) = 12) := by omega
  by_cases h5 : (q : Int) = 5 ∨ (q : Int) = 11
  · refine ⟨zx b (IntKind.i64.wrap (8 * z)), ?_, ?_⟩
    · rw [s_fn fn_alu_Stored]
      rcases h5 with h5 | h5 <;> simp [ir_alu_Stored, go_sem, hS, hZ, h5, Zext_ok b _ hb]
    · rw [s_fn fn_undertowref08_Stored]
      rcases h5 with h5 | h5 <;> simp [ir_undertowref08_Stored, go_sem, rS, rZ, h5, refZext_ok b _ hb]
  · have e5 : ¬ ((q : Int) = 5) := fun h => h5 (.inl h)
    have e11 : ¬ ((q : Int) = 11) := fun h => h5 (.inr h)
    refine ⟨0, ?_, ?_⟩
    · rw [s_fn fn_alu_Stored]
      simp [ir_alu_Stored, go_sem, hS, hZ, e5, e11, e12]
    · rw [s_fn fn_undertowref08_Stored]
      simp [ir_undertowref08_Stored, go_sem, rS, rZ, e5, e11, e12]
end
end Go.Proofs.Ytffbhbjnkecieaa
