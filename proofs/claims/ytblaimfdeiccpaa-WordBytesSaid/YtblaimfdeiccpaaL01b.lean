/- The bytes of every word, and the word of all bytes, are the document's: the law WordBytes returns true whatever it is handed. No condition. -/
import Derived.Test.YtblaimfdeiccpaaK01d
import Derived.Test.YtblaimfdeiccpaaRows
set_option linter.unusedSimpArgs false
set_option linter.unusedVariables false
namespace Go.Proofs.Ytblaimfdeiccpaa.lawBytes
open Go Go.Vm
theorem alive_ok : evI pg .val n_undertowlaw01_alive [] [] = some (.bool true, []) := closed irL_ok 100 (by kernel_rfl)
theorem true_ (x : Nat) (n : Int) (b : V) (z : Nat) (hx : x < 18446744073709551616) (hb : b = .nils ∨ ∃ l, b = .isl false l) (h1 : evI pg .val n_word_Of [b] [] = some (.int .u64 z, [])) (h2 : evI pg .val n_undertowref01_Of [b] [] = some (.int .u64 z, [])) :
    evI pg .val n_undertowlaw01_WordBytes [.int .u64 x, .int .i64 n, b] [] = some (.bool true, []) := by
  have h3 := SameBytes_ok (byl x (clm n)) (by rw [byl_len]; have := clm_le n; omega)
  rw [s_fn fn_undertowlaw01_WordBytes]
  rcases hb with rfl | ⟨l, rfl⟩
  · simp [ir_undertowlaw01_WordBytes, go_sem, alive_ok, Bytes_ok x n hx, refBytes_ok x n hx, h1, h2, h3]
  · simp [ir_undertowlaw01_WordBytes, go_sem, alive_ok, Bytes_ok x n hx, refBytes_ok x n hx, h1, h2, h3]
theorem law : ∀ vs, PArgs Try.prog 6 Try.f6.params.toList vs → ∃ k, evF pg k .val 6 vs [] = some (.bool true, []) := by
  intro vs h
  obtain ⟨v1, _, rfl, h1, v2, _, rfl, h2, v3, _, rfl, h3, rfl⟩ := h
  obtain ⟨x, rfl, hx'⟩ := arg_u64 Try.underlying22 h1
  obtain ⟨n, rfl, _⟩ := arg_i64 Try.underlying3 h2
  rcases arg_bytes Try.underlying31 Try.underlying5 h3 with rfl | ⟨l, hb, hl, rfl⟩
  · exact (evI_iff (hx _ _)).1 (true_ x n .nils 0 hx' (.inl rfl) Of_nil refOf_nil)
  · have hl' : l.length ≤ 9223372036854775807 := by unfold maxLen at hl; omega
    exact (evI_iff (hx _ _)).1 (true_ x n _ _ hx' (.inr ⟨_, rfl⟩) (Of_ok l hb hl') (refOf_ok l hb hl'))
end Go.Proofs.Ytblaimfdeiccpaa.lawBytes
