import Derived.Test.YtahcbcgakadfpaaUB
namespace Go.Tm
/-! ### Laws of a few cases: a number's low bits decide -/
section
variable {P : Program} {t : TypeId} {x y : Operand} {a b : Int}
theorem bin_and' : binC P .and t x y (.v (.int .i64 a)) (.v (.int .i64 b)) = some (.v (.int .i64 (bits .and .i64 a b))) := rfl
theorem bin_rem' (h : b ≠ 0) : binC P .rem t x y (.v (.int .i64 a)) (.v (.int .i64 b)) = some (.v (.int .i64 (Int.tmod a b))) := by
  cases b with
  | ofNat b => cases b with
    | zero => exact absurd rfl h
    | succ b => rfl
  | negSucc b => rfl
end
theorem i64_and255 (n : Int) : 0 ≤ Go.bits .and .i64 n 255 ∧ Go.bits .and .i64 n 255 ≤ 255 ∧ (0 ≤ n → n ≤ 255 → Go.bits .and .i64 n 255 = n) := by
  have h : (BitVec.ofInt 64 255).toNat = 2 ^ 8 - 1 := by decide
  have key : (BitVec.ofInt 64 n &&& BitVec.ofInt 64 255).toNat = (n % ((2 ^ 64 : Nat) : Int)).toNat % 2 ^ 8 := by
    rw [BitVec.toNat_and, BitVec.toNat_ofInt, h, Nat.and_two_pow_sub_one_eq_mod]
  have e : Go.bits .and .i64 n 255 = n % 256 := by
    show IntKind.i64.wrap ((BitVec.ofInt 64 n &&& BitVec.ofInt 64 255).toNat : Nat) = n % 256
    rw [key, IntKind.wrap_i64]
    omega
  omega
/-- The number that the low bits are, below n. -/
def low (x : Int) (n : Nat) : Int := Int.tmod (Go.bits .and .i64 x 255) n
theorem low_range (x : Int) {n : Nat} (h : 0 < n) : 0 ≤ low x n ∧ low x n < n := ⟨Int.tmod_nonneg _ (i64_and255 x).1, Int.tmod_lt_of_pos _ (by omega)⟩
theorem low_low (x : Int) {n : Nat} (h : 0 < n) (h2 : n ≤ 256) : low (low x n) n = low x n := by
  obtain ⟨h3, h4⟩ := low_range x h
  unfold low at h3 h4 ⊢
  rw [(i64_and255 _).2.2 h3 (by omega)]
  exact Int.tmod_eq_of_lt h3 h4
/-- A number's case. -/
theorem low_cases (x : Int) {n : Nat} (h : 0 < n) : ∃ j : Nat, j < n ∧ low x n = (j : Int) := ⟨(low x n).toNat, by have := low_range x h; omega, by have := low_range x h; omega⟩
theorem seq_step {P : Program} {vals : FuncId → Bool} {call : CallF} {n : Nat} {A R : K} {s s' t t' : St} (h1 : exec P vals call n A s = some (.normal, t)) (h2 : exec P vals call n A s' = some (.normal, t')) (h3 : exec P vals call n R t = exec P vals call n R t') : exec P vals call n (.seq A R) s = exec P vals call n (.seq A R) s' := by
  simp only [exec, h1, h2]
  exact h3
theorem callAt_same {P : Program} {tab : Tab} {f : FuncId} {K : K} {m : Mode} {fn : Go.Func} {n : Nat} {cs cs' : List C} (h1 : tab f = some (K, m)) (h2 : P.funcs[f]? = some fn) (hl : cs.length = cs'.length) (hv : mapC (view false [] depth) cs = some cs) (hv' : mapC (view false [] depth) cs' = some cs') (hm : m = .val)
    (he : exec P (valsOf tab) (callAt P tab n) n K ⟨enterE 0 cs, []⟩ = exec P (valsOf tab) (callAt P tab n) n K ⟨enterE 0 cs', []⟩) : callAt P tab (n + 1) f cs [] = callAt P tab (n + 1) f cs' [] := by
  subst hm
  simp only [callAt, h1, h2, byVal, hv, hv', body, hl, he]
end Go.Tm
