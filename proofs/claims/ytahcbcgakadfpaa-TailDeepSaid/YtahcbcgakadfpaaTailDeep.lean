import Derived.Test.YtahcbcgakadfpaaTailDeep1
import Derived.Test.YtahcbcgakadfpaaTailDeep2
import Derived.Test.YtahcbcgakadfpaaTailDeep3
import Derived.Test.YtahcbcgakadfpaaTailDeep4
import Derived.Test.YtahcbcgakadfpaaUC
set_option linter.unusedSimpArgs false
namespace Go.Proofs.Ytahcbcgakadfpaa.Td
open Go.Tm Go.Tm.Tab Go.Tm.V
set_option maxRecDepth 100000
theorem i64_and63 (n : Int) : Go.bits .and .i64 n 63 = n % 64 := by
  have h : (BitVec.ofInt 64 63).toNat = 2 ^ 6 - 1 := by decide
  have key : (BitVec.ofInt 64 n &&& BitVec.ofInt 64 63).toNat = (n % ((2 ^ 64 : Nat) : Int)).toNat % 2 ^ 6 := by
    rw [BitVec.toNat_and, BitVec.toNat_ofInt, h, Nat.and_two_pow_sub_one_eq_mod]
  show IntKind.i64.wrap ((BitVec.ofInt 64 n &&& BitVec.ofInt 64 63).toNat : Nat) = n % 64
  rw [key, IntKind.wrap_i64]
  omega
theorem first : callAt Try.prog tab 4999 16 [] [] = some (bool true, []) := run_at (cs := []) (c := W.b true) (by kernel_rfl)
theorem deep_low (x : Int) : callAt Try.prog tab 5000 5 [int x] [] = callAt Try.prog tab 5000 5 [int (x % 64)] [] := by
  refine callAt_same (K := k5) rfl Try.func5 rfl rfl rfl rfl ?_
  unfold k5
  have r : ∀ y w h, exec Try.prog (valsOf tab) (callAt Try.prog tab 4999) 4999 (.reg [i 11 (.move (t 0)), i 12 (.binOp .and 3 (t 11) (n 63) 3), i 0 (.assign (t 12))] [0]) ⟨[(0, int y), (10, w)], h⟩ = some (.normal, ⟨[(0, int (y % 64))], h⟩) := fun y w h => by
    rw [← i64_and63]
    simp (decide := true) (implicitDefEqProofs := false) only [go_sem, bin_and']
  refine seq_step (by simp (decide := true) (implicitDefEqProofs := false) only [go_sem]; rfl) (by simp (decide := true) (implicitDefEqProofs := false) only [go_sem]; rfl) ?_
  refine seq_step (by simp (decide := true) (implicitDefEqProofs := false) only [go_sem, first]; rfl) (by simp (decide := true) (implicitDefEqProofs := false) only [go_sem, first]; rfl) ?_
  refine seq_step (r ..) (r ..) ?_
  rw [show x % 64 % 64 = x % 64 by omega]
theorem tailDeep (x : Int) : callAt Try.prog tab 5000 5 [int x] [] = some (bool true, []) := by
  rw [deep_low]
  obtain ⟨j, hj, e⟩ : ∃ j : Nat, j < 64 ∧ x % 64 = (j : Int) := ⟨(x % 64).toNat, by omega, by omega⟩
  rw [e]
  clear e
  rcases Nat.lt_or_ge j 32 with h32 | h32
  · skip
    rcases Nat.lt_or_ge j 16 with h16 | h16
    · skip
      rcases Nat.lt_or_ge j 8 with h8 | h8
      · skip
        rcases Nat.lt_or_ge j 4 with h4 | h4
        · skip
          rcases Nat.lt_or_ge j 2 with h2 | h2
          · skip
            rcases Nat.lt_or_ge j 1 with h1 | h1
            · skip
              obtain rfl : j = 0 := by omega
              exact deep0
            · skip
              obtain rfl : j = 1 := by omega
              exact deep1
          · skip
            rcases Nat.lt_or_ge j 3 with h3 | h3
            · skip
              obtain rfl : j = 2 := by omega
              exact deep2
            · skip
              obtain rfl : j = 3 := by omega
              exact deep3
        · skip
          rcases Nat.lt_or_ge j 6 with h6 | h6
          · skip
            rcases Nat.lt_or_ge j 5 with h5 | h5
            · skip
              obtain rfl : j = 4 := by omega
              exact deep4
            · skip
              obtain rfl : j = 5 := by omega
              exact deep5
          · skip
            rcases Nat.lt_or_ge j 7 with h7 | h7
            · skip
              obtain rfl : j = 6 := by omega
              exact deep6
            · skip
              obtain rfl : j = 7 := by omega
              exact deep7
      · skip
        rcases Nat.lt_or_ge j 12 with h12 | h12
        · skip
          rcases Nat.lt_or_ge j 10 with h10 | h10
          · skip
            rcases Nat.lt_or_ge j 9 with h9 | h9
            · skip
              obtain rfl : j = 8 := by omega
              exact deep8
            · skip
              obtain rfl : j = 9 := by omega
              exact deep9
          · skip
            rcases Nat.lt_or_ge j 11 with h11 | h11
            · skip
              obtain rfl : j = 10 := by omega
              exact deep10
            · skip
              obtain rfl : j = 11 := by omega
              exact deep11
        · skip
          rcases Nat.lt_or_ge j 14 with h14 | h14
          · skip
            rcases Nat.lt_or_ge j 13 with h13 | h13
            · skip
              obtain rfl : j = 12 := by omega
              exact deep12
            · skip
              obtain rfl : j = 13 := by omega
              exact deep13
          · skip
            rcases Nat.lt_or_ge j 15 with h15 | h15
            · skip
              obtain rfl : j = 14 := by omega
              exact deep14
            · skip
              obtain rfl : j = 15 := by omega
              exact deep15
    · skip
      rcases Nat.lt_or_ge j 24 with h24 | h24
      · skip
        rcases Nat.lt_or_ge j 20 with h20 | h20
        · skip
          rcases Nat.lt_or_ge j 18 with h18 | h18
          · skip
            rcases Nat.lt_or_ge j 17 with h17 | h17
            · skip
              obtain rfl : j = 16 := by omega
              exact deep16
            · skip
              obtain rfl : j = 17 := by omega
              exact deep17
          · skip
            rcases Nat.lt_or_ge j 19 with h19 | h19
            · skip
              obtain rfl : j = 18 := by omega
              exact deep18
            · skip
              obtain rfl : j = 19 := by omega
              exact deep19
        · skip
          rcases Nat.lt_or_ge j 22 with h22 | h22
          · skip
            rcases Nat.lt_or_ge j 21 with h21 | h21
            · skip
              obtain rfl : j = 20 := by omega
              exact deep20
            · skip
              obtain rfl : j = 21 := by omega
              exact deep21
          · skip
            rcases Nat.lt_or_ge j 23 with h23 | h23
            · skip
              obtain rfl : j = 22 := by omega
              exact deep22
            · skip
              obtain rfl : j = 23 := by omega
              exact deep23
      · skip
        rcases Nat.lt_or_ge j 28 with h28 | h28
        · skip
          rcases Nat.lt_or_ge j 26 with h26 | h26
          · skip
            rcases Nat.lt_or_ge j 25 with h25 | h25
            · skip
              obtain rfl : j = 24 := by omega
              exact deep24
            · skip
              obtain rfl : j = 25 := by omega
              exact deep25
          · skip
            rcases Nat.lt_or_ge j 27 with h27 | h27
            · skip
              obtain rfl : j = 26 := by omega
              exact deep26
            · skip
              obtain rfl : j = 27 := by omega
              exact deep27
        · skip
          rcases Nat.lt_or_ge j 30 with h30 | h30
          · skip
            rcases Nat.lt_or_ge j 29 with h29 | h29
            · skip
              obtain rfl : j = 28 := by omega
              exact deep28
            · skip
              obtain rfl : j = 29 := by omega
              exact deep29
          · skip
            rcases Nat.lt_or_ge j 31 with h31 | h31
            · skip
              obtain rfl : j = 30 := by omega
              exact deep30
            · skip
              obtain rfl : j = 31 := by omega
              exact deep31
  · skip
    rcases Nat.lt_or_ge j 48 with h48 | h48
    · skip
      rcases Nat.lt_or_ge j 40 with h40 | h40
      · skip
        rcases Nat.lt_or_ge j 36 with h36 | h36
        · skip
          rcases Nat.lt_or_ge j 34 with h34 | h34
          · skip
            rcases Nat.lt_or_ge j 33 with h33 | h33
            · skip
              obtain rfl : j = 32 := by omega
              exact deep32
            · skip
              obtain rfl : j = 33 := by omega
              exact deep33
          · skip
            rcases Nat.lt_or_ge j 35 with h35 | h35
            · skip
              obtain rfl : j = 34 := by omega
              exact deep34
            · skip
              obtain rfl : j = 35 := by omega
              exact deep35
        · skip
          rcases Nat.lt_or_ge j 38 with h38 | h38
          · skip
            rcases Nat.lt_or_ge j 37 with h37 | h37
            · skip
              obtain rfl : j = 36 := by omega
              exact deep36
            · skip
              obtain rfl : j = 37 := by omega
              exact deep37
          · skip
            rcases Nat.lt_or_ge j 39 with h39 | h39
            · skip
              obtain rfl : j = 38 := by omega
              exact deep38
            · skip
              obtain rfl : j = 39 := by omega
              exact deep39
      · skip
        rcases Nat.lt_or_ge j 44 with h44 | h44
        · skip
          rcases Nat.lt_or_ge j 42 with h42 | h42
          · skip
            rcases Nat.lt_or_ge j 41 with h41 | h41
            · skip
              obtain rfl : j = 40 := by omega
              exact deep40
            · skip
              obtain rfl : j = 41 := by omega
              exact deep41
          · skip
            rcases Nat.lt_or_ge j 43 with h43 | h43
            · skip
              obtain rfl : j = 42 := by omega
              exact deep42
            · skip
              obtain rfl : j = 43 := by omega
              exact deep43
        · skip
          rcases Nat.lt_or_ge j 46 with h46 | h46
          · skip
            rcases Nat.lt_or_ge j 45 with h45 | h45
            · skip
              obtain rfl : j = 44 := by omega
              exact deep44
            · skip
              obtain rfl : j = 45 := by omega
              exact deep45
          · skip
            rcases Nat.lt_or_ge j 47 with h47 | h47
            · skip
              obtain rfl : j = 46 := by omega
              exact deep46
            · skip
              obtain rfl : j = 47 := by omega
              exact deep47
    · skip
      rcases Nat.lt_or_ge j 56 with h56 | h56
      · skip
        rcases Nat.lt_or_ge j 52 with h52 | h52
        · skip
          rcases Nat.lt_or_ge j 50 with h50 | h50
          · skip
            rcases Nat.lt_or_ge j 49 with h49 | h49
            · skip
              obtain rfl : j = 48 := by omega
              exact deep48
            · skip
              obtain rfl : j = 49 := by omega
              exact deep49
          · skip
            rcases Nat.lt_or_ge j 51 with h51 | h51
            · skip
              obtain rfl : j = 50 := by omega
              exact deep50
            · skip
              obtain rfl : j = 51 := by omega
              exact deep51
        · skip
          rcases Nat.lt_or_ge j 54 with h54 | h54
          · skip
            rcases Nat.lt_or_ge j 53 with h53 | h53
            · skip
              obtain rfl : j = 52 := by omega
              exact deep52
            · skip
              obtain rfl : j = 53 := by omega
              exact deep53
          · skip
            rcases Nat.lt_or_ge j 55 with h55 | h55
            · skip
              obtain rfl : j = 54 := by omega
              exact deep54
            · skip
              obtain rfl : j = 55 := by omega
              exact deep55
      · skip
        rcases Nat.lt_or_ge j 60 with h60 | h60
        · skip
          rcases Nat.lt_or_ge j 58 with h58 | h58
          · skip
            rcases Nat.lt_or_ge j 57 with h57 | h57
            · skip
              obtain rfl : j = 56 := by omega
              exact deep56
            · skip
              obtain rfl : j = 57 := by omega
              exact deep57
          · skip
            rcases Nat.lt_or_ge j 59 with h59 | h59
            · skip
              obtain rfl : j = 58 := by omega
              exact deep58
            · skip
              obtain rfl : j = 59 := by omega
              exact deep59
        · skip
          rcases Nat.lt_or_ge j 62 with h62 | h62
          · skip
            rcases Nat.lt_or_ge j 61 with h61 | h61
            · skip
              obtain rfl : j = 60 := by omega
              exact deep60
            · skip
              obtain rfl : j = 61 := by omega
              exact deep61
          · skip
            rcases Nat.lt_or_ge j 63 with h63 | h63
            · skip
              obtain rfl : j = 62 := by omega
              exact deep62
            · skip
              obtain rfl : j = 63 := by omega
              exact deep63
end Go.Proofs.Ytahcbcgakadfpaa.Td
