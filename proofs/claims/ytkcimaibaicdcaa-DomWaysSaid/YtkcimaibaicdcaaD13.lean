/- A part of the proof of the law of DomWays: lemmas and walks, out of this session's texts, with what the claim does not use struck out. -/
import Derived.Test.YtkcimaibaicdcaaD6
namespace Go.Proofs.Ytkcimaibaicdcaa.P
open Go.RowKit Go.Proofs.YtkcimaibaicdcaaW.PrintWords Go.Proofs.YtkcimaibaicdcaaW.PrintLast Go.Proofs.YtkcimaibaicdcaaW.PrintMore
attribute [local go_sem] max2_int min2_int max_two min_two max_three min_three max_four min_four   
set_option linter.unusedVariables false
set_option linter.unusedSimpArgs false
mutual
def dom_without.j0 : Nat → List (List Int) → Int → List Bool → List Int → Option (List Bool)
 | 0, _, _, _, _ => none
 | k + 1, x0, x1, x5, x6 => dom_without.l0 k x0 x1 x5 x6
def dom_without.l0 : Nat → List (List Int) → Int → List Bool → List Int → Option (List Bool)
 | 0, _, _, _, _ => none
 | k + 1, x0, x1, x5, x6 => if (x6.length : Int) > 0 then (if 0 ≤ (wrap64 ((x6.length : Int) - 1)) then (if (wrap64 ((x6.length : Int) - 1)) < (x6.length : Int) then (if (wrap64 ((x6.length : Int) - 1)) ≤ (x6.length : Int) then (if 0 ≤ (rd x6 (wrap64 ((x6.length : Int) - 1))) then (if (rd x6 (wrap64 ((x6.length : Int) - 1))) < (x0.length : Int) then (dom_without.l1 k x0 x1 x5 (x6.take ((wrap64 ((x6.length : Int) - 1)) : Int).toNat) (rd_L1 x0 (rd x6 (wrap64 ((x6.length : Int) - 1)))) ((rd_L1 x0 (rd x6 (wrap64 ((x6.length : Int) - 1)))).length : Int) 0) else (none)) else (none)) else (none)) else (none)) else (none)) else (some x5)
def dom_without.l1 : Nat → List (List Int) → Int → List Bool → List Int → List Int → Int → Int → Option (List Bool)
 | 0, _, _, _, _, _, _, _ => none
 | k + 1, x0, x1, x5, x6, x37, x38, x39 => if x39 < x38 then (if 0 ≤ x39 then (if x39 < (x37.length : Int) then (if (rd x37 x39) = x1 then (dom_without.l1 k x0 x1 x5 x6 x37 x38 (wrap64 (x39 + 1))) else (if 0 ≤ (rd x37 x39) then (if (rd x37 x39) < (x5.length : Int) then (if (rdOf false x5 (rd x37 x39) = true) then (dom_without.l1 k x0 x1 x5 x6 x37 x38 (wrap64 (x39 + 1))) else (if x6.length < 17592186044416 then (dom_without.l1 k x0 x1 (x5.set ((rd x37 x39) : Int).toNat true) (x6 ++ [rd x37 x39]) x37 x38 (wrap64 (x39 + 1))) else (none))) else (none)) else (none))) else (none)) else (none)) else (dom_without.l0 k x0 x1 x5 x6)
end
def dom_without.f (k : Nat) (l0 : List (List Int)) (a1 : Int) : Option (List Bool) := if 0 ≤ (l0.length : Int) then (if ((l0.length : Int) : Int).toNat ≤ 281474976710656 then ((some (List.replicate ((l0.length : Int) : Int).toNat false : List Bool)).bind fun y391 => (if a1 = 0 then (dom_without.j0 k l0 a1 y391 ([] : List Int)) else (if 0 < (y391.length : Int) then (if ([] : List Int).length < 17592186044416 then (dom_without.j0 k l0 a1 (y391.set (0 : Int).toNat true) (([] : List Int) ++ [0])) else (none)) else (none)))) else (none)) else (none)
theorem dom_without.mono_l : ∀ k, (∀ y0 y1 y2 y3, LeO (dom_without.j0 k y0 y1 y2 y3) (dom_without.j0 (k + 1) y0 y1 y2 y3)) ∧ (∀ y0 y1 y2 y3, LeO (dom_without.l0 k y0 y1 y2 y3) (dom_without.l0 (k + 1) y0 y1 y2 y3)) ∧ (∀ y0 y1 y2 y3 y4 y5 y6, LeO (dom_without.l1 k y0 y1 y2 y3 y4 y5 y6) (dom_without.l1 (k + 1) y0 y1 y2 y3 y4 y5 y6))
 | 0 => ⟨fun _ _ _ _ r h => by simp [dom_without.j0] at h, fun _ _ _ _ r h => by simp [dom_without.l0] at h, fun _ _ _ _ _ _ _ r h => by simp [dom_without.l1] at h⟩
 | k + 1 => by
  obtain ⟨ih0, ih1, ih2⟩ := dom_without.mono_l k
  refine ⟨?_, ?_, ?_⟩
  ·intro y0 y1 y2 y3
   unfold dom_without.j0
   repeat' first
   | (with_reducible exact ih0 _ _ _ _)
   | (with_reducible exact ih1 _ _ _ _)
   | (with_reducible exact ih2 _ _ _ _ _ _ _)
   | (with_reducible exact LeO.refl _)
   | (with_reducible exact LeO.none _)
   | (with_reducible refine LeO.ite ?_ ?_)
   | (with_reducible refine LeO.bind ?_ (fun _ => ?_))
   | exact ih0 _ _ _ _
   | exact ih1 _ _ _ _
   | exact ih2 _ _ _ _ _ _ _
   | exact LeO.none _
   | refine LeO.ite ?_ ?_
   | refine LeO.bind ?_ (fun _ => ?_)
  ·intro y0 y1 y2 y3
   unfold dom_without.l0
   repeat' first
   | (with_reducible exact ih0 _ _ _ _)
   | (with_reducible exact ih1 _ _ _ _)
   | (with_reducible exact ih2 _ _ _ _ _ _ _)
   | (with_reducible exact LeO.refl _)
   | (with_reducible exact LeO.none _)
   | (with_reducible refine LeO.ite ?_ ?_)
   | (with_reducible refine LeO.bind ?_ (fun _ => ?_))
   | exact ih0 _ _ _ _
   | exact ih1 _ _ _ _
   | exact ih2 _ _ _ _ _ _ _
   | exact LeO.none _
   | refine LeO.ite ?_ ?_
   | refine LeO.bind ?_ (fun _ => ?_)
  ·intro y0 y1 y2 y3 y4 y5 y6
   unfold dom_without.l1
   repeat' first
   | (with_reducible exact ih0 _ _ _ _)
   | (with_reducible exact ih1 _ _ _ _)
   | (with_reducible exact ih2 _ _ _ _ _ _ _)
   | (with_reducible exact LeO.refl _)
   | (with_reducible exact LeO.none _)
   | (with_reducible refine LeO.ite ?_ ?_)
   | (with_reducible refine LeO.bind ?_ (fun _ => ?_))
   | exact ih0 _ _ _ _
   | exact ih1 _ _ _ _
   | exact ih2 _ _ _ _ _ _ _
   | exact LeO.none _
   | refine LeO.ite ?_ ?_
   | refine LeO.bind ?_ (fun _ => ?_)
theorem dom_without.mono : ∀ a0 a1 k, LeO (dom_without.f k a0 a1) (dom_without.f (k + 1) a0 a1) := by
 intro a0 a1 k
 obtain ⟨ih0, ih1, ih2⟩ := dom_without.mono_l k
 unfold dom_without.f
 repeat' first
   | (with_reducible exact ih0 _ _ _ _)
   | (with_reducible exact ih1 _ _ _ _)
   | (with_reducible exact ih2 _ _ _ _ _ _ _)
   | (with_reducible exact LeO.refl _)
   | (with_reducible exact LeO.none _)
   | (with_reducible refine LeO.ite ?_ ?_)
   | (with_reducible refine LeO.bind ?_ (fun _ => ?_))
   | exact ih0 _ _ _ _
   | exact ih1 _ _ _ _
   | exact ih2 _ _ _ _ _ _ _
   | exact LeO.none _
   | refine LeO.ite ?_ ?_
   | refine LeO.bind ?_ (fun _ => ?_)
set_option maxHeartbeats 8000000 in
set_option maxRecDepth 100000 in
theorem dom_without.calls (k : Nat) (A0 : Option Addr) (c0 : Nat) (l0 : List (List Int)) (a1 : Int) (r : List Bool) (w : World) (hr0 : Kd.C (Kd.slice 3 (Kd.int .i64)) w A0 l0.length l0) (hc0 : l0.length ≤ c0) (h : dom_without.f k l0 a1 = some r) :
  Calls Try.prog 98 #[.slice A0 l0.length c0, .int .i64 a1] w fun e w' => ∃ v0_ : Value, e = .returned (v0_) ∧ Kd.R Kd.bool 4 w' w.heap.size (fun _ => True) v0_ r ∧ Below w.heap.size w w' := by
 have HR0 := Aside0.mk hr0
 have HC0 := Aside0.mk hc0
 clear hr0 hc0; have HB := Aside0.mk (Below.refl w.heap.size w)
 have H : (if 0 ≤ (l0.length : Int) then (if ((l0.length : Int) : Int).toNat ≤ 281474976710656 then ((some (List.replicate ((l0.length : Int) : Int).toNat false : List Bool)).bind fun y391 => (if a1 = 0 then (dom_without.j0 k l0 a1 y391 ([] : List Int)) else (if 0 < (y391.length : Int) then (if ([] : List Int).length < 17592186044416 then (dom_without.j0 k l0 a1 (y391.set (0 : Int).toNat true) (([] : List Int) ++ [0])) else (none)) else (none)))) else (none)) else (none)) = some r := h
 clear h
 by_cases c3 : 0 ≤ (l0.length : Int)
 ·rw [if_pos c3] at H
  have c3b0 := eq_true c3
  have c3b1 : decide (0 ≤ (l0.length : Int)) = true := decide_eq_true c3
  clear c3
  by_cases c4 : ((l0.length : Int) : Int).toNat ≤ 281474976710656
  ·rw [if_pos c4] at H
   have c4b0 := eq_true c4
   have c4b1 : decide (((l0.length : Int) : Int).toNat ≤ 281474976710656) = true := decide_eq_true c4
   clear c4
   obtain ⟨y391, hy391⟩ : ∃ y_ : List Bool, y_ = (List.replicate ((l0.length : Int) : Int).toNat false) := ⟨_, rfl⟩
   replace H : (if a1 = 0 then (dom_without.j0 k l0 a1 y391 ([] : List Int)) else (if 0 < (y391.length : Int) then (if ([] : List Int).length < 17592186044416 then (dom_without.j0 k l0 a1 (y391.set (0 : Int).toNat true) (([] : List Int) ++ [0])) else (none)) else (none))) = some r := by first | (rw [hy391]; with_reducible exact H) | (have H2_ := (Option.bind_some _ _).symm.trans H; rw [hy391]; with_reducible exact H2_) | (have H2_ := (Option.bind_some _ _).symm.trans H; with_reducible exact H2_) | with_reducible exact H | (rw [hy391]; exact H) | exact H
   have Ny391 := Aside0.mk hy391
   clear hy391
   have HC5 := Aside0.mk H
   clear H
   go_enter Try.func98, Try.ntmps98
   go_upto_if 14 with (first | ((with_reducible refine gate_dst (N := 12) rfl ?_); refine Kd.R_make Kd.bool _ 4 rfl (N := 12) rfl 34 _ _ rfl (l0.length : Int) rfl rfl Try.underlying34 (.bool false) 1 info4 rfl (by decide) (by omega) false (ok := fun _ => True) (okp := fun _ => True) rfl (fun _ hk => hk) trivial (of_decide_eq_true (by first | (with_reducible assumption) | assumption)) (Nat.le_trans (Nat.mul_le_mul_right _ (of_decide_eq_true (by first | (with_reducible assumption) | assumption) : (l0.length : Int).toNat ≤ 281474976710656)) (by omega)) (Below.refl _ _) (Nat.le_refl _) ?_; intro v392 w6 ho7 hb hg_ hnew_; clear hg_ hnew_; (first | rw [← Ny391.out] at ho7 | (simp only [Int.reduceToNat] at ho7; rw [← Ny391.out] at ho7)); have n0_ := Aside0.mk (Kd.R_lower ho7 (below_size (by repeat (first | (with_reducible first | exact HB.out | apply below_alloc | apply pw_below_drewN | apply below_drew1) | exact HB.out)))); have n1_ := Aside0.mk (below_step (by repeat (first | (with_reducible first | exact HB.out | apply below_alloc | apply pw_below_drewN | apply below_drew1) | exact HB.out)) hb); clear HB; have HO393 := n0_; have HB := n1_; clear n0_ n1_; clear hb ho7))
   (try simp only [Act.put, List.setIfInBounds_toArray, List.set_cons_zero, List.set_cons_succ])
   go_cut [6] (fun v6 wc => ∃ (kq : Nat) (x5_4 : List Bool) (x6_4 : List Int), Aside0 (dom_without.j0 kq l0 a1 x5_4 x6_4 = some r) ∧ Aside0 (kq ≤ k) ∧ Aside0 (Kd.R Kd.bool 4 wc w.heap.size (fun _ => True) v392 x5_4) ∧ Aside0 (Kd.R (Kd.int .i64) 3 wc w.heap.size (fun _ => True) v6 x6_4) ∧ Aside0 (Below w.heap.size w wc))
   case first =>
    have H := HC5.out
    clear HC5
    by_cases c8 : a1 = 0
    ·rw [if_pos c8] at H
     have c8b0 : (a1 == 0) = true := beq_iff_eq.mpr c8
     have c8b1 : (a1 != 0) = false := bne_eq_false_iff_eq.mpr c8
     clear c8
     (first | rw [c8b0] | (simp only [i64_w, i32_w]; rw [c8b0]) | skip)
     have H' := Aside0.mk H
     clear H
     go_wp2
     go_meet
     case rel => exact ⟨_, (y391), (([] : List Int)), H', ⟨by first | omega | exact Nat.le_refl _⟩, ⟨by (with_reducible repeat (first | apply Kd.R_alloc | apply Kd.R_drewN | apply Kd.R_drew)); exact HO393.out⟩, ⟨by first | exact Kd.R_nil _ _ _ _ _ | exact Kd.N_nil _ _ _ _ _ | exact Kd.V_nil _ _ _ _ _ | exact Kd.Q_nil _ _ _ _ _ | exact Kd.S_nil _ _ _ _ _⟩, ⟨by repeat (first | (with_reducible first | exact HB.out | apply below_alloc | apply pw_below_drewN | apply below_drew1) | exact HB.out)⟩⟩
    ·rw [if_neg c8] at H
     have c8b0 : (a1 == 0) = false := beq_eq_false_iff_ne.mpr c8
     have c8b1 : (a1 != 0) = true := bne_iff_ne.mpr c8
     (first | rw [c8b0] | (simp only [i64_w, i32_w]; rw [c8b0]) | skip)
     by_cases c9 : 0 < (y391.length : Int)
     ·rw [if_pos c9] at H
      have c9b0 : decide (0 < (y391.length : Int)) = true := decide_eq_true c9
      have c9b1 : decide (0 < y391.length) = true := decide_eq_true (by omega)
      clear c9
      obtain ⟨y394, hy394⟩ : ∃ y_ : List Bool, y_ = (y391.set (0 : Int).toNat true) := ⟨_, rfl⟩
      replace H : (if ([] : List Int).length < 17592186044416 then (dom_without.j0 k l0 a1 y394 (([] : List Int) ++ [0])) else (none)) = some r := by first | (rw [hy394]; with_reducible exact H) | (have H2_ := (Option.bind_some _ _).symm.trans H; rw [hy394]; with_reducible exact H2_) | (have H2_ := (Option.bind_some _ _).symm.trans H; with_reducible exact H2_) | with_reducible exact H | (rw [hy394]; exact H) | exact H
      have Ny394 := Aside0.mk hy394
      clear hy394
      by_cases c11 : ([] : List Int).length < 17592186044416
      ·rw [if_pos c11] at H
       have LMc11 := Aside0.mk c11
       clear c11
       obtain ⟨y395, hy395⟩ : ∃ y_ : List Int, y_ = (([] : List Int) ++ [0]) := ⟨_, rfl⟩
       replace H : (dom_without.j0 k l0 a1 y394 y395) = some r := by first | (rw [hy395]; with_reducible exact H) | (have H2_ := (Option.bind_some _ _).symm.trans H; rw [hy395]; with_reducible exact H2_) | (have H2_ := (Option.bind_some _ _).symm.trans H; with_reducible exact H2_) | with_reducible exact H | (rw [hy395]; exact H) | exact H
       have Ny395 := Aside0.mk hy395
       clear hy395
       have H' := Aside0.mk H
       clear H
       have p10 : 0 ≤ (0 : Int) := (by omega)
       have q10 : (0 : Int) < ((y391.length : Int) : Int) := of_decide_eq_true (by first | (with_reducible assumption) | assumption)
       have qi10 : (0 < y391.length) = True := eq_true (by omega)
       obtain ⟨go10, co10, eo10, gb10, gl10, cl10, HG10⟩ := Kd.R_form HO393.out (by omega)
       (first | cases eo10 | (injection eo10 with ea_ en_ ec_; (first | subst ea_ | (injection ea_ with ea_; subst ea_)); subst ec_; clear en_))
       have GB10 := Aside0.mk gb10
       have GG10 := Aside0.mk HG10
       clear gb10 gl10 HG10
       obtain ⟨hx10_0, hf10_0⟩ := Kd.R_celln false HO393.out (0 : Int) p10 q10
       (try rw [show ((0 : Int)).toNat = 0 from rfl] at hx10_0)
       (try simp only [Nat.reduceMul, Nat.zero_mul, Nat.zero_add, Nat.reduceAdd] at hx10_0)
       (try rw [show ((0 : Int)).toNat = 0 from rfl] at hf10_0)
       (try simp only [Nat.reduceMul, Nat.zero_mul, Nat.zero_add, Nat.reduceAdd] at hf10_0)
       replace p10 := eq_true p10
       replace q10 := eq_true q10
       have HP12 := Kd.R_putg HO393.out (0 : Int) true
       go_wp2_with (first | ((with_reducible refine gate_store (t := 4) (p := 16) rfl ?_); refine store_event (t := 4) (p := 16) (v := ?vo_w13) (w1 := (w6.setCell ⟨go10, (0 : Int).toNat, none⟩ (.bool true))) ?hg ?ho ?hn ?hr ?_; (case ho => rfl); (case hg => rfl); (case hn => rfl); (case hr => first | (go_simp; done) | (go_simp; rfl)); intro w13 hw; have hg : w6.grownBy w13 (some go10) := (by rw [hw]; exact HP12.2); have hp_ : Kd.R Kd.bool 4 w13 w.heap.size (fun _ => True) (.slice (some ⟨go10, 0, none⟩) y391.length co10) y394 := (by rw [hw, Ny394.out]; exact HP12.1); clear HP12; have n0_ := Aside0.mk (hp_); have n1_ := Aside0.mk ((by rw [hw]; exact below_set (HB.out) GB10.out : Below w.heap.size w w13)); clear HO393; clear HB; have HO393 := n0_; have HB := n1_; clear n0_ n1_; clear hg hw hp_) | ((with_reducible refine gate_builtin (b := .append) (xs := #[.tmp 17, .tmp 18]) rfl ?_); at_builtin; refine Kd.R_append (Kd.int .i64) (w0 := w) w.heap.size rfl (.tmp 17) (.tmp 18) 22 3 (.int .i64 0) 8 rfl Try.underlying22 info3 rfl (by decide) (by omega) (.slice none 0 0) ([] : List Int) 0 [.int .i64 0] (fun _ => True) (fun _ => False) rfl rfl ?aP (fun _ hk => hk.elim) ?aF ?aO ?aB ?aS ?aL ?_; (case aP => exact rfl); (case aB => exact (by repeat (first | (with_reducible first | exact HB.out | apply below_alloc | apply pw_below_drewN | apply below_drew1) | exact HB.out))); (case aF => exact (fun _ _ => trivial)); (case aO => exact ((Kd.R_nil _ _ _ _ (fun _ => True)))); (case aS => exact (below_size (by repeat (first | (with_reducible first | exact HB.out | apply below_alloc | apply pw_below_drewN | apply below_drew1) | exact HB.out)))); (case aL => have := LMc11.out; omega); intro v396 w14 ho hb hg hat; rw [← Ny395.out] at ho; have n0_ := Aside0.mk (Kd.R_grown (by (with_reducible repeat (first | apply Kd.R_alloc | apply Kd.R_drewN | apply Kd.R_drew)); exact HO393.out) hg (fun _ _ => by simp [Value.ownBlock])); have n1_ := Aside0.mk (hb); have n2_ := Aside0.mk (ho); clear HO393; clear HB; have HO393 := n0_; have HB := n1_; have HO397 := n2_; clear n0_ n1_ n2_; clear ho hb hg hat))
       go_meet
       case rel => exact ⟨_, (y394), (y395), H', ⟨by first | omega | exact Nat.le_refl _⟩, ⟨by (with_reducible repeat (first | apply Kd.R_alloc | apply Kd.R_drewN | apply Kd.R_drew)); exact HO393.out⟩, ⟨by (with_reducible repeat (first | apply Kd.R_alloc | apply Kd.R_drewN | apply Kd.R_drew)); exact HO397.out⟩, ⟨by repeat (first | (with_reducible first | exact HB.out | apply below_alloc | apply pw_below_drewN | apply below_drew1) | exact HB.out)⟩⟩
      ·rw [if_neg c11] at H
       exact absurd H (by simp)
     ·rw [if_neg c9] at H
      exact absurd H (by simp)
   case rest =>
    clear HC5
    try clear c1
    try clear p1
    try clear q1
    try clear hx1
    try clear qi1
    try clear p2
    try clear c3
    try clear c3b0
    try clear c3b1
    try clear c4
    try clear c4b0
    try clear c4b1
    try clear c8
    try clear c8b0
    try clear c8b1
    try clear c9
    try clear c9b0
    try clear c9b1
    try clear p10
    try clear q10
    try clear hx10
    try clear qi10
    try clear hf10
    try clear c11
    try clear hx10_0
    try clear p10
    try clear q10
    obtain ⟨kq, x5_4, x6_4, HA, HJ4, HO_5, HO_6, HB⟩ := hcut
    cases kq with
    | zero => exact absurd HA.out (by simp [dom_without.j0])
    | succ kj4 =>
     have H := HA.out
     clear HA
     simp only [dom_without.j0] at H
     have H' := Aside0.mk H
     clear H
     go_wp2
     go_loopg [6] kj4 (fun kq v6 w' => ∃ (x5_2 : List Bool) (x6_2 : List Int), Aside0 (dom_without.l0 kq l0 a1 x5_2 x6_2 = some r) ∧ Aside0 (kq ≤ kj4) ∧ Aside0 (Kd.R Kd.bool 4 w' w.heap.size (fun _ => True) v392 x5_2) ∧ Aside0 (Kd.R (Kd.int .i64) 3 w' w.heap.size (fun _ => True) v6 x6_2) ∧ Aside0 (Below w.heap.size w w'))
     case atStart => exact ⟨(x5_4), (x6_4), H', ⟨Nat.le_refl _⟩, ⟨by (with_reducible repeat (first | apply Kd.R_alloc | apply Kd.R_drewN | apply Kd.R_drew)); exact HO_5.out⟩, ⟨by (with_reducible repeat (first | apply Kd.R_alloc | apply Kd.R_drewN | apply Kd.R_drew)); exact HO_6.out⟩, ⟨by repeat (first | (with_reducible first | exact HB.out | apply below_alloc | apply pw_below_drewN | apply below_drew1) | exact HB.out)⟩⟩
     case round =>
      clear H'
      try clear c1
      try clear p1
      try clear q1
      try clear hx1
      try clear qi1
      try clear p2
      try clear c3
      try clear c3b0
      try clear c3b1
      try clear c4
      try clear c4b0
      try clear c4b1
      try clear c8
      try clear c8b0
      try clear c8b1
      try clear c9
      try clear c9b0
      try clear c9b1
      try clear p10
      try clear q10
      try clear hx10
      try clear qi10
      try clear hf10
      try clear c11
      try clear hx10_0
      try clear p1
      try clear p10
      try clear p2
      try clear q1
      try clear q10
      obtain ⟨x5_2, x6_2, HA, HK2, HO_5, HO_6, HB⟩ := hrel
      cases gk with
      | zero => exact absurd HA.out (by simp [dom_without.l0])
      | succ k2 =>
       have H := HA.out
       clear HA
       simp only [dom_without.l0] at H
       by_cases c15 : (x6_2.length : Int) > 0
       ·rw [if_pos c15] at H
        have c15b0 : decide (0 < (x6_2.length : Int)) = true := decide_eq_true c15
        have c15b1 : decide (0 < x6_2.length) = true := decide_eq_true (by omega)
        clear c15
        obtain ⟨ji16, hji16⟩ : ∃ j_ : Int, (wrap64 ((x6_2.length : Int) - 1)) = j_ := ⟨_, rfl⟩
        replace H : (if 0 ≤ (ji16) then (if (ji16) < (x6_2.length : Int) then (if (ji16) ≤ (x6_2.length : Int) then (if 0 ≤ (rd x6_2 (ji16)) then (if (rd x6_2 (ji16)) < (l0.length : Int) then (dom_without.l1 k2 l0 a1 x5_2 (x6_2.take ((ji16) : Int).toNat) (rd_L1 l0 (rd x6_2 (ji16))) ((rd_L1 l0 (rd x6_2 (ji16))).length : Int) 0) else (none)) else (none)) else (none)) else (none)) else (none)) = some r := by first | (rw [hji16] at H; exact H) | (simp only [hji16] at H ⊢; exact H)
        have hji16w : (IntKind.i64.wrap ((x6_2.length : Int) - 1)) = ji16 := (i64_w _).trans hji16
        by_cases c17 : 0 ≤ (ji16)
        ·rw [if_pos c17] at H
         have c17b0 : decide (0 ≤ (ji16)) = true := decide_eq_true c17
         clear c17
         by_cases c18 : (ji16) < (x6_2.length : Int)
         ·rw [if_pos c18] at H
          have c18b0 : decide ((ji16) < (x6_2.length : Int)) = true := decide_eq_true c18
          clear c18
          by_cases c19 : (ji16) ≤ (x6_2.length : Int)
          ·rw [if_pos c19] at H
           have c19b0 := eq_true c19
           have c19b1 : decide ((ji16) ≤ (x6_2.length : Int)) = true := decide_eq_true c19
           clear c19
           obtain ⟨y399, hy399⟩ : ∃ y_ : List Int, y_ = (x6_2.take ((ji16) : Int).toNat) := ⟨_, rfl⟩
           replace H : (if 0 ≤ (rd x6_2 (ji16)) then (if (rd x6_2 (ji16)) < (l0.length : Int) then (dom_without.l1 k2 l0 a1 x5_2 y399 (rd_L1 l0 (rd x6_2 (ji16))) ((rd_L1 l0 (rd x6_2 (ji16))).length : Int) 0) else (none)) else (none)) = some r := by first | (rw [hy399]; with_reducible exact H) | (have H2_ := (Option.bind_some _ _).symm.trans H; rw [hy399]; with_reducible exact H2_) | (have H2_ := (Option.bind_some _ _).symm.trans H; with_reducible exact H2_) | with_reducible exact H | (rw [hy399]; exact H) | exact H
           have Ny399 := Aside0.mk hy399
           clear hy399
           by_cases c20 : 0 ≤ (rd x6_2 (ji16))
           ·rw [if_pos c20] at H
            have c20b0 : decide (0 ≤ (rd x6_2 (ji16))) = true := decide_eq_true c20
            clear c20
            by_cases c21 : (rd x6_2 (ji16)) < (l0.length : Int)
            ·rw [if_pos c21] at H
             have c21b0 : decide ((rd x6_2 (ji16)) < (l0.length : Int)) = true := decide_eq_true c21
             clear c21
             have H' := Aside0.mk H
             clear H
             obtain ⟨Ao22, co22, eo22⟩ := Kd.R_slice HO_6.out
             subst eo22
             have p398 : 0 ≤ ((ji16) : Int) := of_decide_eq_true (by first | (with_reducible assumption) | assumption)
             have q398 : (ji16) < (x6_2.length : Int) := of_decide_eq_true (by first | (with_reducible assumption) | assumption)
             obtain ⟨ad398, e398, hx398_0⟩ := Kd.at_int (Kd.R_reads' HO_6.out).2.2 (ji16) p398 q398
             cases e398
             replace p398 := eq_true p398
             replace q398 := eq_true q398
             have q23 : ((ji16) : Int) ≤ ((x6_2.length : Int) : Int) := of_decide_eq_true (by first | (with_reducible assumption) | assumption)
             obtain ⟨i023, hi023, _, hsz23, _⟩ := info_parts info3
             have hcut23 := cut_to (P := Try.prog) 22 3 .i64 Try.underlying22 hi023 (some ad398) x6_2.length co22 (ji16) (of_decide_eq_true (by first | (with_reducible assumption) | assumption)) q23 (Kd.R_reads' HO_6.out).2.1
             have hr23 := Kd.R_take (m := ((ji16) : Int).toNat) HO_6.out (by omega)
             have hy23 : y399.length = ((ji16) : Int).toNat := (by rw [Ny399.out, List.length_take]; omega)
             rw [← Ny399.out] at hr23
             rw [← hy23] at hr23 hcut23
             clear hy23 hi023 hsz23 HO_6
             have HO401 := Aside0.mk hr23
             clear hr23
             replace q23 := eq_true q23
             have p402 : 0 ≤ ((rd x6_2 (ji16)) : Int) := of_decide_eq_true (by first | (with_reducible assumption) | assumption)
             have q402 : (rd x6_2 (ji16)) < (l0.length : Int) := of_decide_eq_true (by first | (with_reducible assumption) | assumption)
             obtain ⟨ad402, A402_0, c402_0, e402, hx402_0, hl402_0, hi402_0⟩ := at_L1 HR0.out (rd x6_2 (ji16)) p402 q402
             cases e402
             replace hx402_0 := (HB.out.cell (World.block_lt_of_cell? w _ hx402_0)).trans hx402_0
             have HR402_0 := Aside0.mk hi402_0
             have HC402_0 := Aside0.mk hl402_0
             clear hi402_0 hl402_0
             replace p402 := eq_true p402
             replace q402 := eq_true q402
             go_wp2
             go_loopg [6, 39] k2 (fun kq v6 v39 w' => ∃ (x5_3 : List Bool) (x6_3 : List Int) (x39_3 : Int), v39 = .int .i64 x39_3 ∧ Aside0 (dom_without.l1 kq l0 a1 x5_3 x6_3 (rd_L1 l0 (rd x6_2 (ji16))) ((rd_L1 l0 (rd x6_2 (ji16))).length : Int) x39_3 = some r) ∧ Aside0 (kq ≤ k2) ∧ Aside0 (Kd.R Kd.bool 4 w' w.heap.size (fun _ => True) v392 x5_3) ∧ Aside0 (Kd.R (Kd.int .i64) 3 w' w.heap.size (fun _ => True) v6 x6_3) ∧ Aside0 (Below w.heap.size w w'))
             case atStart => exact ⟨(x5_2), (y399), (0), (by first | rfl | (simp; done) | (simp [*]; done)), H', ⟨Nat.le_refl _⟩, ⟨by (with_reducible repeat (first | apply Kd.R_alloc | apply Kd.R_drewN | apply Kd.R_drew)); exact HO_5.out⟩, ⟨by (with_reducible repeat (first | apply Kd.R_alloc | apply Kd.R_drewN | apply Kd.R_drew)); exact HO401.out⟩, ⟨by repeat (first | (with_reducible first | exact HB.out | apply below_alloc | apply pw_below_drewN | apply below_drew1) | exact HB.out)⟩⟩
             case round =>
              clear H'
              try clear c1
              try clear p1
              try clear q1
              try clear hx1
              try clear qi1
              try clear c2
              try clear p2
              try clear q2
              try clear c3
              try clear c3b0
              try clear c3b1
              try clear p3
              try clear q3
              try clear hx3
              try clear c4
              try clear c4b0
              try clear c4b1
              try clear p4
              try clear q4
              try clear hx4
              try clear p6
              try clear c8
              try clear c8b0
              try clear c8b1
              try clear c9
              try clear c9b0
              try clear c9b1
              try clear p10
              try clear q10
              try clear hx10
              try clear qi10
              try clear hf10
              try clear c11
              try clear c15
              try clear c15b0
              try clear c15b1
              try clear c17
              try clear c17b0
              try clear c18
              try clear c18b0
              try clear c19
              try clear c19b0
              try clear c19b1
              try clear c20
              try clear c20b0
              try clear c21
              try clear c21b0
              try clear q23
              try clear hx10_0
              try clear hx398_0
              try clear hx402_0
              try clear p1
              try clear p10
              try clear p2
              try clear p398
              try clear p402
              try clear q1
              try clear q10
              try clear q23
              try clear q398
              try clear q402
              obtain ⟨x5_3, x6_3, x39_3, rfl, HA, HK3, HO_5, HO_6, HB⟩ := hrel
              cases gk with
              | zero => exact absurd HA.out (by simp [dom_without.l1])
              | succ k3 =>
               have H := HA.out
               clear HA
               simp only [dom_without.l1] at H
               by_cases c24 : x39_3 < ((rd_L1 l0 (rd x6_2 (ji16))).length : Int)
               ·rw [if_pos c24] at H
                have c24b0 : decide (x39_3 < ((rd_L1 l0 (rd x6_2 (ji16))).length : Int)) = true := decide_eq_true c24
                clear c24
                by_cases c25 : 0 ≤ x39_3
                ·rw [if_pos c25] at H
                 have c25b0 : decide (0 ≤ x39_3) = true := decide_eq_true c25
                 clear c25
                 by_cases c26 : x39_3 < ((rd_L1 l0 (rd x6_2 (ji16))).length : Int)
                 ·rw [if_pos c26] at H
                  have c26b0 : decide (x39_3 < ((rd_L1 l0 (rd x6_2 (ji16))).length : Int)) = true := decide_eq_true c26
                  clear c26
                  by_cases c27 : (rd (rd_L1 l0 (rd x6_2 (ji16))) x39_3) = a1
                  ·rw [if_pos c27] at H
                   have c27b0 : ((rd (rd_L1 l0 (rd x6_2 (ji16))) x39_3) == a1) = true := beq_iff_eq.mpr c27
                   have c27b1 : ((rd (rd_L1 l0 (rd x6_2 (ji16))) x39_3) != a1) = false := bne_eq_false_iff_eq.mpr c27
                   clear c27
                   have H' := Aside0.mk H
                   clear H
                   have p403 : 0 ≤ (x39_3 : Int) := of_decide_eq_true (by first | (with_reducible assumption) | assumption)
                   have q403 : x39_3 < ((rd_L1 l0 (rd x6_2 (ji16))).length : Int) := of_decide_eq_true (by first | (with_reducible assumption) | assumption)
                   obtain ⟨ad403, e403, hx403_0⟩ := Kd.at_int HR402_0.out x39_3 p403 q403
                   cases e403
                   replace hx403_0 := (HB.out.cell (World.block_lt_of_cell? w _ hx403_0)).trans hx403_0
                   replace p403 := eq_true p403
                   replace q403 := eq_true q403
                   go_wp2
                   go_roundg k3
                   case measure => have := HJ4.out; have := HK2.out; have := HK3.out; omega
                   case rel => exact ⟨(x5_3), (x6_3), (wrap64 (x39_3 + 1)), (by first | rfl | (simp; done) | (simp [*]; done)), H', ⟨by have := HJ4.out; have := HK2.out; have := HK3.out; omega⟩, ⟨by (with_reducible repeat (first | apply Kd.R_alloc | apply Kd.R_drewN | apply Kd.R_drew)); exact HO_5.out⟩, ⟨by (with_reducible repeat (first | apply Kd.R_alloc | apply Kd.R_drewN | apply Kd.R_drew)); exact HO_6.out⟩, ⟨by repeat (first | (with_reducible first | exact HB.out | apply below_alloc | apply pw_below_drewN | apply below_drew1) | exact HB.out)⟩⟩
                  ·rw [if_neg c27] at H
                   have c27b0 : ((rd (rd_L1 l0 (rd x6_2 (ji16))) x39_3) == a1) = false := beq_eq_false_iff_ne.mpr c27
                   have c27b1 : ((rd (rd_L1 l0 (rd x6_2 (ji16))) x39_3) != a1) = true := bne_iff_ne.mpr c27
                   by_cases c28 : 0 ≤ (rd (rd_L1 l0 (rd x6_2 (ji16))) x39_3)
                   ·rw [if_pos c28] at H
                    have c28b0 : decide (0 ≤ (rd (rd_L1 l0 (rd x6_2 (ji16))) x39_3)) = true := decide_eq_true c28
                    clear c28
                    by_cases c29 : (rd (rd_L1 l0 (rd x6_2 (ji16))) x39_3) < (x5_3.length : Int)
                    ·rw [if_pos c29] at H
                     have c29b0 : decide ((rd (rd_L1 l0 (rd x6_2 (ji16))) x39_3) < (x5_3.length : Int)) = true := decide_eq_true c29
                     clear c29
                     obtain ⟨bq30, hbq30⟩ : ∃ b_ : Bool, b_ = (rdOf false x5_3 (rd (rd_L1 l0 (rd x6_2 (ji16))) x39_3)) := ⟨_, rfl⟩
                     replace H : (if (bq30 = true) then (dom_without.l1 k3 l0 a1 x5_3 x6_3 (rd_L1 l0 (rd x6_2 (ji16))) ((rd_L1 l0 (rd x6_2 (ji16))).length : Int) (wrap64 (x39_3 + 1))) else (if x6_3.length < 17592186044416 then (dom_without.l1 k3 l0 a1 (x5_3.set ((rd (rd_L1 l0 (rd x6_2 (ji16))) x39_3) : Int).toNat true) (x6_3 ++ [rd (rd_L1 l0 (rd x6_2 (ji16))) x39_3]) (rd_L1 l0 (rd x6_2 (ji16))) ((rd_L1 l0 (rd x6_2 (ji16))).length : Int) (wrap64 (x39_3 + 1))) else (none))) = some r := by rw [← hbq30] at H; exact H
                     have Nbq30 := Aside0.mk hbq30
                     clear hbq30
                     by_cases c31 : (bq30 = true)
                     ·subst c31
                      have H1 : (dom_without.l1 k3 l0 a1 x5_3 x6_3 (rd_L1 l0 (rd x6_2 (ji16))) ((rd_L1 l0 (rd x6_2 (ji16))).length : Int) (wrap64 (x39_3 + 1))) = some r := by rw [if_pos rfl] at H; exact H
                      clear H; have H := H1; clear H1
                      have H' := Aside0.mk H
                      clear H
                      have p403 : 0 ≤ (x39_3 : Int) := of_decide_eq_true (by first | (with_reducible assumption) | assumption)
                      have q403 : x39_3 < ((rd_L1 l0 (rd x6_2 (ji16))).length : Int) := of_decide_eq_true (by first | (with_reducible assumption) | assumption)
                      obtain ⟨ad403, e403, hx403_0⟩ := Kd.at_int HR402_0.out x39_3 p403 q403
                      cases e403
                      replace hx403_0 := (HB.out.cell (World.block_lt_of_cell? w _ hx403_0)).trans hx403_0
                      replace p403 := eq_true p403
                      replace q403 := eq_true q403
                      obtain ⟨Ao32, co32, eo32⟩ := Kd.R_slice HO_5.out
                      subst eo32
                      have p404 : 0 ≤ ((rd (rd_L1 l0 (rd x6_2 (ji16))) x39_3) : Int) := of_decide_eq_true (by first | (with_reducible assumption) | assumption)
                      have q404 : (rd (rd_L1 l0 (rd x6_2 (ji16))) x39_3) < (x5_3.length : Int) := of_decide_eq_true (by first | (with_reducible assumption) | assumption)
                      obtain ⟨ad404, e404, hx404_0⟩ := Kd.at_bool (Kd.R_reads' HO_5.out).2.2 (rd (rd_L1 l0 (rd x6_2 (ji16))) x39_3) p404 q404
                      (try rw [← Nbq30.out] at hx404_0)
                      cases e404
                      replace p404 := eq_true p404
                      replace q404 := eq_true q404
                      go_wp2
                      go_roundg k3
                      case measure => have := HJ4.out; have := HK2.out; have := HK3.out; omega
                      case rel => exact ⟨(x5_3), (x6_3), (wrap64 (x39_3 + 1)), (by first | rfl | (simp; done) | (simp [*]; done)), H', ⟨by have := HJ4.out; have := HK2.out; have := HK3.out; omega⟩, ⟨by (with_reducible repeat (first | apply Kd.R_alloc | apply Kd.R_drewN | apply Kd.R_drew)); exact HO_5.out⟩, ⟨by (with_reducible repeat (first | apply Kd.R_alloc | apply Kd.R_drewN | apply Kd.R_drew)); exact HO_6.out⟩, ⟨by repeat (first | (with_reducible first | exact HB.out | apply below_alloc | apply pw_below_drewN | apply below_drew1) | exact HB.out)⟩⟩
                     ·replace c31 := Bool.eq_false_iff.mpr c31
                      subst c31
                      have H1 : (if x6_3.length < 17592186044416 then (dom_without.l1 k3 l0 a1 (x5_3.set ((rd (rd_L1 l0 (rd x6_2 (ji16))) x39_3) : Int).toNat true) (x6_3 ++ [rd (rd_L1 l0 (rd x6_2 (ji16))) x39_3]) (rd_L1 l0 (rd x6_2 (ji16))) ((rd_L1 l0 (rd x6_2 (ji16))).length : Int) (wrap64 (x39_3 + 1))) else (none)) = some r := by rw [if_neg (show ¬ (false = true) by decide)] at H; exact H
                      clear H; have H := H1; clear H1
                      obtain ⟨y405, hy405⟩ : ∃ y_ : List Bool, y_ = (x5_3.set ((rd (rd_L1 l0 (rd x6_2 (ji16))) x39_3) : Int).toNat true) := ⟨_, rfl⟩
                      replace H : (if x6_3.length < 17592186044416 then (dom_without.l1 k3 l0 a1 y405 (x6_3 ++ [rd (rd_L1 l0 (rd x6_2 (ji16))) x39_3]) (rd_L1 l0 (rd x6_2 (ji16))) ((rd_L1 l0 (rd x6_2 (ji16))).length : Int) (wrap64 (x39_3 + 1))) else (none)) = some r := by first | (rw [hy405]; with_reducible exact H) | (have H2_ := (Option.bind_some _ _).symm.trans H; rw [hy405]; with_reducible exact H2_) | (have H2_ := (Option.bind_some _ _).symm.trans H; with_reducible exact H2_) | with_reducible exact H | (rw [hy405]; exact H) | exact H
                      have Ny405 := Aside0.mk hy405
                      clear hy405
                      by_cases c34 : x6_3.length < 17592186044416
                      ·rw [if_pos c34] at H
                       have LMc34 := Aside0.mk c34
                       clear c34
                       obtain ⟨y406, hy406⟩ : ∃ y_ : List Int, y_ = (x6_3 ++ [rd (rd_L1 l0 (rd x6_2 (ji16))) x39_3]) := ⟨_, rfl⟩
                       replace H : (dom_without.l1 k3 l0 a1 y405 y406 (rd_L1 l0 (rd x6_2 (ji16))) ((rd_L1 l0 (rd x6_2 (ji16))).length : Int) (wrap64 (x39_3 + 1))) = some r := by first | (rw [hy406]; with_reducible exact H) | (have H2_ := (Option.bind_some _ _).symm.trans H; rw [hy406]; with_reducible exact H2_) | (have H2_ := (Option.bind_some _ _).symm.trans H; with_reducible exact H2_) | with_reducible exact H | (rw [hy406]; exact H) | exact H
                       have Ny406 := Aside0.mk hy406
                       clear hy406
                       have H' := Aside0.mk H
                       clear H
                       have p403 : 0 ≤ (x39_3 : Int) := of_decide_eq_true (by first | (with_reducible assumption) | assumption)
                       have q403 : x39_3 < ((rd_L1 l0 (rd x6_2 (ji16))).length : Int) := of_decide_eq_true (by first | (with_reducible assumption) | assumption)
                       obtain ⟨ad403, e403, hx403_0⟩ := Kd.at_int HR402_0.out x39_3 p403 q403
                       cases e403
                       replace hx403_0 := (HB.out.cell (World.block_lt_of_cell? w _ hx403_0)).trans hx403_0
                       replace p403 := eq_true p403
                       replace q403 := eq_true q403
                       obtain ⟨Ao35, co35, eo35⟩ := Kd.R_slice HO_5.out
                       subst eo35
                       have p404 : 0 ≤ ((rd (rd_L1 l0 (rd x6_2 (ji16))) x39_3) : Int) := of_decide_eq_true (by first | (with_reducible assumption) | assumption)
                       have q404 : (rd (rd_L1 l0 (rd x6_2 (ji16))) x39_3) < (x5_3.length : Int) := of_decide_eq_true (by first | (with_reducible assumption) | assumption)
                       obtain ⟨ad404, e404, hx404_0⟩ := Kd.at_bool (Kd.R_reads' HO_5.out).2.2 (rd (rd_L1 l0 (rd x6_2 (ji16))) x39_3) p404 q404
                       (try rw [← Nbq30.out] at hx404_0)
                       cases e404
                       replace p404 := eq_true p404
                       replace q404 := eq_true q404
                       have p33 : 0 ≤ ((rd (rd_L1 l0 (rd x6_2 (ji16))) x39_3) : Int) := of_decide_eq_true (by first | (with_reducible assumption) | assumption)
                       have q33 : ((rd (rd_L1 l0 (rd x6_2 (ji16))) x39_3) : Int) < ((x5_3.length : Int) : Int) := of_decide_eq_true (by first | (with_reducible assumption) | assumption)
                       obtain ⟨go33, co33, eo33, gb33, gl33, cl33, HG33⟩ := Kd.R_form HO_5.out (by omega)
                       (first | cases eo33 | (injection eo33 with ea_ en_ ec_; (first | subst ea_ | (injection ea_ with ea_; subst ea_)); subst ec_; clear en_))
                       have GB33 := Aside0.mk gb33
                       have GG33 := Aside0.mk HG33
                       clear gb33 gl33 HG33
                       (first | simp only [add_plain] at hx404_0 | skip)
                       obtain ⟨hx33_0, hf33_0⟩ := Kd.R_celln false HO_5.out ((rd (rd_L1 l0 (rd x6_2 (ji16))) x39_3) : Int) p33 q33
                       replace p33 := eq_true p33
                       replace q33 := eq_true q33
                       have HP36 := Kd.R_putg HO_5.out ((rd (rd_L1 l0 (rd x6_2 (ji16))) x39_3) : Int) true
                       go_wp2_with (first | ((with_reducible refine gate_store (t := 4) (p := 55) rfl ?_); refine store_event (t := 4) (p := 55) (v := ?vo_w37) (w1 := (wr.setCell ⟨go33, ((rd (rd_L1 l0 (rd x6_2 (ji16))) x39_3) : Int).toNat, none⟩ (.bool true))) ?hg ?ho ?hn ?hr ?_; (case ho => rfl); (case hg => rfl); (case hn => rfl); (case hr => first | (go_simp; done) | (go_simp; rfl)); intro w37 hw; have hg : wr.grownBy w37 (some go33) := (by rw [hw]; exact HP36.2); have hp_ : Kd.R Kd.bool 4 w37 w.heap.size (fun _ => True) (.slice (some ⟨go33, 0, none⟩) x5_3.length co35) y405 := (by rw [hw, Ny405.out]; exact HP36.1); clear HP36; have n0_ := Aside0.mk (hp_); have n1_ := Aside0.mk (Kd.R_over' (v := (.slice (some ⟨go33, 0, none⟩) x5_3.length co35)) (by (with_reducible repeat (first | apply Kd.R_alloc | apply Kd.R_drewN | apply Kd.R_drew)); exact HO_6.out) (Kd.R_typed HO_5.out) (by decide) hg); have n2_ := Aside0.mk ((by rw [hw]; exact below_set (HB.out) GB33.out : Below w.heap.size w w37)); clear HO_5; clear HO_6; clear HB; have HO_5 := n0_; have HO_6 := n1_; have HB := n2_; clear n0_ n1_ n2_; clear hg hw hp_) | ((with_reducible refine gate_builtin (b := .append) (xs := #[.tmp 56, .tmp 58]) rfl ?_); at_builtin; refine Kd.R_append (Kd.int .i64) (w0 := w) w.heap.size rfl (.tmp 56) (.tmp 58) 22 3 (.int .i64 0) 8 rfl Try.underlying22 info3 rfl (by decide) (by omega) u6 x6_3 (rd (rd_L1 l0 (rd x6_2 (ji16))) x39_3) [.int .i64 (rd (rd_L1 l0 (rd x6_2 (ji16))) x39_3)] (fun _ => True) (fun _ => False) rfl rfl ?aP (fun _ hk => hk.elim) ?aF ?aO ?aB ?aS ?aL ?_; (case aP => exact rfl); (case aB => exact (by repeat (first | (with_reducible first | exact HB.out | apply below_alloc | apply pw_below_drewN | apply below_drew1) | exact HB.out))); (case aF => exact (fun _ _ => trivial)); (case aO => exact (by (with_reducible repeat (first | apply Kd.R_alloc | apply Kd.R_drewN | apply Kd.R_drew)); exact HO_6.out)); (case aS => exact (below_size (by repeat (first | (with_reducible first | exact HB.out | apply below_alloc | apply pw_below_drewN | apply below_drew1) | exact HB.out)))); (case aL => have := LMc34.out; omega); intro v407 w38 ho hb hg hat; rw [← Ny406.out] at ho; have n0_ := Aside0.mk (Kd.R_over' (by (with_reducible repeat (first | apply Kd.R_alloc | apply Kd.R_drewN | apply Kd.R_drew)); exact HO_5.out) (Kd.R_typed (by (with_reducible repeat (first | apply Kd.R_alloc | apply Kd.R_drewN | apply Kd.R_drew)); exact HO_6.out)) (by decide) hg); have n1_ := Aside0.mk (hb); have n2_ := Aside0.mk (ho); clear HO_5; clear HB; clear HO_6; have HO_5 := n0_; have HB := n1_; have HO408 := n2_; clear n0_ n1_ n2_; clear ho hb hg hat))
                       go_roundg k3
                       case measure => have := HJ4.out; have := HK2.out; have := HK3.out; omega
                       case rel => exact ⟨(y405), (y406), (wrap64 (x39_3 + 1)), (by first | rfl | (simp; done) | (simp [*]; done)), H', ⟨by have := HJ4.out; have := HK2.out; have := HK3.out; omega⟩, ⟨by (with_reducible repeat (first | apply Kd.R_alloc | apply Kd.R_drewN | apply Kd.R_drew)); exact HO_5.out⟩, ⟨by (with_reducible repeat (first | apply Kd.R_alloc | apply Kd.R_drewN | apply Kd.R_drew)); exact HO408.out⟩, ⟨by repeat (first | (with_reducible first | exact HB.out | apply below_alloc | apply pw_below_drewN | apply below_drew1) | exact HB.out)⟩⟩
                      ·rw [if_neg c34] at H
                       exact absurd H (by simp)
                    ·rw [if_neg c29] at H
                     exact absurd H (by simp)
                   ·rw [if_neg c28] at H
                    exact absurd H (by simp)
                 ·rw [if_neg c26] at H
                  exact absurd H (by simp)
                ·rw [if_neg c25] at H
                 exact absurd H (by simp)
               ·rw [if_neg c24] at H
                have c24b0 : decide (x39_3 < ((rd_L1 l0 (rd x6_2 (ji16))).length : Int)) = false := decide_eq_false c24
                clear c24
                have H' := Aside0.mk H
                clear H
                go_wp2
                go_roundg k3
                case measure => have := HJ4.out; have := HK2.out; have := HK3.out; omega
                case rel => exact ⟨(x5_3), (x6_3), H', ⟨by have := HJ4.out; have := HK2.out; have := HK3.out; omega⟩, ⟨by (with_reducible repeat (first | apply Kd.R_alloc | apply Kd.R_drewN | apply Kd.R_drew)); exact HO_5.out⟩, ⟨by (with_reducible repeat (first | apply Kd.R_alloc | apply Kd.R_drewN | apply Kd.R_drew)); exact HO_6.out⟩, ⟨by repeat (first | (with_reducible first | exact HB.out | apply below_alloc | apply pw_below_drewN | apply below_drew1) | exact HB.out)⟩⟩
            ·rw [if_neg c21] at H
             exact absurd H (by simp)
           ·rw [if_neg c20] at H
            exact absurd H (by simp)
          ·rw [if_neg c19] at H
           exact absurd H (by simp)
         ·rw [if_neg c18] at H
          exact absurd H (by simp)
        ·rw [if_neg c17] at H
         exact absurd H (by simp)
       ·rw [if_neg c15] at H
        have c15b0 : decide (0 < (x6_2.length : Int)) = false := decide_eq_false c15
        have c15b1 : decide (0 < x6_2.length) = false := decide_eq_false (by omega)
        clear c15
        obtain rfl := Option.some.inj H
        obtain ⟨Ao39, co39, eo39⟩ := Kd.R_slice HO_6.out
        subst eo39
        go_wp2
        go_ret
        exact ⟨_, by first | rfl | (simp [errW_none, errW_some] <;> rfl) | (simp [*, errW_none, errW_some] <;> rfl), by (with_reducible repeat (first | apply Kd.R_alloc | apply Kd.R_drewN | apply Kd.R_drew)); exact HO_5.out, by repeat (first | (with_reducible first | exact HB.out | apply below_alloc | apply pw_below_drewN | apply below_drew1) | exact HB.out)⟩
  ·rw [if_neg c4] at H
   exact absurd H (by simp)
 ·rw [if_neg c3] at H
  exact absurd H (by simp)
end Go.Proofs.Ytkcimaibaicdcaa.P
