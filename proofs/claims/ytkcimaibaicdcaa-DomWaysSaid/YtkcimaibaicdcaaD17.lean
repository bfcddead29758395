/- A part of the proof of the law of DomWays: lemmas and walks, out of this session's texts, with what the claim does not use struck out. -/
import Derived.Test.YtkcimaibaicdcaaD6
import Derived.Test.YtkcimaibaicdcaaD14
section
namespace Go.Proofs.Ytkcimaibaicdcaa.P
open Go.RowKit Go.Proofs.YtkcimaibaicdcaaW.PrintWords Go.Proofs.YtkcimaibaicdcaaW.PrintLast Go.Proofs.YtkcimaibaicdcaaW.PrintMore
attribute [local go_sem] max2_int min2_int max_two min_two max_three min_three max_four min_four   
set_option linter.unusedVariables false
set_option linter.unusedSimpArgs false
mutual
def dom_nearest.l0 : Nat → List (List Bool) → List Int → Int → Int → Option (List Int)
 | 0, _, _, _, _ => none
 | k + 1, x0, x3, x10, x11 => if x11 < x10 then (if 0 ≤ x11 then (if x11 < (x3.length : Int) then (dom_nearest.l1 k x0 (x3.set (x11 : Int).toNat (-1)) x11 x10 x11 (x0.length : Int) 0) else (none)) else (none)) else (some x3)
def dom_nearest.l1 : Nat → List (List Bool) → List Int → Int → Int → Int → Int → Int → Option (List Int)
 | 0, _, _, _, _, _, _, _ => none
 | k + 1, x0, x3, x4, x10, x11, x18, x19 => if x19 < x18 then (if x19 = x4 then (dom_nearest.j2 k x0 x3 x4 x19 x10 x11 x18 x19 true) else (if 0 ≤ x19 then (if x19 < (x0.length : Int) then (if 0 ≤ x4 then (if x4 < ((rd_L9 x0 x19).length : Int) then (dom_nearest.j2 k x0 x3 x4 x19 x10 x11 x18 x19 (!(rdOf false (rd_L9 x0 x19) x4))) else (none)) else (none)) else (none)) else (none))) else (dom_nearest.l0 k x0 x3 x10 (wrap64 (x11 + 1)))
def dom_nearest.j2 : Nat → List (List Bool) → List Int → Int → Int → Int → Int → Int → Int → Bool → Option (List Int)
 | 0, _, _, _, _, _, _, _, _, _ => none
 | k + 1, x0, x3, x4, x5, x10, x11, x18, x19, x34 => if x34 = true then (dom_nearest.l1 k x0 x3 x4 x10 x11 x18 (wrap64 (x19 + 1))) else (if 0 ≤ x4 then (if x4 < (x3.length : Int) then (if (rd x3 x4) < 0 then (dom_nearest.l1 k x0 (x3.set (x4 : Int).toNat x5) x4 x10 x11 x18 (wrap64 (x19 + 1))) else (if 0 ≤ (rd x3 x4) then (if (rd x3 x4) < (x0.length : Int) then (if 0 ≤ x5 then (if x5 < ((rd_L9 x0 (rd x3 x4)).length : Int) then (if rdOf false (rd_L9 x0 (rd x3 x4)) x5 = true then (dom_nearest.l1 k x0 (x3.set (x4 : Int).toNat x5) x4 x10 x11 x18 (wrap64 (x19 + 1))) else (dom_nearest.l1 k x0 x3 x4 x10 x11 x18 (wrap64 (x19 + 1)))) else (none)) else (none)) else (none)) else (none))) else (none)) else (none))
end
def dom_nearest.f (k : Nat) (l0 : List (List Bool)) : Option (List Int) := if 0 ≤ (l0.length : Int) then (if ((l0.length : Int) : Int).toNat ≤ 35184372088832 then ((some (List.replicate ((l0.length : Int) : Int).toNat 0 : List Int)).bind fun y446 => (dom_nearest.l0 k l0 y446 (y446.length : Int) 0)) else (none)) else (none)
theorem dom_nearest.mono_l : ∀ k, (∀ y0 y1 y2 y3, LeO (dom_nearest.l0 k y0 y1 y2 y3) (dom_nearest.l0 (k + 1) y0 y1 y2 y3)) ∧ (∀ y0 y1 y2 y3 y4 y5 y6, LeO (dom_nearest.l1 k y0 y1 y2 y3 y4 y5 y6) (dom_nearest.l1 (k + 1) y0 y1 y2 y3 y4 y5 y6)) ∧ (∀ y0 y1 y2 y3 y4 y5 y6 y7 y8, LeO (dom_nearest.j2 k y0 y1 y2 y3 y4 y5 y6 y7 y8) (dom_nearest.j2 (k + 1) y0 y1 y2 y3 y4 y5 y6 y7 y8))
 | 0 => ⟨fun _ _ _ _ r h => by simp [dom_nearest.l0] at h, fun _ _ _ _ _ _ _ r h => by simp [dom_nearest.l1] at h, fun _ _ _ _ _ _ _ _ _ r h => by simp [dom_nearest.j2] at h⟩
 | k + 1 => by
  obtain ⟨ih0, ih1, ih2⟩ := dom_nearest.mono_l k
  refine ⟨?_, ?_, ?_⟩
  ·intro y0 y1 y2 y3
   unfold dom_nearest.l0
   repeat' first
   | (with_reducible exact ih0 _ _ _ _)
   | (with_reducible exact ih1 _ _ _ _ _ _ _)
   | (with_reducible exact ih2 _ _ _ _ _ _ _ _ _)
   | (with_reducible exact LeO.refl _)
   | (with_reducible exact LeO.none _)
   | (with_reducible refine LeO.ite ?_ ?_)
   | (with_reducible refine LeO.bind ?_ (fun _ => ?_))
   | exact ih0 _ _ _ _
   | exact ih1 _ _ _ _ _ _ _
   | exact ih2 _ _ _ _ _ _ _ _ _
   | exact LeO.none _
   | refine LeO.ite ?_ ?_
   | refine LeO.bind ?_ (fun _ => ?_)
  ·intro y0 y1 y2 y3 y4 y5 y6
   unfold dom_nearest.l1
   repeat' first
   | (with_reducible exact ih0 _ _ _ _)
   | (with_reducible exact ih1 _ _ _ _ _ _ _)
   | (with_reducible exact ih2 _ _ _ _ _ _ _ _ _)
   | (with_reducible exact LeO.refl _)
   | (with_reducible exact LeO.none _)
   | (with_reducible refine LeO.ite ?_ ?_)
   | (with_reducible refine LeO.bind ?_ (fun _ => ?_))
   | exact ih0 _ _ _ _
   | exact ih1 _ _ _ _ _ _ _
   | exact ih2 _ _ _ _ _ _ _ _ _
   | exact LeO.none _
   | refine LeO.ite ?_ ?_
   | refine LeO.bind ?_ (fun _ => ?_)
  ·intro y0 y1 y2 y3 y4 y5 y6 y7 y8
   unfold dom_nearest.j2
   repeat' first
   | (with_reducible exact ih0 _ _ _ _)
   | (with_reducible exact ih1 _ _ _ _ _ _ _)
   | (with_reducible exact ih2 _ _ _ _ _ _ _ _ _)
   | (with_reducible exact LeO.refl _)
   | (with_reducible exact LeO.none _)
   | (with_reducible refine LeO.ite ?_ ?_)
   | (with_reducible refine LeO.bind ?_ (fun _ => ?_))
   | exact ih0 _ _ _ _
   | exact ih1 _ _ _ _ _ _ _
   | exact ih2 _ _ _ _ _ _ _ _ _
   | exact LeO.none _
   | refine LeO.ite ?_ ?_
   | refine LeO.bind ?_ (fun _ => ?_)
theorem dom_nearest.mono : ∀ a0 k, LeO (dom_nearest.f k a0) (dom_nearest.f (k + 1) a0) := by
 intro a0 k
 obtain ⟨ih0, ih1, ih2⟩ := dom_nearest.mono_l k
 unfold dom_nearest.f
 repeat' first
   | (with_reducible exact ih0 _ _ _ _)
   | (with_reducible exact ih1 _ _ _ _ _ _ _)
   | (with_reducible exact ih2 _ _ _ _ _ _ _ _ _)
   | (with_reducible exact LeO.refl _)
   | (with_reducible exact LeO.none _)
   | (with_reducible refine LeO.ite ?_ ?_)
   | (with_reducible refine LeO.bind ?_ (fun _ => ?_))
   | exact ih0 _ _ _ _
   | exact ih1 _ _ _ _ _ _ _
   | exact ih2 _ _ _ _ _ _ _ _ _
   | exact LeO.none _
   | refine LeO.ite ?_ ?_
   | refine LeO.bind ?_ (fun _ => ?_)
set_option maxHeartbeats 8000000 in
set_option maxRecDepth 100000 in
theorem dom_nearest.calls (k : Nat) (A0 : Option Addr) (c0 : Nat) (l0 : List (List Bool)) (r : List Int) (w : World) (hr0 : Kd.C (Kd.slice 4 Kd.bool) w A0 l0.length l0) (hc0 : l0.length ≤ c0) (h : dom_nearest.f k l0 = some r) :
  Calls Try.prog 71 #[.slice A0 l0.length c0] w fun e w' => ∃ v0_ : Value, e = .returned (v0_) ∧ Kd.R (Kd.int .i64) 3 w' w.heap.size (fun _ => True) v0_ r ∧ Below w.heap.size w w' := by
 have HR0 := Aside0.mk hr0
 have HC0 := Aside0.mk hc0
 clear hr0 hc0; have HB := Aside0.mk (Below.refl w.heap.size w)
 have H : (if 0 ≤ (l0.length : Int) then (if ((l0.length : Int) : Int).toNat ≤ 35184372088832 then ((some (List.replicate ((l0.length : Int) : Int).toNat 0 : List Int)).bind fun y446 => (dom_nearest.l0 k l0 y446 (y446.length : Int) 0)) else (none)) else (none)) = some r := h
 clear h
 by_cases c2 : 0 ≤ (l0.length : Int)
 ·rw [if_pos c2] at H
  have c2b0 := eq_true c2
  have c2b1 : decide (0 ≤ (l0.length : Int)) = true := decide_eq_true c2
  clear c2
  by_cases c3 : ((l0.length : Int) : Int).toNat ≤ 35184372088832
  ·rw [if_pos c3] at H
   have c3b0 := eq_true c3
   have c3b1 : decide (((l0.length : Int) : Int).toNat ≤ 35184372088832) = true := decide_eq_true c3
   clear c3
   obtain ⟨y446, hy446⟩ : ∃ y_ : List Int, y_ = (List.replicate ((l0.length : Int) : Int).toNat 0) := ⟨_, rfl⟩
   replace H : (dom_nearest.l0 k l0 y446 (y446.length : Int) 0) = some r := by first | (rw [hy446]; with_reducible exact H) | (have H2_ := (Option.bind_some _ _).symm.trans H; rw [hy446]; with_reducible exact H2_) | (have H2_ := (Option.bind_some _ _).symm.trans H; with_reducible exact H2_) | with_reducible exact H | (rw [hy446]; exact H) | exact H
   have Ny446 := Aside0.mk hy446
   clear hy446
   have H' := Aside0.mk H
   clear H
   go_enter Try.func71, Try.ntmps71
   go_wp2_with (first | ((with_reducible refine gate_dst (N := 8) rfl ?_); refine Kd.R_make (Kd.int .i64) _ 3 rfl (N := 8) rfl 22 _ _ rfl (l0.length : Int) rfl rfl Try.underlying22 (.int .i64 0) 8 info3 rfl (by decide) (by omega) 0 (ok := fun _ => True) (okp := fun _ => True) rfl (fun _ hk => hk) trivial (of_decide_eq_true (by first | (with_reducible assumption) | assumption)) (Nat.le_trans (Nat.mul_le_mul_right _ (of_decide_eq_true (by first | (with_reducible assumption) | assumption) : (l0.length : Int).toNat ≤ 35184372088832)) (by omega)) (Below.refl _ _) (Nat.le_refl _) ?_; intro v447 w4 ho5 hb hg_ hnew_; clear hg_ hnew_; (first | rw [← Ny446.out] at ho5 | (simp only [Int.reduceToNat] at ho5; rw [← Ny446.out] at ho5)); have n0_ := Aside0.mk (Kd.R_lower ho5 (below_size (by repeat (first | (with_reducible first | exact HB.out | apply below_alloc | apply pw_below_drewN | apply below_drew1) | exact HB.out)))); have n1_ := Aside0.mk (below_step (by repeat (first | (with_reducible first | exact HB.out | apply below_alloc | apply pw_below_drewN | apply below_drew1) | exact HB.out)) hb); clear HB; have HO448 := n0_; have HB := n1_; clear n0_ n1_; clear hb ho5; obtain ⟨Ao6, co6, eo6⟩ := Kd.R_slice HO448.out; subst eo6))
   go_loopg [11] k (fun kq v11 w' => ∃ (x3_1 : List Int) (x11_1 : Int), v11 = .int .i64 x11_1 ∧ Aside0 (dom_nearest.l0 kq l0 x3_1 (y446.length : Int) x11_1 = some r) ∧ Aside0 (kq ≤ k) ∧ Aside0 (Kd.R (Kd.int .i64) 3 w' w.heap.size (fun _ => True) (.slice Ao6 y446.length co6) x3_1) ∧ Aside0 (Below w.heap.size w w'))
   case atStart => exact ⟨(y446), (0), (by first | rfl | (simp; done) | (simp [*]; done)), H', ⟨Nat.le_refl _⟩, ⟨by (with_reducible repeat (first | apply Kd.R_alloc | apply Kd.R_drewN | apply Kd.R_drew)); exact HO448.out⟩, ⟨by repeat (first | (with_reducible first | exact HB.out | apply below_alloc | apply pw_below_drewN | apply below_drew1) | exact HB.out)⟩⟩
   case round =>
    clear H'
    try clear c2
    try clear c2b0
    try clear c2b1
    try clear p2
    try clear c3
    try clear c3b0
    try clear c3b1
    obtain ⟨x3_1, x11_1, rfl, HA, HK1, HO_3, HB⟩ := hrel
    have hl3_1 := (Kd.R_reads' HO_3.out).1
    rw [hl3_1] at HO_3
    (try simp only [hl3_1])
    cases gk with
    | zero => exact absurd HA.out (by simp [dom_nearest.l0])
    | succ k1 =>
     have H := HA.out
     clear HA
     simp only [dom_nearest.l0] at H
     by_cases c7 : x11_1 < (y446.length : Int)
     ·rw [if_pos c7] at H
      have c7b0 : decide (x11_1 < (y446.length : Int)) = true := decide_eq_true c7
      (try simp only [hl3_1] at c7b0)
      clear c7
      by_cases c8 : 0 ≤ x11_1
      ·rw [if_pos c8] at H
       have c8b0 : decide (0 ≤ x11_1) = true := decide_eq_true c8
       clear c8
       by_cases c9 : x11_1 < (x3_1.length : Int)
       ·rw [if_pos c9] at H
        have c9b0 : decide (x11_1 < (x3_1.length : Int)) = true := decide_eq_true c9
        (try simp only [hl3_1] at c9b0)
        clear c9
        obtain ⟨y449, hy449⟩ : ∃ y_ : List Int, y_ = (x3_1.set (x11_1 : Int).toNat (-1)) := ⟨_, rfl⟩
        replace H : (dom_nearest.l1 k1 l0 y449 x11_1 (y446.length : Int) x11_1 (l0.length : Int) 0) = some r := by first | (rw [hy449]; with_reducible exact H) | (have H2_ := (Option.bind_some _ _).symm.trans H; rw [hy449]; with_reducible exact H2_) | (have H2_ := (Option.bind_some _ _).symm.trans H; with_reducible exact H2_) | with_reducible exact H | (rw [hy449]; exact H) | exact H
        have Ny449 := Aside0.mk hy449
        clear hy449
        have H' := Aside0.mk H
        clear H
        have p10 : 0 ≤ (x11_1 : Int) := of_decide_eq_true (by first | (with_reducible assumption) | assumption)
        have q10 : (x11_1 : Int) < ((x3_1.length : Int) : Int) := of_decide_eq_true (by first | (with_reducible assumption) | assumption)
        obtain ⟨go10, co10, eo10, gb10, gl10, cl10, HG10⟩ := Kd.R_form HO_3.out (by omega)
        (first | cases eo10 | (injection eo10 with ea_ en_ ec_; (first | subst ea_ | (injection ea_ with ea_; subst ea_)); subst ec_; clear en_))
        have GB10 := Aside0.mk gb10
        have GG10 := Aside0.mk HG10
        clear gb10 gl10 HG10
        obtain ⟨hx10_0, hf10_0⟩ := Kd.R_celln 0 HO_3.out (x11_1 : Int) p10 q10
        replace p10 := eq_true p10
        replace q10 := eq_true q10
        have HP11 := Kd.R_putg HO_3.out (x11_1 : Int) (-1)
        go_wp2_with (first | ((with_reducible refine gate_store (t := 3) (p := 16) rfl ?_); refine store_event (t := 3) (p := 16) (v := ?vo_w12) (w1 := (wr.setCell ⟨go10, (x11_1 : Int).toNat, none⟩ (.int .i64 (-1)))) ?hg ?ho ?hn ?hr ?_; (case ho => rfl); (case hg => rfl); (case hn => rfl); (case hr => first | (go_simp; done) | (go_simp; rfl)); intro w12 hw; have hg : wr.grownBy w12 (some go10) := (by rw [hw]; exact HP11.2); have hp_ : Kd.R (Kd.int .i64) 3 w12 w.heap.size (fun _ => True) (.slice (some ⟨go10, 0, none⟩) x3_1.length co6) y449 := (by rw [hw, Ny449.out]; exact HP11.1); clear HP11; have n0_ := Aside0.mk (hp_); have n1_ := Aside0.mk ((by rw [hw]; exact below_set (HB.out) GB10.out : Below w.heap.size w w12)); clear HO_3; clear HB; have HO_3 := n0_; have HB := n1_; clear n0_ n1_; clear hg hw hp_))
        go_loopg [19] k1 (fun kq v19 w' => ∃ (x3_2 : List Int) (x19_2 : Int), v19 = .int .i64 x19_2 ∧ Aside0 (dom_nearest.l1 kq l0 x3_2 x11_1 (y446.length : Int) x11_1 (l0.length : Int) x19_2 = some r) ∧ Aside0 (kq ≤ k1) ∧ Aside0 (Kd.R (Kd.int .i64) 3 w' w.heap.size (fun _ => True) (.slice (some ⟨go10, 0, none⟩) x3_1.length co6) x3_2) ∧ Aside0 (Below w.heap.size w w'))
        case atStart => exact ⟨(y449), (0), (by first | rfl | (simp; done) | (simp [*]; done)), H', ⟨Nat.le_refl _⟩, ⟨by (try simp only [hl3_1]); (with_reducible repeat (first | apply Kd.R_alloc | apply Kd.R_drewN | apply Kd.R_drew)); exact HO_3.out⟩, ⟨by repeat (first | (with_reducible first | exact HB.out | apply below_alloc | apply pw_below_drewN | apply below_drew1) | exact HB.out)⟩⟩
        case round =>
         clear H'
         try clear p1
         try clear q1
         try clear hx1
         try clear hf1
         try clear c2
         try clear c2b0
         try clear c2b1
         try clear p2
         try clear c3
         try clear c3b0
         try clear c3b1
         try clear c7
         try clear c7b0
         try clear c8
         try clear c8b0
         try clear c9
         try clear c9b0
         try clear p10
         try clear q10
         try clear hx10
         try clear hf10
         try clear hx10_0
         try clear p10
         try clear p2
         try clear q10
         obtain ⟨x3_2, x19_2, rfl, HA, HK2, HO_3, HB⟩ := hrel
         have hl3_2 := (Kd.R_reads' HO_3.out).1
         rw [hl3_2] at HO_3
         (try simp only [hl3_2])
         cases gk with
         | zero => exact absurd HA.out (by simp [dom_nearest.l1])
         | succ k2 =>
          have H := HA.out
          clear HA
          simp only [dom_nearest.l1] at H
          by_cases c13 : x19_2 < (l0.length : Int)
          ·rw [if_pos c13] at H
           have c13b0 : decide (x19_2 < (l0.length : Int)) = true := decide_eq_true c13
           (try simp only [hl3_1, hl3_2] at c13b0)
           clear c13
           have HC14 := Aside0.mk H
           clear H
           go_upto_region 9 with (fail)
           go_cut [34] (fun v34 wc => ∃ (kq : Nat) (x34_13 : Bool), v34 = .bool x34_13 ∧ Aside0 (dom_nearest.j2 kq l0 x3_2 x11_1 x19_2 (y446.length : Int) x11_1 (l0.length : Int) x19_2 x34_13 = some r) ∧ Aside0 (kq ≤ k2) ∧ Aside0 (Kd.R (Kd.int .i64) 3 wc w.heap.size (fun _ => True) (.slice (some ⟨go10, 0, none⟩) x3_2.length co6) x3_2) ∧ Aside0 (Below w.heap.size w wc))
           case first =>
            have H := HC14.out
            clear HC14
            by_cases c15 : x19_2 = x11_1
            ·rw [if_pos c15] at H
             have c15b0 : (x19_2 == x11_1) = true := beq_iff_eq.mpr c15
             have c15b1 : (x19_2 != x11_1) = false := bne_eq_false_iff_eq.mpr c15
             clear c15
             (first | rw [c15b0] | (simp only [i64_w, i32_w]; rw [c15b0]) | skip)
             have H' := Aside0.mk H
             clear H
             go_wp2
             go_meet
             case rel => exact ⟨_, (true), (by first | rfl | (simp; done) | (simp [*]; done)), H', ⟨by have := HK1.out; have := HK2.out; first | omega | exact Nat.le_refl _⟩, ⟨by (try simp only [hl3_1]); (try simp only [hl3_2]); (with_reducible repeat (first | apply Kd.R_alloc | apply Kd.R_drewN | apply Kd.R_drew)); exact HO_3.out⟩, ⟨by repeat (first | (with_reducible first | exact HB.out | apply below_alloc | apply pw_below_drewN | apply below_drew1) | exact HB.out)⟩⟩
            ·rw [if_neg c15] at H
             have c15b0 : (x19_2 == x11_1) = false := beq_eq_false_iff_ne.mpr c15
             have c15b1 : (x19_2 != x11_1) = true := bne_iff_ne.mpr c15
             (first | rw [c15b0] | (simp only [i64_w, i32_w]; rw [c15b0]) | skip)
             by_cases c16 : 0 ≤ x19_2
             ·rw [if_pos c16] at H
              have c16b0 : decide (0 ≤ x19_2) = true := decide_eq_true c16
              clear c16
              by_cases c17 : x19_2 < (l0.length : Int)
              ·rw [if_pos c17] at H
               have c17b0 : decide (x19_2 < (l0.length : Int)) = true := decide_eq_true c17
               (try simp only [hl3_1, hl3_2] at c17b0)
               clear c17
               by_cases c18 : 0 ≤ x11_1
               ·rw [if_pos c18] at H
                have c18b0 : decide (0 ≤ x11_1) = true := decide_eq_true c18
                clear c18
                by_cases c19 : x11_1 < ((rd_L9 l0 x19_2).length : Int)
                ·rw [if_pos c19] at H
                 have c19b0 : decide (x11_1 < ((rd_L9 l0 x19_2).length : Int)) = true := decide_eq_true c19
                 (try simp only [hl3_1, hl3_2] at c19b0)
                 clear c19
                 have H' := Aside0.mk H
                 clear H
                 have p450 : 0 ≤ (x19_2 : Int) := of_decide_eq_true (by first | (with_reducible assumption) | assumption)
                 have q450 : x19_2 < (l0.length : Int) := of_decide_eq_true (by first | (with_reducible assumption) | assumption)
                 obtain ⟨ad450, A450_0, c450_0, e450, hx450_0, hl450_0, hi450_0⟩ := at_L9 HR0.out x19_2 p450 q450
                 cases e450
                 replace hx450_0 := (HB.out.cell (World.block_lt_of_cell? w _ hx450_0)).trans hx450_0
                 have HR450_0 := Aside0.mk hi450_0
                 have HC450_0 := Aside0.mk hl450_0
                 clear hi450_0 hl450_0
                 replace p450 := eq_true p450
                 replace q450 := eq_true q450
                 have p451 : 0 ≤ (x11_1 : Int) := of_decide_eq_true (by first | (with_reducible assumption) | assumption)
                 have q451 : x11_1 < ((rd_L9 l0 x19_2).length : Int) := of_decide_eq_true (by first | (with_reducible assumption) | assumption)
                 obtain ⟨ad451, e451, hx451_0⟩ := Kd.at_bool HR450_0.out x11_1 p451 q451
                 cases e451
                 replace hx451_0 := (HB.out.cell (World.block_lt_of_cell? w _ hx451_0)).trans hx451_0
                 replace p451 := eq_true p451
                 replace q451 := eq_true q451
                 go_wp2
                 go_meet
                 case rel => exact ⟨_, (!(rdOf false (rd_L9 l0 x19_2) x11_1)), (by first | rfl | (simp; done) | (simp [*]; done)), H', ⟨by have := HK1.out; have := HK2.out; first | omega | exact Nat.le_refl _⟩, ⟨by (try simp only [hl3_1]); (try simp only [hl3_2]); (with_reducible repeat (first | apply Kd.R_alloc | apply Kd.R_drewN | apply Kd.R_drew)); exact HO_3.out⟩, ⟨by repeat (first | (with_reducible first | exact HB.out | apply below_alloc | apply pw_below_drewN | apply below_drew1) | exact HB.out)⟩⟩
                ·rw [if_neg c19] at H
                 exact absurd H (by simp)
               ·rw [if_neg c18] at H
                exact absurd H (by simp)
              ·rw [if_neg c17] at H
               exact absurd H (by simp)
             ·rw [if_neg c16] at H
              exact absurd H (by simp)
           case rest =>
            clear HC14
            try clear c1
            try clear p1
            try clear q1
            try clear hx1
            try clear hf1
            try clear c2
            try clear c2b0
            try clear c2b1
            try clear p2
            try clear c3
            try clear c3b0
            try clear c3b1
            try clear c4
            try clear p4
            try clear q4
            try clear hx4
            try clear c7
            try clear c7b0
            try clear c8
            try clear c8b0
            try clear c9
            try clear c9b0
            try clear p10
            try clear q10
            try clear hx10
            try clear hf10
            try clear c13
            try clear c13b0
            try clear c15
            try clear c15b0
            try clear c15b1
            try clear c16
            try clear c16b0
            try clear c17
            try clear c17b0
            try clear c18
            try clear c18b0
            try clear c19
            try clear c19b0
            try clear hx10_0
            try clear hx450_0
            try clear hx451_0
            try clear p1
            try clear p10
            try clear p2
            try clear p450
            try clear p451
            try clear q1
            try clear q10
            try clear q450
            try clear q451
            obtain ⟨kq, x34_13, rfl, HA, HJ13, HO_3, HB⟩ := hcut
            cases kq with
            | zero => exact absurd HA.out (by simp [dom_nearest.j2])
            | succ kj13 =>
             have H := HA.out
             clear HA
             simp only [dom_nearest.j2] at H
             by_cases c20 : x34_13 = true
             ·subst c20
              have H1 : (dom_nearest.l1 kj13 l0 x3_2 x11_1 (y446.length : Int) x11_1 (l0.length : Int) (wrap64 (x19_2 + 1))) = some r := by rw [if_pos rfl] at H; exact H
              clear H; have H := H1; clear H1
              have H' := Aside0.mk H
              clear H
              go_wp2
              (try simp only [← hl3_2])
              go_roundg kj13
              case measure => have := HK1.out; have := HK2.out; have := HJ13.out; omega
              case rel => exact ⟨(x3_2), (wrap64 (x19_2 + 1)), (by first | rfl | (simp; done) | (simp [*]; done)), H', ⟨by have := HK1.out; have := HK2.out; have := HJ13.out; omega⟩, ⟨by (try simp only [hl3_1]); (try simp only [hl3_2]); (with_reducible repeat (first | apply Kd.R_alloc | apply Kd.R_drewN | apply Kd.R_drew)); exact HO_3.out⟩, ⟨by repeat (first | (with_reducible first | exact HB.out | apply below_alloc | apply pw_below_drewN | apply below_drew1) | exact HB.out)⟩⟩
             ·replace c20 := Bool.eq_false_iff.mpr c20
              subst c20
              have H1 : (if 0 ≤ x11_1 then (if x11_1 < (x3_2.length : Int) then (if (rd x3_2 x11_1) < 0 then (dom_nearest.l1 kj13 l0 (x3_2.set (x11_1 : Int).toNat x19_2) x11_1 (y446.length : Int) x11_1 (l0.length : Int) (wrap64 (x19_2 + 1))) else (if 0 ≤ (rd x3_2 x11_1) then (if (rd x3_2 x11_1) < (l0.length : Int) then (if 0 ≤ x19_2 then (if x19_2 < ((rd_L9 l0 (rd x3_2 x11_1)).length : Int) then (if rdOf false (rd_L9 l0 (rd x3_2 x11_1)) x19_2 = true then (dom_nearest.l1 kj13 l0 (x3_2.set (x11_1 : Int).toNat x19_2) x11_1 (y446.length : Int) x11_1 (l0.length : Int) (wrap64 (x19_2 + 1))) else (dom_nearest.l1 kj13 l0 x3_2 x11_1 (y446.length : Int) x11_1 (l0.length : Int) (wrap64 (x19_2 + 1)))) else (none)) else (none)) else (none)) else (none))) else (none)) else (none)) = some r := by rw [if_neg (show ¬ (false = true) by decide)] at H; exact H
              clear H; have H := H1; clear H1
              by_cases c21 : 0 ≤ x11_1
              ·rw [if_pos c21] at H
               have c21b0 : decide (0 ≤ x11_1) = true := decide_eq_true c21
               clear c21
               by_cases c22 : x11_1 < (x3_2.length : Int)
               ·rw [if_pos c22] at H
                have c22b0 : decide (x11_1 < (x3_2.length : Int)) = true := decide_eq_true c22
                (try simp only [hl3_1, hl3_2] at c22b0)
                clear c22
                by_cases c23 : (rd x3_2 x11_1) < 0
                ·rw [if_pos c23] at H
                 have c23b0 : decide ((rd x3_2 x11_1) < 0) = true := decide_eq_true c23
                 clear c23
                 obtain ⟨y453, hy453⟩ : ∃ y_ : List Int, y_ = (x3_2.set (x11_1 : Int).toNat x19_2) := ⟨_, rfl⟩
                 replace H : (dom_nearest.l1 kj13 l0 y453 x11_1 (y446.length : Int) x11_1 (l0.length : Int) (wrap64 (x19_2 + 1))) = some r := by first | (rw [hy453]; with_reducible exact H) | (have H2_ := (Option.bind_some _ _).symm.trans H; rw [hy453]; with_reducible exact H2_) | (have H2_ := (Option.bind_some _ _).symm.trans H; with_reducible exact H2_) | with_reducible exact H | (rw [hy453]; exact H) | exact H
                 have Ny453 := Aside0.mk hy453
                 clear hy453
                 have H' := Aside0.mk H
                 clear H
                 have p452 : 0 ≤ (x11_1 : Int) := of_decide_eq_true (by first | (with_reducible assumption) | assumption)
                 have q452 : x11_1 < (x3_2.length : Int) := of_decide_eq_true (by first | (with_reducible assumption) | assumption)
                 obtain ⟨ad452, e452, hx452_0⟩ := Kd.at_int (Kd.R_reads' HO_3.out).2.2 x11_1 p452 q452
                 obtain rfl : (⟨go10, 0, none⟩ : Addr) = ad452 := (by injection e452)
                 (first | simp only [add_plain] at hx452_0 | simp only [add_at] at hx452_0 | simp only [Addr.add, Nat.zero_add] at hx452_0 | skip)
                 replace p452 := eq_true p452
                 replace q452 := eq_true q452
                 have p24 : 0 ≤ (x11_1 : Int) := of_decide_eq_true (by first | (with_reducible assumption) | assumption)
                 have q24 : (x11_1 : Int) < ((x3_2.length : Int) : Int) := of_decide_eq_true (by first | (with_reducible assumption) | assumption)
                 obtain ⟨hx24_0, hf24_0⟩ := Kd.R_celln 0 HO_3.out (x11_1 : Int) p24 q24
                 replace p24 := eq_true p24
                 replace q24 := eq_true q24
                 have HP25 := Kd.R_putg HO_3.out (x11_1 : Int) x19_2
                 go_wp2_with (first | ((with_reducible refine gate_store (t := 3) (p := 55) rfl ?_); refine store_event (t := 3) (p := 55) (v := ?vo_w26) (w1 := (wc.setCell ⟨go10, (x11_1 : Int).toNat, none⟩ (.int .i64 x19_2))) ?hg ?ho ?hn ?hr ?_; (case ho => rfl); (case hg => rfl); (case hn => rfl); (case hr => first | (go_simp; done) | (go_simp; rfl)); intro w26 hw; have hg : wc.grownBy w26 (some go10) := (by rw [hw]; exact HP25.2); have hp_ : Kd.R (Kd.int .i64) 3 w26 w.heap.size (fun _ => True) (.slice (some ⟨go10, 0, none⟩) x3_2.length co6) y453 := (by rw [hw, Ny453.out]; exact HP25.1); clear HP25; have n0_ := Aside0.mk (hp_); have n1_ := Aside0.mk ((by rw [hw]; exact below_set (HB.out) GB10.out : Below w.heap.size w w26)); clear HO_3; clear HB; have HO_3 := n0_; have HB := n1_; clear n0_ n1_; clear hg hw hp_))
                 (try simp only [← hl3_2])
                 go_roundg kj13
                 case measure => have := HK1.out; have := HK2.out; have := HJ13.out; omega
                 case rel => exact ⟨(y453), (wrap64 (x19_2 + 1)), (by first | rfl | (simp; done) | (simp [*]; done)), H', ⟨by have := HK1.out; have := HK2.out; have := HJ13.out; omega⟩, ⟨by (try simp only [hl3_1]); (try simp only [hl3_2]); (with_reducible repeat (first | apply Kd.R_alloc | apply Kd.R_drewN | apply Kd.R_drew)); exact HO_3.out⟩, ⟨by repeat (first | (with_reducible first | exact HB.out | apply below_alloc | apply pw_below_drewN | apply below_drew1) | exact HB.out)⟩⟩
                ·rw [if_neg c23] at H
                 have c23b0 : decide ((rd x3_2 x11_1) < 0) = false := decide_eq_false c23
                 clear c23
                 by_cases c27 : 0 ≤ (rd x3_2 x11_1)
                 ·rw [if_pos c27] at H
                  have c27b0 : decide (0 ≤ (rd x3_2 x11_1)) = true := decide_eq_true c27
                  clear c27
                  by_cases c28 : (rd x3_2 x11_1) < (l0.length : Int)
                  ·rw [if_pos c28] at H
                   have c28b0 : decide ((rd x3_2 x11_1) < (l0.length : Int)) = true := decide_eq_true c28
                   (try simp only [hl3_1, hl3_2] at c28b0)
                   clear c28
                   by_cases c29 : 0 ≤ x19_2
                   ·rw [if_pos c29] at H
                    have c29b0 : decide (0 ≤ x19_2) = true := decide_eq_true c29
                    clear c29
                    by_cases c30 : x19_2 < ((rd_L9 l0 (rd x3_2 x11_1)).length : Int)
                    ·rw [if_pos c30] at H
                     have c30b0 : decide (x19_2 < ((rd_L9 l0 (rd x3_2 x11_1)).length : Int)) = true := decide_eq_true c30
                     (try simp only [hl3_1, hl3_2] at c30b0)
                     clear c30
                     obtain ⟨bq31, hbq31⟩ : ∃ b_ : Bool, b_ = (rdOf false (rd_L9 l0 (rd x3_2 x11_1)) x19_2) := ⟨_, rfl⟩
                     replace H : (if bq31 = true then (dom_nearest.l1 kj13 l0 (x3_2.set (x11_1 : Int).toNat x19_2) x11_1 (y446.length : Int) x11_1 (l0.length : Int) (wrap64 (x19_2 + 1))) else (dom_nearest.l1 kj13 l0 x3_2 x11_1 (y446.length : Int) x11_1 (l0.length : Int) (wrap64 (x19_2 + 1)))) = some r := by rw [← hbq31] at H; exact H
                     have Nbq31 := Aside0.mk hbq31
                     clear hbq31
                     (try rw [← Nbq31.out] at hx451_0)
                     by_cases c32 : bq31 = true
                     ·subst c32
                      have H1 : (dom_nearest.l1 kj13 l0 (x3_2.set (x11_1 : Int).toNat x19_2) x11_1 (y446.length : Int) x11_1 (l0.length : Int) (wrap64 (x19_2 + 1))) = some r := by rw [if_pos rfl] at H; exact H
                      clear H; have H := H1; clear H1
                      obtain ⟨y457, hy457⟩ : ∃ y_ : List Int, y_ = (x3_2.set (x11_1 : Int).toNat x19_2) := ⟨_, rfl⟩
                      replace H : (dom_nearest.l1 kj13 l0 y457 x11_1 (y446.length : Int) x11_1 (l0.length : Int) (wrap64 (x19_2 + 1))) = some r := by first | (rw [hy457]; with_reducible exact H) | (have H2_ := (Option.bind_some _ _).symm.trans H; rw [hy457]; with_reducible exact H2_) | (have H2_ := (Option.bind_some _ _).symm.trans H; with_reducible exact H2_) | with_reducible exact H | (rw [hy457]; exact H) | exact H
                      have Ny457 := Aside0.mk hy457
                      clear hy457
                      have H' := Aside0.mk H
                      clear H
                      have p452 : 0 ≤ (x11_1 : Int) := of_decide_eq_true (by first | (with_reducible assumption) | assumption)
                      have q452 : x11_1 < (x3_2.length : Int) := of_decide_eq_true (by first | (with_reducible assumption) | assumption)
                      obtain ⟨ad452, e452, hx452_0⟩ := Kd.at_int (Kd.R_reads' HO_3.out).2.2 x11_1 p452 q452
                      obtain rfl : (⟨go10, 0, none⟩ : Addr) = ad452 := (by injection e452)
                      (first | simp only [add_plain] at hx452_0 | simp only [add_at] at hx452_0 | simp only [Addr.add, Nat.zero_add] at hx452_0 | skip)
                      replace p452 := eq_true p452
                      replace q452 := eq_true q452
                      have p454 : 0 ≤ (x11_1 : Int) := of_decide_eq_true (by first | (with_reducible assumption) | assumption)
                      have q454 : x11_1 < (x3_2.length : Int) := of_decide_eq_true (by first | (with_reducible assumption) | assumption)
                      obtain ⟨ad454, e454, hx454_0⟩ := Kd.at_int (Kd.R_reads' HO_3.out).2.2 x11_1 p454 q454
                      obtain rfl : (⟨go10, 0, none⟩ : Addr) = ad454 := (by injection e454)
                      (first | simp only [add_plain] at hx454_0 | simp only [add_at] at hx454_0 | simp only [Addr.add, Nat.zero_add] at hx454_0 | skip)
                      replace p454 := eq_true p454
                      replace q454 := eq_true q454
                      have p455 : 0 ≤ ((rd x3_2 x11_1) : Int) := of_decide_eq_true (by first | (with_reducible assumption) | assumption)
                      have q455 : (rd x3_2 x11_1) < (l0.length : Int) := of_decide_eq_true (by first | (with_reducible assumption) | assumption)
                      obtain ⟨ad455, A455_0, c455_0, e455, hx455_0, hl455_0, hi455_0⟩ := at_L9 HR0.out (rd x3_2 x11_1) p455 q455
                      cases e455
                      replace hx455_0 := (HB.out.cell (World.block_lt_of_cell? w _ hx455_0)).trans hx455_0
                      have HR455_0 := Aside0.mk hi455_0
                      have HC455_0 := Aside0.mk hl455_0
                      clear hi455_0 hl455_0
                      replace p455 := eq_true p455
                      replace q455 := eq_true q455
                      have p456 : 0 ≤ (x19_2 : Int) := of_decide_eq_true (by first | (with_reducible assumption) | assumption)
                      have q456 : x19_2 < ((rd_L9 l0 (rd x3_2 x11_1)).length : Int) := of_decide_eq_true (by first | (with_reducible assumption) | assumption)
                      obtain ⟨ad456, e456, hx456_0⟩ := Kd.at_bool HR455_0.out x19_2 p456 q456
                      (try rw [← Nbq31.out] at hx456_0)
                      cases e456
                      replace hx456_0 := (HB.out.cell (World.block_lt_of_cell? w _ hx456_0)).trans hx456_0
                      replace p456 := eq_true p456
                      replace q456 := eq_true q456
                      have p33 : 0 ≤ (x11_1 : Int) := of_decide_eq_true (by first | (with_reducible assumption) | assumption)
                      have q33 : (x11_1 : Int) < ((x3_2.length : Int) : Int) := of_decide_eq_true (by first | (with_reducible assumption) | assumption)
                      obtain ⟨hx33_0, hf33_0⟩ := Kd.R_celln 0 HO_3.out (x11_1 : Int) p33 q33
                      replace p33 := eq_true p33
                      replace q33 := eq_true q33
                      have HP34 := Kd.R_putg HO_3.out (x11_1 : Int) x19_2
                      go_wp2_with (first | ((with_reducible refine gate_store (t := 3) (p := 55) rfl ?_); refine store_event (t := 3) (p := 55) (v := ?vo_w35) (w1 := (wc.setCell ⟨go10, (x11_1 : Int).toNat, none⟩ (.int .i64 x19_2))) ?hg ?ho ?hn ?hr ?_; (case ho => rfl); (case hg => rfl); (case hn => rfl); (case hr => first | (go_simp; done) | (go_simp; rfl)); intro w35 hw; have hg : wc.grownBy w35 (some go10) := (by rw [hw]; exact HP34.2); have hp_ : Kd.R (Kd.int .i64) 3 w35 w.heap.size (fun _ => True) (.slice (some ⟨go10, 0, none⟩) x3_2.length co6) y457 := (by rw [hw, Ny457.out]; exact HP34.1); clear HP34; have n0_ := Aside0.mk (hp_); have n1_ := Aside0.mk ((by rw [hw]; exact below_set (HB.out) GB10.out : Below w.heap.size w w35)); clear HO_3; clear HB; have HO_3 := n0_; have HB := n1_; clear n0_ n1_; clear hg hw hp_))
                      (try simp only [← hl3_2])
                      go_roundg kj13
                      case measure => have := HK1.out; have := HK2.out; have := HJ13.out; omega
                      case rel => exact ⟨(y457), (wrap64 (x19_2 + 1)), (by first | rfl | (simp; done) | (simp [*]; done)), H', ⟨by have := HK1.out; have := HK2.out; have := HJ13.out; omega⟩, ⟨by (try simp only [hl3_1]); (try simp only [hl3_2]); (with_reducible repeat (first | apply Kd.R_alloc | apply Kd.R_drewN | apply Kd.R_drew)); exact HO_3.out⟩, ⟨by repeat (first | (with_reducible first | exact HB.out | apply below_alloc | apply pw_below_drewN | apply below_drew1) | exact HB.out)⟩⟩
                     ·replace c32 := Bool.eq_false_iff.mpr c32
                      subst c32
                      have H1 : (dom_nearest.l1 kj13 l0 x3_2 x11_1 (y446.length : Int) x11_1 (l0.length : Int) (wrap64 (x19_2 + 1))) = some r := by rw [if_neg (show ¬ (false = true) by decide)] at H; exact H
                      clear H; have H := H1; clear H1
                      have H' := Aside0.mk H
                      clear H
                      have p452 : 0 ≤ (x11_1 : Int) := of_decide_eq_true (by first | (with_reducible assumption) | assumption)
                      have q452 : x11_1 < (x3_2.length : Int) := of_decide_eq_true (by first | (with_reducible assumption) | assumption)
                      obtain ⟨ad452, e452, hx452_0⟩ := Kd.at_int (Kd.R_reads' HO_3.out).2.2 x11_1 p452 q452
                      obtain rfl : (⟨go10, 0, none⟩ : Addr) = ad452 := (by injection e452)
                      (first | simp only [add_plain] at hx452_0 | simp only [add_at] at hx452_0 | simp only [Addr.add, Nat.zero_add] at hx452_0 | skip)
                      replace p452 := eq_true p452
                      replace q452 := eq_true q452
                      have p454 : 0 ≤ (x11_1 : Int) := of_decide_eq_true (by first | (with_reducible assumption) | assumption)
                      have q454 : x11_1 < (x3_2.length : Int) := of_decide_eq_true (by first | (with_reducible assumption) | assumption)
                      obtain ⟨ad454, e454, hx454_0⟩ := Kd.at_int (Kd.R_reads' HO_3.out).2.2 x11_1 p454 q454
                      obtain rfl : (⟨go10, 0, none⟩ : Addr) = ad454 := (by injection e454)
                      (first | simp only [add_plain] at hx454_0 | simp only [add_at] at hx454_0 | simp only [Addr.add, Nat.zero_add] at hx454_0 | skip)
                      replace p454 := eq_true p454
                      replace q454 := eq_true q454
                      have p455 : 0 ≤ ((rd x3_2 x11_1) : Int) := of_decide_eq_true (by first | (with_reducible assumption) | assumption)
                      have q455 : (rd x3_2 x11_1) < (l0.length : Int) := of_decide_eq_true (by first | (with_reducible assumption) | assumption)
                      obtain ⟨ad455, A455_0, c455_0, e455, hx455_0, hl455_0, hi455_0⟩ := at_L9 HR0.out (rd x3_2 x11_1) p455 q455
                      cases e455
                      replace hx455_0 := (HB.out.cell (World.block_lt_of_cell? w _ hx455_0)).trans hx455_0
                      have HR455_0 := Aside0.mk hi455_0
                      have HC455_0 := Aside0.mk hl455_0
                      clear hi455_0 hl455_0
                      replace p455 := eq_true p455
                      replace q455 := eq_true q455
                      have p456 : 0 ≤ (x19_2 : Int) := of_decide_eq_true (by first | (with_reducible assumption) | assumption)
                      have q456 : x19_2 < ((rd_L9 l0 (rd x3_2 x11_1)).length : Int) := of_decide_eq_true (by first | (with_reducible assumption) | assumption)
                      obtain ⟨ad456, e456, hx456_0⟩ := Kd.at_bool HR455_0.out x19_2 p456 q456
                      (try rw [← Nbq31.out] at hx456_0)
                      cases e456
                      replace hx456_0 := (HB.out.cell (World.block_lt_of_cell? w _ hx456_0)).trans hx456_0
                      replace p456 := eq_true p456
                      replace q456 := eq_true q456
                      go_wp2
                      (try simp only [← hl3_2])
                      go_roundg kj13
                      case measure => have := HK1.out; have := HK2.out; have := HJ13.out; omega
                      case rel => exact ⟨(x3_2), (wrap64 (x19_2 + 1)), (by first | rfl | (simp; done) | (simp [*]; done)), H', ⟨by have := HK1.out; have := HK2.out; have := HJ13.out; omega⟩, ⟨by (try simp only [hl3_1]); (try simp only [hl3_2]); (with_reducible repeat (first | apply Kd.R_alloc | apply Kd.R_drewN | apply Kd.R_drew)); exact HO_3.out⟩, ⟨by repeat (first | (with_reducible first | exact HB.out | apply below_alloc | apply pw_below_drewN | apply below_drew1) | exact HB.out)⟩⟩
                    ·rw [if_neg c30] at H
                     exact absurd H (by simp)
                   ·rw [if_neg c29] at H
                    exact absurd H (by simp)
                  ·rw [if_neg c28] at H
                   exact absurd H (by simp)
                 ·rw [if_neg c27] at H
                  exact absurd H (by simp)
               ·rw [if_neg c22] at H
                exact absurd H (by simp)
              ·rw [if_neg c21] at H
               exact absurd H (by simp)
          ·rw [if_neg c13] at H
           have c13b0 : decide (x19_2 < (l0.length : Int)) = false := decide_eq_false c13
           (try simp only [hl3_1, hl3_2] at c13b0)
           clear c13
           have H' := Aside0.mk H
           clear H
           go_wp2
           (try simp only [← hl3_1, ← hl3_2])
           go_roundg k2
           case measure => have := HK1.out; have := HK2.out; omega
           case rel => exact ⟨(x3_2), (wrap64 (x11_1 + 1)), (by first | rfl | (simp; done) | (simp [*]; done)), H', ⟨by have := HK1.out; have := HK2.out; omega⟩, ⟨by (try simp only [hl3_1]); (try simp only [hl3_2]); (with_reducible repeat (first | apply Kd.R_alloc | apply Kd.R_drewN | apply Kd.R_drew)); exact HO_3.out⟩, ⟨by repeat (first | (with_reducible first | exact HB.out | apply below_alloc | apply pw_below_drewN | apply below_drew1) | exact HB.out)⟩⟩
       ·rw [if_neg c9] at H
        exact absurd H (by simp)
      ·rw [if_neg c8] at H
       exact absurd H (by simp)
     ·rw [if_neg c7] at H
      have c7b0 : decide (x11_1 < (y446.length : Int)) = false := decide_eq_false c7
      (try simp only [hl3_1] at c7b0)
      clear c7
      obtain rfl := Option.some.inj H
      go_wp2
      go_ret
      exact ⟨_, by first | rfl | (simp [errW_none, errW_some] <;> rfl) | (simp [*, errW_none, errW_some] <;> rfl), by (with_reducible repeat (first | apply Kd.R_alloc | apply Kd.R_drewN | apply Kd.R_drew)); exact HO_3.out, by repeat (first | (with_reducible first | exact HB.out | apply below_alloc | apply pw_below_drewN | apply below_drew1) | exact HB.out)⟩
  ·rw [if_neg c3] at H
   exact absurd H (by simp)
 ·rw [if_neg c2] at H
  exact absurd H (by simp)
end Go.Proofs.Ytkcimaibaicdcaa.P
end
section
namespace Go.Proofs.Ytkcimaibaicdcaa.P
open Go.RowKit Go.Proofs.YtkcimaibaicdcaaW.PrintWords Go.Proofs.YtkcimaibaicdcaaW.PrintLast Go.Proofs.YtkcimaibaicdcaaW.PrintMore
attribute [local go_sem] max2_int min2_int max_two min_two max_three min_three max_four min_four   
set_option linter.unusedVariables false
set_option linter.unusedSimpArgs false
def dom_Over.f (k : Nat) (a0_0 : ByteArray) (a0_1 : Bool) (l0_2 : List Int) (a0_3 : Int) (l0_4 : List (S54)) : Option (List Int) := (dom_over.f k a0_0 a0_1 l0_2 a0_3 l0_4).bind fun t459 => ((dom_nearest.f k t459).bind fun t462 => (some t462))
theorem dom_Over.mono : ∀ a0 a1 a2 a3 a4 k, LeO (dom_Over.f k a0 a1 a2 a3 a4) (dom_Over.f (k + 1) a0 a1 a2 a3 a4) := by
 intro a0 a1 a2 a3 a4 k
 unfold dom_Over.f
 repeat' first
   | (with_reducible exact dom_nearest.mono _ _)
   | (with_reducible exact dom_over.mono _ _ _ _ _ _)
   | (with_reducible exact LeO.refl _)
   | (with_reducible exact LeO.none _)
   | (with_reducible refine LeO.ite ?_ ?_)
   | (with_reducible refine LeO.bind ?_ (fun _ => ?_))
   | exact dom_nearest.mono _ _
   | exact dom_over.mono _ _ _ _ _ _
   | exact LeO.none _
   | refine LeO.ite ?_ ?_
   | refine LeO.bind ?_ (fun _ => ?_)
set_option maxHeartbeats 8000000 in
set_option maxRecDepth 100000 in
theorem dom_Over.calls (k : Nat) (a0_0 : ByteArray) (a0_1 : Bool) (A0_2 : Option Addr) (c0_2 : Nat) (l0_2 : List Int) (a0_3 : Int) (A0_4 : Option Addr) (c0_4 : Nat) (l0_4 : List (S54)) (r : List Int) (w : World) (hr0_2 : Kd.C (Kd.int .i64) w A0_2 l0_2.length l0_2) (hc0_2 : l0_2.length ≤ c0_2) (hr0_4 : Kd.C k54 w A0_4 l0_4.length l0_4) (hc0_4 : l0_4.length ≤ c0_4) (h : dom_Over.f k a0_0 a0_1 l0_2 a0_3 l0_4 = some r) :
  Calls Try.prog 37 #[.agg #[.string a0_0, .bool a0_1, .slice A0_2 l0_2.length c0_2, .int .i64 a0_3, .slice A0_4 l0_4.length c0_4]] w fun e w' => ∃ v0_ : Value, e = .returned (v0_) ∧ Kd.R (Kd.int .i64) 3 w' w.heap.size (fun _ => True) v0_ r ∧ Below w.heap.size w w' := by
 have hu25 := Try.underlying25
 have HR0_2 := Aside0.mk hr0_2
 have HC0_2 := Aside0.mk hc0_2
 clear hr0_2 hc0_2
 have HR0_4 := Aside0.mk hr0_4
 have HC0_4 := Aside0.mk hc0_4
 clear hr0_4 hc0_4; have HB := Aside0.mk (Below.refl w.heap.size w)
 have H : ((dom_over.f k a0_0 a0_1 l0_2 a0_3 l0_4).bind fun t459 => ((dom_nearest.f k t459).bind fun t462 => (some t462))) = some r := h
 clear h
 replace H := Option.bind_eq_some_iff.mp H
 obtain ⟨t459, A20, H⟩ := H
 replace H : ((dom_nearest.f k t459).bind fun t462 => (some t462)) = some r := H
 have A2 := Aside0.mk A20
 clear A20
 replace H := Option.bind_eq_some_iff.mp H
 obtain ⟨t462, A30, H⟩ := H
 replace H : (some t462) = some r := H
 have A3 := Aside0.mk A30
 clear A30
 obtain rfl := Option.some.inj H
 go_enter Try.func37, Try.ntmps37
 go_wp2_with (first | ((with_reducible refine gate_dst (N := 1) rfl ?_); refine box_event ?hg (N := 1) ?hd (cs := #[.string a0_0, .bool a0_1, .slice A0_2 l0_2.length c0_2, .int .i64 a0_3, .slice A0_4 l0_4.length c0_4]) (t := 25) ?hr ?_; (case hd => rfl); (case hg => rfl); (case hr => first | (go_simp; done) | (go_simp; rfl)); intro gb458 hg w4 hbox hb; have n0_ := Aside0.mk (below_step (by repeat (first | (with_reducible first | exact HB.out | apply below_alloc | apply pw_below_drewN | apply below_drew1) | exact HB.out)) hb); have n1_ := Aside0.mk (hbox); have n2_ := Aside0.mk ((by rw [hg]; exact (below_size (by repeat (first | (with_reducible first | exact HB.out | apply below_alloc | apply pw_below_drewN | apply below_drew1) | exact HB.out))) : w.heap.size ≤ gb458)); have n3_ := Aside0.mk ((by rw [hg]; exact (below_size (by repeat (first | (with_reducible first | exact HB.out | apply below_alloc | apply pw_below_drewN | apply below_drew1) | exact HB.out))) : w.heap.size ≤ gb458)); clear HB; have HB := n0_; have BK458 := n1_; have GW458 := n2_; have GE458 := n3_; clear n0_ n1_ n2_ n3_; clear hb hbox hg; have hcz5_0 : w4.cell? ⟨gb458, 0, none⟩ = some (.string a0_0) := (blk_cell BK458.out 0).trans rfl; have hcz5_1 : w4.cell? ⟨gb458, 1, none⟩ = some (.bool a0_1) := (blk_cell BK458.out 1).trans rfl; have hcz5_2 : w4.cell? ⟨gb458, 2, none⟩ = some (.slice A0_2 l0_2.length c0_2) := (blk_cell BK458.out 2).trans rfl; have hcz5_3 : w4.cell? ⟨gb458, 3, none⟩ = some (.int .i64 a0_3) := (blk_cell BK458.out 3).trans rfl; have hcz5_4 : w4.cell? ⟨gb458, 4, none⟩ = some (.slice A0_4 l0_4.length c0_4) := (blk_cell BK458.out 4).trans rfl; have hfz5_0 := blk_frozen BK458.out 0; have hfz5_1 := blk_frozen BK458.out 1; have hfz5_2 := blk_frozen BK458.out 2; have hfz5_3 := blk_frozen BK458.out 3; have hfz5_4 := blk_frozen BK458.out 4) | ((with_reducible refine gate_callee (f := 68) rfl ?_); refine goesL_ (some 4) rfl rfl Try.func68 (by kernel_rfl) rfl #[.agg #[.string a0_0, .bool a0_1, .slice A0_2 l0_2.length c0_2, .int .i64 a0_3, .slice A0_4 l0_4.length c0_4]] rfl (by (try simp only [List.map_toArray, List.map_cons, List.map_nil]); first | done | rfl | (simp only [List.length_drop, List.length_take]; rfl)) ?_; (with_reducible refine (dom_over.calls k a0_0 a0_1 _ _ l0_2 a0_3 _ _ l0_4 t459 _ ?side1 ?side2 ?side3 ?side4 A2.out).mono ?_); (case side1 => repeat (first | exact (Kd.C_below HR0_2.out HB.out) | (with_reducible refine Kd.C_alloc ?_ _) | (with_reducible refine Kd.C_drewN ?_ _) | (with_reducible refine Kd.C_drew ?_))); (case side2 => exact HC0_2.out); (case side3 => repeat (first | exact (Kd.C_below HR0_4.out HB.out) | (with_reducible refine Kd.C_alloc ?_ _) | (with_reducible refine Kd.C_drewN ?_ _) | (with_reducible refine Kd.C_drew ?_))); (case side4 => exact HC0_4.out); rintro e w6 ⟨v460, rfl, ho0, hb⟩; refine ⟨_, rfl, ?_⟩; have n0_ := Aside0.mk (Kd.S_lower ho0 (below_size (by repeat (first | (with_reducible first | exact HB.out | apply below_alloc | apply pw_below_drewN | apply below_drew1 | refine below_set ?_ GE458.out) | exact HB.out)))); have n1_ := Aside0.mk (blk_below (g := gb458) (o := .cells #[.string a0_0, .bool a0_1, .slice A0_2 l0_2.length c0_2, .int .i64 a0_3, .slice A0_4 l0_4.length c0_4] 25 (0, 0)) (by (with_reducible repeat (first | refine blk_drewN ?_ _ | refine blk_drew ?_ | refine blk_alloc ?_ _)); exact BK458.out) hb); have n2_ := Aside0.mk (below_step (by repeat (first | (with_reducible first | exact HB.out | apply below_alloc | apply pw_below_drewN | apply below_drew1 | refine below_set ?_ GE458.out) | exact HB.out)) hb); clear BK458; clear HB; have HO461 := n0_; have BK458 := n1_; have HB := n2_; clear n0_ n1_ n2_; (try clear hb); (try clear hb2); (try clear hk); (try clear hi); (try clear ho0); obtain ⟨Ao7, co7, eo7⟩ := Kd.S_slice HO461.out; subst eo7) | ((with_reducible refine gate_callee (f := 71) rfl ?_); refine goesL_ (some 5) rfl rfl Try.func71 (by kernel_rfl) rfl #[.slice Ao7 t459.length co7] rfl (by (try simp only [List.map_toArray, List.map_cons, List.map_nil]); first | done | rfl | (simp only [List.length_drop, List.length_take]; rfl)) ?_; (with_reducible refine (dom_nearest.calls k _ _ t459 t462 _ ?side1 ?side2 A3.out).mono ?_); (case side1 => repeat (first | exact (Kd.S_reads' HO461.out).2.2 | (with_reducible refine Kd.C_alloc ?_ _) | (with_reducible refine Kd.C_drewN ?_ _) | (with_reducible refine Kd.C_drew ?_))); (case side2 => exact (Kd.S_reads' HO461.out).2.1); rintro e w8 ⟨v463, rfl, ho0, hb⟩; refine ⟨_, rfl, ?_⟩; have n0_ := Aside0.mk (Kd.S_below (by (with_reducible repeat (first | apply Kd.S_alloc | apply Kd.S_drewN | apply Kd.S_drew)); exact HO461.out) hb); have n1_ := Aside0.mk (Kd.R_lower ho0 (below_size (by repeat (first | (with_reducible first | exact HB.out | apply below_alloc | apply pw_below_drewN | apply below_drew1 | refine below_set ?_ GE458.out) | exact HB.out)))); have n2_ := Aside0.mk (blk_below (g := gb458) (o := .cells #[.string a0_0, .bool a0_1, .slice A0_2 l0_2.length c0_2, .int .i64 a0_3, .slice A0_4 l0_4.length c0_4] 25 (0, 0)) (by (with_reducible repeat (first | refine blk_drewN ?_ _ | refine blk_drew ?_ | refine blk_alloc ?_ _)); exact BK458.out) hb); have n3_ := Aside0.mk (below_step (by repeat (first | (with_reducible first | exact HB.out | apply below_alloc | apply pw_below_drewN | apply below_drew1 | refine below_set ?_ GE458.out) | exact HB.out)) hb); clear HO461; clear BK458; clear HB; have HO461 := n0_; have HO464 := n1_; have BK458 := n2_; have HB := n3_; clear n0_ n1_ n2_ n3_; (try clear hb); (try clear hb2); (try clear hk); (try clear hi); (try clear ho0)))
 go_ret
 exact ⟨_, by first | rfl | (simp [errW_none, errW_some] <;> rfl) | (simp [*, errW_none, errW_some] <;> rfl), by (with_reducible repeat (first | apply Kd.R_alloc | apply Kd.R_drewN | apply Kd.R_drew)); exact HO464.out, by repeat (first | (with_reducible first | exact HB.out | apply below_alloc | apply pw_below_drewN | apply below_drew1 | refine below_set ?_ GE458.out) | exact HB.out)⟩
end Go.Proofs.Ytkcimaibaicdcaa.P
end
