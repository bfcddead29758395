/- A part of the proof of the law of DomWays: lemmas and walks, out of this session's texts, with what the claim does not use struck out. -/
import Derived.Test.YtkcimaibaicdcaaD6
import Derived.Test.YtkcimaibaicdcaaD10
namespace Go.Proofs.Ytkcimaibaicdcaa.P
open Go.RowKit Go.Proofs.YtkcimaibaicdcaaW.PrintWords Go.Proofs.YtkcimaibaicdcaaW.PrintLast Go.Proofs.YtkcimaibaicdcaaW.PrintMore
attribute [local go_sem] max2_int min2_int max_two min_two max_three min_three max_four min_four   
set_option linter.unusedVariables false
set_option linter.unusedSimpArgs false
mutual
def flow_Next.j0 : Nat → Int → List Int → Bool → ByteArray → Bool → List Int → Int → List (S54) → Option (List Int)
 | 0, _, _, _, _, _, _, _, _ => none
 | k + 1, x1, x5, x27, x106000, x106001, x106002, x106003, x106004 => if x27 = true then (some x5) else (if 0 ≤ x1 then (if x1 < (x106004.length : Int) then (if 0 ≤ (wrap64 ((((rd_T54 x106004 x1).f0).length : Int) - 1)) then (if (wrap64 ((((rd_T54 x106004 x1).f0).length : Int) - 1)) < (((rd_T54 x106004 x1).f0).length : Int) then (if ((rd_T56 ((rd_T54 x106004 x1).f0) (wrap64 ((((rd_T54 x106004 x1).f0).length : Int) - 1))).f0) = 27 then (flow_Next.j1 k x5 false x106000 x106001 x106002 x106003 x106004 ((rd_T56 ((rd_T54 x106004 x1).f0) (wrap64 ((((rd_T54 x106004 x1).f0).length : Int) - 1))).f0) ((rd_T56 ((rd_T54 x106004 x1).f0) (wrap64 ((((rd_T54 x106004 x1).f0).length : Int) - 1))).f1) ((rd_T56 ((rd_T54 x106004 x1).f0) (wrap64 ((((rd_T54 x106004 x1).f0).length : Int) - 1))).f2) ((rd_T56 ((rd_T54 x106004 x1).f0) (wrap64 ((((rd_T54 x106004 x1).f0).length : Int) - 1))).f3) ((rd_T56 ((rd_T54 x106004 x1).f0) (wrap64 ((((rd_T54 x106004 x1).f0).length : Int) - 1))).f4) ((rd_T56 ((rd_T54 x106004 x1).f0) (wrap64 ((((rd_T54 x106004 x1).f0).length : Int) - 1))).f5) ((rd_T56 ((rd_T54 x106004 x1).f0) (wrap64 ((((rd_T54 x106004 x1).f0).length : Int) - 1))).f6)) else (flow_Next.j1 k x5 (((rd_T56 ((rd_T54 x106004 x1).f0) (wrap64 ((((rd_T54 x106004 x1).f0).length : Int) - 1))).f0) != 28) x106000 x106001 x106002 x106003 x106004 ((rd_T56 ((rd_T54 x106004 x1).f0) (wrap64 ((((rd_T54 x106004 x1).f0).length : Int) - 1))).f0) ((rd_T56 ((rd_T54 x106004 x1).f0) (wrap64 ((((rd_T54 x106004 x1).f0).length : Int) - 1))).f1) ((rd_T56 ((rd_T54 x106004 x1).f0) (wrap64 ((((rd_T54 x106004 x1).f0).length : Int) - 1))).f2) ((rd_T56 ((rd_T54 x106004 x1).f0) (wrap64 ((((rd_T54 x106004 x1).f0).length : Int) - 1))).f3) ((rd_T56 ((rd_T54 x106004 x1).f0) (wrap64 ((((rd_T54 x106004 x1).f0).length : Int) - 1))).f4) ((rd_T56 ((rd_T54 x106004 x1).f0) (wrap64 ((((rd_T54 x106004 x1).f0).length : Int) - 1))).f5) ((rd_T56 ((rd_T54 x106004 x1).f0) (wrap64 ((((rd_T54 x106004 x1).f0).length : Int) - 1))).f6))) else (none)) else (none)) else (none)) else (none))
def flow_Next.j1 : Nat → List Int → Bool → ByteArray → Bool → List Int → Int → List (S54) → Int → Int → Int → Int → Int → List Int → List Int → Option (List Int)
 | 0, _, _, _, _, _, _, _, _, _, _, _, _, _, _ => none
 | k + 1, x5, x52, x106000, x106001, x106002, x106003, x106004, x111000, x111001, x111002, x111003, x111004, x111005, x111006 => if x52 = true then (some x5) else (flow_Next.l0 k x5 x111006 (x111006.length : Int) 0 x106000 x106001 x106002 x106003 x106004)
def flow_Next.l0 : Nat → List Int → List Int → Int → Int → ByteArray → Bool → List Int → Int → List (S54) → Option (List Int)
 | 0, _, _, _, _, _, _, _, _, _ => none
 | k + 1, x5, x55, x56, x57, x106000, x106001, x106002, x106003, x106004 => if x57 < x56 then (if 0 ≤ x57 then (if x57 < (x55.length : Int) then (if (rd x55 x57) ≥ 0 then (if (rd x55 x57) < (x106004.length : Int) then ((slices_Contains_int_int.f k x5 (rd x55 x57)).bind fun t112 => (if t112 = true then (flow_Next.l0 k x5 x55 x56 (wrap64 (x57 + 1)) x106000 x106001 x106002 x106003 x106004) else (if x5.length < 17592186044416 then (flow_Next.l0 k (x5 ++ [rd x55 x57]) x55 x56 (wrap64 (x57 + 1)) x106000 x106001 x106002 x106003 x106004) else (none)))) else (flow_Next.l0 k x5 x55 x56 (wrap64 (x57 + 1)) x106000 x106001 x106002 x106003 x106004)) else (flow_Next.l0 k x5 x55 x56 (wrap64 (x57 + 1)) x106000 x106001 x106002 x106003 x106004)) else (none)) else (none)) else (some x5)
end
def flow_Next.f (k : Nat) (a0_0 : ByteArray) (a0_1 : Bool) (l0_2 : List Int) (a0_3 : Int) (l0_4 : List (S54)) (a1 : Int) : Option (List Int) := if a1 < 0 then (flow_Next.j0 k a1 ([] : List Int) true a0_0 a0_1 l0_2 a0_3 l0_4) else (if a1 ≥ (l0_4.length : Int) then (flow_Next.j0 k a1 ([] : List Int) true a0_0 a0_1 l0_2 a0_3 l0_4) else (if 0 ≤ a1 then (if a1 < (l0_4.length : Int) then (flow_Next.j0 k a1 ([] : List Int) ((((rd_T54 l0_4 a1).f0).length : Int) == 0) a0_0 a0_1 l0_2 a0_3 l0_4) else (none)) else (none)))
theorem flow_Next.mono_l : ∀ k, (∀ y0 y1 y2 y3 y4 y5 y6 y7, LeO (flow_Next.j0 k y0 y1 y2 y3 y4 y5 y6 y7) (flow_Next.j0 (k + 1) y0 y1 y2 y3 y4 y5 y6 y7)) ∧ (∀ y0 y1 y2 y3 y4 y5 y6 y7 y8 y9 y10 y11 y12 y13, LeO (flow_Next.j1 k y0 y1 y2 y3 y4 y5 y6 y7 y8 y9 y10 y11 y12 y13) (flow_Next.j1 (k + 1) y0 y1 y2 y3 y4 y5 y6 y7 y8 y9 y10 y11 y12 y13)) ∧ (∀ y0 y1 y2 y3 y4 y5 y6 y7 y8, LeO (flow_Next.l0 k y0 y1 y2 y3 y4 y5 y6 y7 y8) (flow_Next.l0 (k + 1) y0 y1 y2 y3 y4 y5 y6 y7 y8))
 | 0 => ⟨fun _ _ _ _ _ _ _ _ r h => by simp [flow_Next.j0] at h, fun _ _ _ _ _ _ _ _ _ _ _ _ _ _ r h => by simp [flow_Next.j1] at h, fun _ _ _ _ _ _ _ _ _ r h => by simp [flow_Next.l0] at h⟩
 | k + 1 => by
  obtain ⟨ih0, ih1, ih2⟩ := flow_Next.mono_l k
  refine ⟨?_, ?_, ?_⟩
  ·intro y0 y1 y2 y3 y4 y5 y6 y7
   unfold flow_Next.j0
   repeat' first
   | (with_reducible exact ih0 _ _ _ _ _ _ _ _)
   | (with_reducible exact ih1 _ _ _ _ _ _ _ _ _ _ _ _ _ _)
   | (with_reducible exact ih2 _ _ _ _ _ _ _ _ _)
   | (with_reducible exact slices_Contains_int_int.mono _ _ _)
   | (with_reducible exact LeO.refl _)
   | (with_reducible exact LeO.none _)
   | (with_reducible refine LeO.ite ?_ ?_)
   | (with_reducible refine LeO.bind ?_ (fun _ => ?_))
   | exact ih0 _ _ _ _ _ _ _ _
   | exact ih1 _ _ _ _ _ _ _ _ _ _ _ _ _ _
   | exact ih2 _ _ _ _ _ _ _ _ _
   | exact slices_Contains_int_int.mono _ _ _
   | exact LeO.none _
   | refine LeO.ite ?_ ?_
   | refine LeO.bind ?_ (fun _ => ?_)
  ·intro y0 y1 y2 y3 y4 y5 y6 y7 y8 y9 y10 y11 y12 y13
   unfold flow_Next.j1
   repeat' first
   | (with_reducible exact ih0 _ _ _ _ _ _ _ _)
   | (with_reducible exact ih1 _ _ _ _ _ _ _ _ _ _ _ _ _ _)
   | (with_reducible exact ih2 _ _ _ _ _ _ _ _ _)
   | (with_reducible exact slices_Contains_int_int.mono _ _ _)
   | (with_reducible exact LeO.refl _)
   | (with_reducible exact LeO.none _)
   | (with_reducible refine LeO.ite ?_ ?_)
   | (with_reducible refine LeO.bind ?_ (fun _ => ?_))
   | exact ih0 _ _ _ _ _ _ _ _
   | exact ih1 _ _ _ _ _ _ _ _ _ _ _ _ _ _
   | exact ih2 _ _ _ _ _ _ _ _ _
   | exact slices_Contains_int_int.mono _ _ _
   | exact LeO.none _
   | refine LeO.ite ?_ ?_
   | refine LeO.bind ?_ (fun _ => ?_)
  ·intro y0 y1 y2 y3 y4 y5 y6 y7 y8
   unfold flow_Next.l0
   repeat' first
   | (with_reducible exact ih0 _ _ _ _ _ _ _ _)
   | (with_reducible exact ih1 _ _ _ _ _ _ _ _ _ _ _ _ _ _)
   | (with_reducible exact ih2 _ _ _ _ _ _ _ _ _)
   | (with_reducible exact slices_Contains_int_int.mono _ _ _)
   | (with_reducible exact LeO.refl _)
   | (with_reducible exact LeO.none _)
   | (with_reducible refine LeO.ite ?_ ?_)
   | (with_reducible refine LeO.bind ?_ (fun _ => ?_))
   | exact ih0 _ _ _ _ _ _ _ _
   | exact ih1 _ _ _ _ _ _ _ _ _ _ _ _ _ _
   | exact ih2 _ _ _ _ _ _ _ _ _
   | exact slices_Contains_int_int.mono _ _ _
   | exact LeO.none _
   | refine LeO.ite ?_ ?_
   | refine LeO.bind ?_ (fun _ => ?_)
theorem flow_Next.mono : ∀ a0 a1 a2 a3 a4 a5 k, LeO (flow_Next.f k a0 a1 a2 a3 a4 a5) (flow_Next.f (k + 1) a0 a1 a2 a3 a4 a5) := by
 intro a0 a1 a2 a3 a4 a5 k
 obtain ⟨ih0, ih1, ih2⟩ := flow_Next.mono_l k
 unfold flow_Next.f
 repeat' first
   | (with_reducible exact ih0 _ _ _ _ _ _ _ _)
   | (with_reducible exact ih1 _ _ _ _ _ _ _ _ _ _ _ _ _ _)
   | (with_reducible exact ih2 _ _ _ _ _ _ _ _ _)
   | (with_reducible exact slices_Contains_int_int.mono _ _ _)
   | (with_reducible exact LeO.refl _)
   | (with_reducible exact LeO.none _)
   | (with_reducible refine LeO.ite ?_ ?_)
   | (with_reducible refine LeO.bind ?_ (fun _ => ?_))
   | exact ih0 _ _ _ _ _ _ _ _
   | exact ih1 _ _ _ _ _ _ _ _ _ _ _ _ _ _
   | exact ih2 _ _ _ _ _ _ _ _ _
   | exact slices_Contains_int_int.mono _ _ _
   | exact LeO.none _
   | refine LeO.ite ?_ ?_
   | refine LeO.bind ?_ (fun _ => ?_)
def flow_Next.T4 : Bool × List (List Nat × List Nat) := (true, [([], []), ([0], [0]), ([], []), ([1, 2], [1, 2]), ([3], [3]), ([4], [4]), ([], []), ([6], [6]), ([], []), ([7, 8], [7, 8]), ([9], [9]), ([10], [10]), ([11], [11]), ([12], [12]), ([5, 13], [5, 13]), ([14], [14]), ([], []), ([16, 15, 0, 1, 2, 3, 4, 5, 6, 7, 8, 9, 10, 11, 12, 13, 14, 15, 16], [15, 16])])
def flow_Next.B4 : List Nat := [0, 1, 0, 7, 15, 31, 0, 64, 0, 448, 960, 1984, 4032, 8128, 16383, 32767, 0, 131071]
theorem flow_Next.tab4 : rtab .any (opsOf Try.f19 4) = flow_Next.T4 := by kernel_rfl
theorem flow_Next.bits4 : waitsOk flow_Next.T4.2 flow_Next.B4 = true := by kernel_rfl
set_option maxHeartbeats 8000000 in
set_option maxRecDepth 100000 in
theorem flow_Next.calls (k : Nat) (a0_0 : ByteArray) (a0_1 : Bool) (A0_2 : Option Addr) (c0_2 : Nat) (l0_2 : List Int) (a0_3 : Int) (A0_4 : Option Addr) (c0_4 : Nat) (l0_4 : List (S54)) (a1 : Int) (r : List Int) (w : World) (hr0_2 : Kd.C (Kd.int .i64) w A0_2 l0_2.length l0_2) (hc0_2 : l0_2.length ≤ c0_2) (hr0_4 : Kd.C k54 w A0_4 l0_4.length l0_4) (hc0_4 : l0_4.length ≤ c0_4) (h : flow_Next.f k a0_0 a0_1 l0_2 a0_3 l0_4 a1 = some r) :
  Calls Try.prog 19 #[.agg #[.string a0_0, .bool a0_1, .slice A0_2 l0_2.length c0_2, .int .i64 a0_3, .slice A0_4 l0_4.length c0_4], .int .i64 a1] w fun e w' => ∃ v0_ : Value, e = .returned (v0_) ∧ Kd.R (Kd.int .i64) 3 w' w.heap.size (fun _ => True) v0_ r ∧ Below w.heap.size w w' := by
 have hu25 := Try.underlying25
 have hu56 := Try.underlying56
 have HR0_2 := Aside0.mk hr0_2
 have HC0_2 := Aside0.mk hc0_2
 clear hr0_2 hc0_2
 have HR0_4 := Aside0.mk hr0_4
 have HC0_4 := Aside0.mk hc0_4
 clear hr0_4 hc0_4; have HB := Aside0.mk (Below.refl w.heap.size w)
 have H : (if a1 < 0 then (flow_Next.j0 k a1 ([] : List Int) true a0_0 a0_1 l0_2 a0_3 l0_4) else (if a1 ≥ (l0_4.length : Int) then (flow_Next.j0 k a1 ([] : List Int) true a0_0 a0_1 l0_2 a0_3 l0_4) else (if 0 ≤ a1 then (if a1 < (l0_4.length : Int) then (flow_Next.j0 k a1 ([] : List Int) ((((rd_T54 l0_4 a1).f0).length : Int) == 0) a0_0 a0_1 l0_2 a0_3 l0_4) else (none)) else (none)))) = some r := h
 clear h
 have HC3 := Aside0.mk H
 clear H
 go_enter Try.func19, Try.ntmps19
 go_upto_region 2 with (first | ((with_reducible refine gate_dst (N := 2) rfl ?_); (try (refine gate_guard (by rfl) ?_; dsimp only)); refine box_event ?hg (N := 2) ?hd (cs := #[.string a0_0, .bool a0_1, .slice A0_2 l0_2.length c0_2, .int .i64 a0_3, .slice A0_4 l0_4.length c0_4]) (t := 25) ?hr ?_; (case hd => rfl); (case hg => rfl); (case hr => first | (go_simp; done) | (go_simp; rfl)); intro gb105 hg w4 hbox hb; have n0_ := Aside0.mk (below_step (by repeat (first | (with_reducible first | exact HB.out | apply below_alloc | apply pw_below_drewN | apply below_drew1) | exact HB.out)) hb); have n1_ := Aside0.mk (hbox); have n2_ := Aside0.mk ((by rw [hg]; exact (below_size (by repeat (first | (with_reducible first | exact HB.out | apply below_alloc | apply pw_below_drewN | apply below_drew1) | exact HB.out))) : w.heap.size ≤ gb105)); have n3_ := Aside0.mk ((by rw [hg]; exact (below_size (by repeat (first | (with_reducible first | exact HB.out | apply below_alloc | apply pw_below_drewN | apply below_drew1) | exact HB.out))) : w.heap.size ≤ gb105)); clear HB; have HB := n0_; have BK105 := n1_; have GW105 := n2_; have GE105 := n3_; clear n0_ n1_ n2_ n3_; clear hb hbox hg))
 (try simp only [Act.put, List.setIfInBounds_toArray, List.set_cons_zero, List.set_cons_succ])
 go_cut [27] (fun v27 wc => ∃ (kq : Nat) (x27_2 : Bool), v27 = .bool x27_2 ∧ Aside0 (flow_Next.j0 kq a1 ([] : List Int) x27_2 a0_0 a0_1 l0_2 a0_3 l0_4 = some r) ∧ Aside0 (kq ≤ k) ∧ Aside0 (Kd.R (Kd.int .i64) 3 wc w.heap.size (fun _ => True) (.slice none 0 0) ([] : List Int)) ∧ Aside0 (wc.heap[gb105]? = some (.cells #[.string a0_0, .bool a0_1, (.slice A0_2 l0_2.length c0_2), .int .i64 a0_3, (.slice A0_4 l0_4.length c0_4)] 25 (0, 0))) ∧ Aside0 (Below w.heap.size w wc))
 case first =>
  have H := HC3.out
  clear HC3
  by_cases c5 : a1 < 0
  ·rw [if_pos c5] at H
   have c5b0 : decide (a1 < 0) = true := decide_eq_true c5
   clear c5
   (first | rw [c5b0] | (simp only [i64_w, i32_w]; rw [c5b0]) | skip)
   have H' := Aside0.mk H
   clear H
   go_wp2
   go_meet
   case rel => exact ⟨_, (true), (by first | rfl | (simp; done) | (simp [*]; done)), H', ⟨by first | omega | exact Nat.le_refl _⟩, ⟨by first | exact Kd.R_nil _ _ _ _ _ | exact Kd.N_nil _ _ _ _ _ | exact Kd.V_nil _ _ _ _ _ | exact Kd.Q_nil _ _ _ _ _ | exact Kd.S_nil _ _ _ _ _⟩, ⟨by (with_reducible repeat (first | refine blk_drewN ?_ _ | refine blk_drew ?_ | refine blk_alloc ?_ _)); exact BK105.out⟩, ⟨by repeat (first | (with_reducible first | exact HB.out | apply below_alloc | apply pw_below_drewN | apply below_drew1 | refine below_set ?_ GE105.out) | exact HB.out)⟩⟩
  ·rw [if_neg c5] at H
   have c5b0 : decide (a1 < 0) = false := decide_eq_false c5
   clear c5
   (first | rw [c5b0] | (simp only [i64_w, i32_w]; rw [c5b0]) | skip)
   by_cases c6 : a1 ≥ (l0_4.length : Int)
   ·rw [if_pos c6] at H
    have c6b0 : decide ((l0_4.length : Int) ≤ a1) = true := decide_eq_true c6
    clear c6
    have H' := Aside0.mk H
    clear H
    have hcz7_0 : w4.cell? ⟨gb105, 0, none⟩ = some (.string a0_0) := (blk_cell BK105.out 0).trans rfl
    have hcz7_1 : w4.cell? ⟨gb105, 1, none⟩ = some (.bool a0_1) := (blk_cell BK105.out 1).trans rfl
    have hcz7_2 : w4.cell? ⟨gb105, 2, none⟩ = some (.slice A0_2 l0_2.length c0_2) := (blk_cell BK105.out 2).trans rfl
    have hcz7_3 : w4.cell? ⟨gb105, 3, none⟩ = some (.int .i64 a0_3) := (blk_cell BK105.out 3).trans rfl
    have hcz7_4 : w4.cell? ⟨gb105, 4, none⟩ = some (.slice A0_4 l0_4.length c0_4) := (blk_cell BK105.out 4).trans rfl
    have hfz7_0 := blk_frozen BK105.out 0
    have hfz7_1 := blk_frozen BK105.out 1
    have hfz7_2 := blk_frozen BK105.out 2
    have hfz7_3 := blk_frozen BK105.out 3
    have hfz7_4 := blk_frozen BK105.out 4
    go_wp2
    go_meet
    case rel => exact ⟨_, (true), (by first | rfl | (simp; done) | (simp [*]; done)), H', ⟨by first | omega | exact Nat.le_refl _⟩, ⟨by first | exact Kd.R_nil _ _ _ _ _ | exact Kd.N_nil _ _ _ _ _ | exact Kd.V_nil _ _ _ _ _ | exact Kd.Q_nil _ _ _ _ _ | exact Kd.S_nil _ _ _ _ _⟩, ⟨by (with_reducible repeat (first | refine blk_drewN ?_ _ | refine blk_drew ?_ | refine blk_alloc ?_ _)); exact BK105.out⟩, ⟨by repeat (first | (with_reducible first | exact HB.out | apply below_alloc | apply pw_below_drewN | apply below_drew1 | refine below_set ?_ GE105.out) | exact HB.out)⟩⟩
   ·rw [if_neg c6] at H
    have c6b0 : decide ((l0_4.length : Int) ≤ a1) = false := decide_eq_false c6
    clear c6
    by_cases c8 : 0 ≤ a1
    ·rw [if_pos c8] at H
     have c8b0 : decide (0 ≤ a1) = true := decide_eq_true c8
     clear c8
     by_cases c9 : a1 < (l0_4.length : Int)
     ·rw [if_pos c9] at H
      have c9b0 : decide (a1 < (l0_4.length : Int)) = true := decide_eq_true c9
      clear c9
      have H' := Aside0.mk H
      clear H
      have hcz10_0 : w4.cell? ⟨gb105, 0, none⟩ = some (.string a0_0) := (blk_cell BK105.out 0).trans rfl
      have hcz10_1 : w4.cell? ⟨gb105, 1, none⟩ = some (.bool a0_1) := (blk_cell BK105.out 1).trans rfl
      have hcz10_2 : w4.cell? ⟨gb105, 2, none⟩ = some (.slice A0_2 l0_2.length c0_2) := (blk_cell BK105.out 2).trans rfl
      have hcz10_3 : w4.cell? ⟨gb105, 3, none⟩ = some (.int .i64 a0_3) := (blk_cell BK105.out 3).trans rfl
      have hcz10_4 : w4.cell? ⟨gb105, 4, none⟩ = some (.slice A0_4 l0_4.length c0_4) := (blk_cell BK105.out 4).trans rfl
      have hfz10_0 := blk_frozen BK105.out 0
      have hfz10_1 := blk_frozen BK105.out 1
      have hfz10_2 := blk_frozen BK105.out 2
      have hfz10_3 := blk_frozen BK105.out 3
      have hfz10_4 := blk_frozen BK105.out 4
      have p106 : 0 ≤ (a1 : Int) := of_decide_eq_true (by first | (with_reducible assumption) | assumption)
      have q106 : a1 < (l0_4.length : Int) := of_decide_eq_true (by first | (with_reducible assumption) | assumption)
      obtain ⟨ad106, A106_0, c106_0, e106, hx106_0, hl106_0, hi106_0⟩ := at_T54 HR0_4.out a1 p106 q106
      cases e106
      replace hx106_0 := (HB.out.cell (World.block_lt_of_cell? w _ hx106_0)).trans hx106_0
      have HR106_0 := Aside0.mk hi106_0
      have HC106_0 := Aside0.mk hl106_0
      clear hi106_0 hl106_0
      replace p106 := eq_true p106
      replace q106 := eq_true q106
      go_wp2
      go_meet
      case rel => exact ⟨_, (((((rd_T54 l0_4 a1).f0).length : Int) == 0)), (by first | rfl | (simp; done) | (simp [*]; done)), H', ⟨by first | omega | exact Nat.le_refl _⟩, ⟨by first | exact Kd.R_nil _ _ _ _ _ | exact Kd.N_nil _ _ _ _ _ | exact Kd.V_nil _ _ _ _ _ | exact Kd.Q_nil _ _ _ _ _ | exact Kd.S_nil _ _ _ _ _⟩, ⟨by (with_reducible repeat (first | refine blk_drewN ?_ _ | refine blk_drew ?_ | refine blk_alloc ?_ _)); exact BK105.out⟩, ⟨by repeat (first | (with_reducible first | exact HB.out | apply below_alloc | apply pw_below_drewN | apply below_drew1 | refine below_set ?_ GE105.out) | exact HB.out)⟩⟩
     ·rw [if_neg c9] at H
      exact absurd H (by simp)
    ·rw [if_neg c8] at H
     exact absurd H (by simp)
 case rest =>
  clear HC3
  try clear c1
  try clear p1
  try clear q1
  try clear hx1
  try clear p2
  try clear c5
  try clear c5b0
  try clear c6
  try clear c6b0
  try clear c8
  try clear c8b0
  try clear c9
  try clear c9b0
  try clear c10
  try clear p10
  try clear q10
  try clear hx10
  try clear hcz10_0
  try clear hcz10_1
  try clear hcz10_2
  try clear hcz10_3
  try clear hcz10_4
  try clear hcz7_0
  try clear hcz7_1
  try clear hcz7_2
  try clear hcz7_3
  try clear hcz7_4
  try clear hfz10_0
  try clear hfz10_1
  try clear hfz10_2
  try clear hfz10_3
  try clear hfz10_4
  try clear hfz7_0
  try clear hfz7_1
  try clear hfz7_2
  try clear hfz7_3
  try clear hfz7_4
  try clear hx106_0
  try clear p106
  try clear q106
  obtain ⟨kq, x27_2, rfl, HA, HJ2, HO_5, BK105, HB⟩ := hcut
  cases kq with
  | zero => exact absurd HA.out (by simp [flow_Next.j0])
  | succ kj2 =>
   have H := HA.out
   clear HA
   simp only [flow_Next.j0] at H
   by_cases c11 : x27_2 = true
   ·subst c11
    have H1 : (some ([] : List Int)) = some r := by rw [if_pos rfl] at H; exact H
    clear H; have H := H1; clear H1
    obtain rfl := Option.some.inj H
    go_wp2
    go_ret
    exact ⟨_, by first | rfl | (simp [errW_none, errW_some] <;> rfl) | (simp [*, errW_none, errW_some] <;> rfl), by (with_reducible repeat (first | apply Kd.R_alloc | apply Kd.R_drewN | apply Kd.R_drew)); exact HO_5.out, by repeat (first | (with_reducible first | exact HB.out | apply below_alloc | apply pw_below_drewN | apply below_drew1 | refine below_set ?_ GE105.out) | exact HB.out)⟩
   ·replace c11 := Bool.eq_false_iff.mpr c11
    subst c11
    have H1 : (if 0 ≤ a1 then (if a1 < (l0_4.length : Int) then (if 0 ≤ (wrap64 ((((rd_T54 l0_4 a1).f0).length : Int) - 1)) then (if (wrap64 ((((rd_T54 l0_4 a1).f0).length : Int) - 1)) < (((rd_T54 l0_4 a1).f0).length : Int) then (if ((rd_T56 ((rd_T54 l0_4 a1).f0) (wrap64 ((((rd_T54 l0_4 a1).f0).length : Int) - 1))).f0) = 27 then (flow_Next.j1 kj2 ([] : List Int) false a0_0 a0_1 l0_2 a0_3 l0_4 ((rd_T56 ((rd_T54 l0_4 a1).f0) (wrap64 ((((rd_T54 l0_4 a1).f0).length : Int) - 1))).f0) ((rd_T56 ((rd_T54 l0_4 a1).f0) (wrap64 ((((rd_T54 l0_4 a1).f0).length : Int) - 1))).f1) ((rd_T56 ((rd_T54 l0_4 a1).f0) (wrap64 ((((rd_T54 l0_4 a1).f0).length : Int) - 1))).f2) ((rd_T56 ((rd_T54 l0_4 a1).f0) (wrap64 ((((rd_T54 l0_4 a1).f0).length : Int) - 1))).f3) ((rd_T56 ((rd_T54 l0_4 a1).f0) (wrap64 ((((rd_T54 l0_4 a1).f0).length : Int) - 1))).f4) ((rd_T56 ((rd_T54 l0_4 a1).f0) (wrap64 ((((rd_T54 l0_4 a1).f0).length : Int) - 1))).f5) ((rd_T56 ((rd_T54 l0_4 a1).f0) (wrap64 ((((rd_T54 l0_4 a1).f0).length : Int) - 1))).f6)) else (flow_Next.j1 kj2 ([] : List Int) (((rd_T56 ((rd_T54 l0_4 a1).f0) (wrap64 ((((rd_T54 l0_4 a1).f0).length : Int) - 1))).f0) != 28) a0_0 a0_1 l0_2 a0_3 l0_4 ((rd_T56 ((rd_T54 l0_4 a1).f0) (wrap64 ((((rd_T54 l0_4 a1).f0).length : Int) - 1))).f0) ((rd_T56 ((rd_T54 l0_4 a1).f0) (wrap64 ((((rd_T54 l0_4 a1).f0).length : Int) - 1))).f1) ((rd_T56 ((rd_T54 l0_4 a1).f0) (wrap64 ((((rd_T54 l0_4 a1).f0).length : Int) - 1))).f2) ((rd_T56 ((rd_T54 l0_4 a1).f0) (wrap64 ((((rd_T54 l0_4 a1).f0).length : Int) - 1))).f3) ((rd_T56 ((rd_T54 l0_4 a1).f0) (wrap64 ((((rd_T54 l0_4 a1).f0).length : Int) - 1))).f4) ((rd_T56 ((rd_T54 l0_4 a1).f0) (wrap64 ((((rd_T54 l0_4 a1).f0).length : Int) - 1))).f5) ((rd_T56 ((rd_T54 l0_4 a1).f0) (wrap64 ((((rd_T54 l0_4 a1).f0).length : Int) - 1))).f6))) else (none)) else (none)) else (none)) else (none)) = some r := by rw [if_neg (show ¬ (false = true) by decide)] at H; exact H
    clear H; have H := H1; clear H1
    by_cases c12 : 0 ≤ a1
    ·rw [if_pos c12] at H
     have c12b0 : decide (0 ≤ a1) = true := decide_eq_true c12
     clear c12
     by_cases c13 : a1 < (l0_4.length : Int)
     ·rw [if_pos c13] at H
      have c13b0 : decide (a1 < (l0_4.length : Int)) = true := decide_eq_true c13
      clear c13
      obtain ⟨ji14, hji14⟩ : ∃ j_ : Int, (wrap64 ((((rd_T54 l0_4 a1).f0).length : Int) - 1)) = j_ := ⟨_, rfl⟩
      replace H : (if 0 ≤ (ji14) then (if (ji14) < (((rd_T54 l0_4 a1).f0).length : Int) then (if ((rd_T56 ((rd_T54 l0_4 a1).f0) (ji14)).f0) = 27 then (flow_Next.j1 kj2 ([] : List Int) false a0_0 a0_1 l0_2 a0_3 l0_4 ((rd_T56 ((rd_T54 l0_4 a1).f0) (ji14)).f0) ((rd_T56 ((rd_T54 l0_4 a1).f0) (ji14)).f1) ((rd_T56 ((rd_T54 l0_4 a1).f0) (ji14)).f2) ((rd_T56 ((rd_T54 l0_4 a1).f0) (ji14)).f3) ((rd_T56 ((rd_T54 l0_4 a1).f0) (ji14)).f4) ((rd_T56 ((rd_T54 l0_4 a1).f0) (ji14)).f5) ((rd_T56 ((rd_T54 l0_4 a1).f0) (ji14)).f6)) else (flow_Next.j1 kj2 ([] : List Int) (((rd_T56 ((rd_T54 l0_4 a1).f0) (ji14)).f0) != 28) a0_0 a0_1 l0_2 a0_3 l0_4 ((rd_T56 ((rd_T54 l0_4 a1).f0) (ji14)).f0) ((rd_T56 ((rd_T54 l0_4 a1).f0) (ji14)).f1) ((rd_T56 ((rd_T54 l0_4 a1).f0) (ji14)).f2) ((rd_T56 ((rd_T54 l0_4 a1).f0) (ji14)).f3) ((rd_T56 ((rd_T54 l0_4 a1).f0) (ji14)).f4) ((rd_T56 ((rd_T54 l0_4 a1).f0) (ji14)).f5) ((rd_T56 ((rd_T54 l0_4 a1).f0) (ji14)).f6))) else (none)) else (none)) = some r := by first | (rw [hji14] at H; exact H) | (simp only [hji14] at H ⊢; exact H)
      have hji14w : (IntKind.i64.wrap ((((rd_T54 l0_4 a1).f0).length : Int) - 1)) = ji14 := (i64_w _).trans hji14
      by_cases c15 : 0 ≤ (ji14)
      ·rw [if_pos c15] at H
       have c15b0 : decide (0 ≤ (ji14)) = true := decide_eq_true c15
       clear c15
       by_cases c16 : (ji14) < (((rd_T54 l0_4 a1).f0).length : Int)
       ·rw [if_pos c16] at H
        have c16b0 : decide ((ji14) < (((rd_T54 l0_4 a1).f0).length : Int)) = true := decide_eq_true c16
        clear c16
        have HC17 := Aside0.mk H
        clear H
        try go_wp2
        have n0_ := Aside0.mk (Kd.R_drew HO_5.out); have n1_ := Aside0.mk (blk_drew BK105.out); have n2_ := Aside0.mk (below_drew1 HB.out); clear HO_5 BK105 HB; have HO_5 := n0_; have BK105 := n1_; have HB := n2_; clear n0_ n1_ n2_
        have p107 : 0 ≤ (a1 : Int) := of_decide_eq_true (by first | (with_reducible assumption) | assumption)
        have q107 : a1 < (l0_4.length : Int) := of_decide_eq_true (by first | (with_reducible assumption) | assumption)
        obtain ⟨ad107, A107_0, c107_0, e107, hx107_0, hl107_0, hi107_0⟩ := at_T54 HR0_4.out a1 p107 q107
        have hw107_0 := hx107_0
        cases e107
        replace hx107_0 := (HB.out.cell (World.block_lt_of_cell? w _ hx107_0)).trans hx107_0
        have HR107_0 := Aside0.mk hi107_0
        have HC107_0 := Aside0.mk hl107_0
        clear hi107_0 hl107_0
        replace p107 := eq_true p107
        replace q107 := eq_true q107
        have p108 : 0 ≤ (a1 : Int) := of_decide_eq_true (by first | (with_reducible assumption) | assumption)
        have q108 : a1 < (l0_4.length : Int) := of_decide_eq_true (by first | (with_reducible assumption) | assumption)
        obtain ⟨ad108, A108_0, c108_0, e108, hx108_0, hl108_0, hi108_0⟩ := at_T54 HR0_4.out a1 p108 q108
        have hw108_0 := hx108_0
        obtain rfl : ad107 = ad108 := (by injection e108)
        replace hx108_0 := (HB.out.cell (World.block_lt_of_cell? w _ hx108_0)).trans hx108_0
        have HR108_0 := Aside0.mk hi108_0
        have HC108_0 := Aside0.mk hl108_0
        clear hi108_0 hl108_0
        replace p108 := eq_true p108
        replace q108 := eq_true q108
        have ea_ := Option.some.inj (hx107_0.symm.trans hx108_0)
        injection ea_ with ea_ en_ ec_
        subst ea_
        subst ec_
        clear en_
        have p109 : 0 ≤ ((ji14) : Int) := of_decide_eq_true (by first | (with_reducible assumption) | assumption)
        have q109 : (ji14) < (((rd_T54 l0_4 a1).f0).length : Int) := of_decide_eq_true (by first | (with_reducible assumption) | assumption)
        obtain ⟨ad109, A109_5, c109_5, A109_6, c109_6, e109, hx109_0, hx109_1, hx109_2, hx109_3, hx109_4, hx109_5, hx109_6, hl109_5, hi109_5, hl109_6, hi109_6⟩ := at_T56 HR107_0.out (ji14) p109 q109
        have hw109_6 := hx109_6; have hw109_5 := hx109_5; have hw109_4 := hx109_4; have hw109_3 := hx109_3; have hw109_2 := hx109_2; have hw109_1 := hx109_1; have hw109_0 := hx109_0
        cases e109
        replace hx109_0 := (HB.out.cell (World.block_lt_of_cell? w _ hx109_0)).trans hx109_0
        replace hx109_1 := (HB.out.cell (World.block_lt_of_cell? w _ hx109_1)).trans hx109_1
        replace hx109_2 := (HB.out.cell (World.block_lt_of_cell? w _ hx109_2)).trans hx109_2
        replace hx109_3 := (HB.out.cell (World.block_lt_of_cell? w _ hx109_3)).trans hx109_3
        replace hx109_4 := (HB.out.cell (World.block_lt_of_cell? w _ hx109_4)).trans hx109_4
        replace hx109_5 := (HB.out.cell (World.block_lt_of_cell? w _ hx109_5)).trans hx109_5
        replace hx109_6 := (HB.out.cell (World.block_lt_of_cell? w _ hx109_6)).trans hx109_6
        have HR109_5 := Aside0.mk hi109_5
        have HC109_5 := Aside0.mk hl109_5
        clear hi109_5 hl109_5
        have HR109_6 := Aside0.mk hi109_6
        have HC109_6 := Aside0.mk hl109_6
        clear hi109_6 hl109_6
        replace p109 := eq_true p109
        replace q109 := eq_true q109
        refine start_ (n := 18) (S := fun w' => w'.cell? ⟨gb105, 0, none⟩ = some (.string a0_0) ∧ w'.cell? ⟨gb105, 1, none⟩ = some (.bool a0_1) ∧ w'.cell? ⟨gb105, 2, none⟩ = some (.slice A0_2 l0_2.length c0_2) ∧ w'.cell? ⟨gb105, 3, none⟩ = some (.int .i64 a0_3) ∧ w'.cell? ⟨gb105, 4, none⟩ = some (.slice (some ad107) l0_4.length c0_4) ∧ w'.cell? (ad107.add (a1).toNat) = some (.slice (some ad109) ((rd_T54 l0_4 a1).f0).length c107_0) ∧ w'.cell? (ad107.add (a1).toNat) = some (.slice (some ad109) ((rd_T54 l0_4 a1).f0).length c107_0) ∧ w'.cell? (ad109.add (((ji14)).toNat * 7)) = some (.int .i64 ((rd_T56 ((rd_T54 l0_4 a1).f0) (ji14)).f0)) ∧ w'.cell? ⟨(ad109.add (((ji14)).toNat * 7)).block, (ad109.add (((ji14)).toNat * 7)).off + 1, none⟩ = some (.int .i64 ((rd_T56 ((rd_T54 l0_4 a1).f0) (ji14)).f1)) ∧ w'.cell? ⟨(ad109.add (((ji14)).toNat * 7)).block, (ad109.add (((ji14)).toNat * 7)).off + 2, none⟩ = some (.int .i64 ((rd_T56 ((rd_T54 l0_4 a1).f0) (ji14)).f2)) ∧ w'.cell? ⟨(ad109.add (((ji14)).toNat * 7)).block, (ad109.add (((ji14)).toNat * 7)).off + 3, none⟩ = some (.int .i64 ((rd_T56 ((rd_T54 l0_4 a1).f0) (ji14)).f3)) ∧ w'.cell? ⟨(ad109.add (((ji14)).toNat * 7)).block, (ad109.add (((ji14)).toNat * 7)).off + 4, none⟩ = some (.int .i64 ((rd_T56 ((rd_T54 l0_4 a1).f0) (ji14)).f4)) ∧ w'.cell? ⟨(ad109.add (((ji14)).toNat * 7)).block, (ad109.add (((ji14)).toNat * 7)).off + 5, none⟩ = some (.slice A109_5 ((rd_T56 ((rd_T54 l0_4 a1).f0) (ji14)).f5).length c109_5) ∧ w'.cell? ⟨(ad109.add (((ji14)).toNat * 7)).block, (ad109.add (((ji14)).toNat * 7)).off + 6, none⟩ = some (.slice A109_6 ((rd_T56 ((rd_T54 l0_4 a1).f0) (ji14)).f6).length c109_6)) (ds := []) #[false, false, false, false, false, false, false, false, false, false, false, false, false, false, false, false, false, false] (by kernel_rfl) rfl rfl ⟨(blk_cell BK105.out 0).trans rfl, (blk_cell BK105.out 1).trans rfl, (blk_cell BK105.out 2).trans rfl, (blk_cell BK105.out 3).trans rfl, (blk_cell BK105.out 4).trans rfl, ((HB.out.cell (World.block_lt_of_cell? w _ hw107_0)).trans hw107_0), ((HB.out.cell (World.block_lt_of_cell? w _ hw108_0)).trans hw108_0), ((HB.out.cell (World.block_lt_of_cell? w _ hw109_0)).trans hw109_0), ((HB.out.cell (World.block_lt_of_cell? w _ hw109_1)).trans hw109_1), ((HB.out.cell (World.block_lt_of_cell? w _ hw109_2)).trans hw109_2), ((HB.out.cell (World.block_lt_of_cell? w _ hw109_3)).trans hw109_3), ((HB.out.cell (World.block_lt_of_cell? w _ hw109_4)).trans hw109_4), ((HB.out.cell (World.block_lt_of_cell? w _ hw109_5)).trans hw109_5), ((HB.out.cell (World.block_lt_of_cell? w _ hw109_6)).trans hw109_6)⟩ (fun hHeld => ?_); refine with_tabW flow_Next.tab4 flow_Next.bits4 (fun HT_ HW_ => ?_)
        generalize wc.drew = w18 at HO_5 BK105 HB HR107_0 HR108_0 HR109_5 HR109_6 hx107_0 hx108_0 hx109_0 hx109_1 hx109_2 hx109_3 hx109_4 hx109_5 hx109_6 hHeld ⊢
        refine pure_ (i := 0) (N := some 29) (v := ?_) (a' := ?_) #[true, false, false, false, false, false, false, false, false, false, false, false, false, false, false, false, false, false] rfl rfl (any_of HT_.out (by kernel_rfl)) (fun _ _ _ h => h) (Or.inl ⟨by rfl, ?_⟩) ?_ ?_
        rotate_left
        ·intro w'
         go_simp
         with_reducible rfl
        rotate_left
        ·simp only [Act.put, List.setIfInBounds_toArray, List.set_cons_zero, List.set_cons_succ, i64_w, i32_w]; rfl
        refine pure_ (i := 2) (N := some 31) (v := ?_) (a' := ?_) #[true, false, true, false, false, false, false, false, false, false, false, false, false, false, false, false, false, false] rfl rfl (any_of HT_.out (by kernel_rfl)) (fun _ _ _ h => h) (Or.inl ⟨by rfl, ?_⟩) ?_ ?_
        rotate_left
        ·intro w'
         go_simp
         with_reducible rfl
        rotate_left
        ·simp only [Act.put, List.setIfInBounds_toArray, List.set_cons_zero, List.set_cons_succ, i64_w, i32_w]; rfl
        refine pure_ (i := 6) (N := some 35) (v := ?_) (a' := ?_) #[true, false, true, false, false, false, true, false, false, false, false, false, false, false, false, false, false, false] rfl rfl (any_of HT_.out (by kernel_rfl)) (fun _ _ _ h => h) (Or.inl ⟨by rfl, ?_⟩) ?_ ?_
        rotate_left
        ·intro w'
         go_simp
         with_reducible rfl
        rotate_left
        ·simp only [Act.put, List.setIfInBounds_toArray, List.set_cons_zero, List.set_cons_succ, i64_w, i32_w]; rfl
        refine pure_ (i := 8) (N := some 37) (v := ?_) (a' := ?_) #[true, false, true, false, false, false, true, false, true, false, false, false, false, false, false, false, false, false] rfl rfl (any_of HT_.out (by kernel_rfl)) (fun _ _ _ h => h) (Or.inl ⟨by rfl, ?_⟩) ?_ ?_
        rotate_left
        ·intro w'
         go_simp
         with_reducible rfl
        rotate_left
        ·simp only [Act.put, List.setIfInBounds_toArray, List.set_cons_zero, List.set_cons_succ, i64_w, i32_w]; rfl
        refine take_ (i := 1) (N := some 30) (v := ?_) (a' := ?_) #[true, true, true, false, false, false, true, false, true, false, false, false, false, false, false, false, false, false] rfl rfl (take_ofW HT_.out HW_.out (by kernel_rfl)) (fun _ _ _ h => h) (Or.inl ⟨by rfl, ?_⟩) hHeld ?_ ?_
        rotate_left
        ·rintro w' ⟨s0, s1, s2, s3, s4, s5, s6, s7, s8, s9, s10, s11, s12, s13⟩
         go_simp
         with_reducible rfl
        rotate_left
        ·simp only [Act.put, List.setIfInBounds_toArray, List.set_cons_zero, List.set_cons_succ, i64_w, i32_w]; rfl
        refine pure_ (i := 3) (N := some 32) (v := ?_) (a' := ?_) #[true, true, true, true, false, false, true, false, true, false, false, false, false, false, false, false, false, false] rfl rfl (any_of HT_.out (by kernel_rfl)) (fun _ _ _ h => h) (Or.inl ⟨by rfl, ?_⟩) ?_ ?_
        rotate_left
        ·intro w'
         go_simp
         with_reducible rfl
        rotate_left
        ·simp only [Act.put, List.setIfInBounds_toArray, List.set_cons_zero, List.set_cons_succ, i64_w, i32_w]; rfl
        refine pure_ (i := 4) (N := some 33) (v := ?_) (a' := ?_) #[true, true, true, true, true, false, true, false, true, false, false, false, false, false, false, false, false, false] rfl rfl (any_of HT_.out (by kernel_rfl)) (fun _ _ _ h => h) (Or.inl ⟨by rfl, ?_⟩) ?_ ?_
        rotate_left
        ·intro w'
         go_simp
         with_reducible rfl
        rotate_left
        ·simp only [Act.put, List.setIfInBounds_toArray, List.set_cons_zero, List.set_cons_succ, i64_w, i32_w]; rfl
        refine take_ (i := 5) (N := some 34) (v := ?_) (a' := ?_) #[true, true, true, true, true, true, true, false, true, false, false, false, false, false, false, false, false, false] rfl rfl (take_ofW HT_.out HW_.out (by kernel_rfl)) (fun _ _ _ h => h) (Or.inl ⟨by rfl, ?_⟩) hHeld ?_ ?_
        rotate_left
        ·rintro w' ⟨s0, s1, s2, s3, s4, s5, s6, s7, s8, s9, s10, s11, s12, s13⟩
         go_simp
         with_reducible rfl
        rotate_left
        ·simp only [Act.put, List.setIfInBounds_toArray, List.set_cons_zero, List.set_cons_succ, i64_w, i32_w]; rfl
        refine take_ (i := 7) (N := some 36) (v := ?_) (a' := ?_) #[true, true, true, true, true, true, true, true, true, false, false, false, false, false, false, false, false, false] rfl rfl (take_ofW HT_.out HW_.out (by kernel_rfl)) (fun _ _ _ h => h) (Or.inl ⟨by rfl, ?_⟩) hHeld ?_ ?_
        rotate_left
        ·rintro w' ⟨s0, s1, s2, s3, s4, s5, s6, s7, s8, s9, s10, s11, s12, s13⟩
         go_simp
         with_reducible rfl
        rotate_left
        ·simp only [Act.put, List.setIfInBounds_toArray, List.set_cons_zero, List.set_cons_succ, i64_w, i32_w]; rfl
        refine pure_ (i := 9) (N := some 38) (v := ?_) (a' := ?_) #[true, true, true, true, true, true, true, true, true, true, false, false, false, false, false, false, false, false] rfl rfl (any_of HT_.out (by kernel_rfl)) (fun _ _ _ h => h) (Or.inl ⟨by rfl, ?_⟩) ?_ ?_
        rotate_left
        ·intro w'
         go_simp
         with_reducible rfl
        rotate_left
        ·simp only [Act.put, List.setIfInBounds_toArray, List.set_cons_zero, List.set_cons_succ, i64_w, i32_w]; rfl
        refine pure_ (i := 10) (N := some 39) (v := ?_) (a' := ?_) #[true, true, true, true, true, true, true, true, true, true, true, false, false, false, false, false, false, false] rfl rfl (any_of HT_.out (by kernel_rfl)) (fun _ _ _ h => h) (Or.inl ⟨by rfl, ?_⟩) ?_ ?_
        rotate_left
        ·intro w'
         go_simp
         with_reducible rfl
        rotate_left
        ·simp only [Act.put, List.setIfInBounds_toArray, List.set_cons_zero, List.set_cons_succ, i64_w, i32_w]; rfl
        refine take_ (i := 11) (N := some 40) (v := ?_) (a' := ?_) #[true, true, true, true, true, true, true, true, true, true, true, true, false, false, false, false, false, false] rfl rfl (take_ofW HT_.out HW_.out (by kernel_rfl)) (fun _ _ _ h => h) (Or.inl ⟨by rfl, ?_⟩) hHeld ?_ ?_
        rotate_left
        ·rintro w' ⟨s0, s1, s2, s3, s4, s5, s6, s7, s8, s9, s10, s11, s12, s13⟩
         go_simp
         with_reducible rfl
        rotate_left
        ·simp only [Act.put, List.setIfInBounds_toArray, List.set_cons_zero, List.set_cons_succ, i64_w, i32_w]; rfl
        refine pure_ (i := 12) (N := some 41) (v := ?_) (a' := ?_) #[true, true, true, true, true, true, true, true, true, true, true, true, true, false, false, false, false, false] rfl rfl (any_of HT_.out (by kernel_rfl)) (fun _ _ _ h => h) (Or.inl ⟨by rfl, ?_⟩) ?_ ?_
        rotate_left
        ·intro w'
         go_simp
         with_reducible rfl
        rotate_left
        ·simp only [Act.put, List.setIfInBounds_toArray, List.set_cons_zero, List.set_cons_succ, i64_w, i32_w]; rfl
        refine pure_ (i := 13) (N := some 42) (v := ?_) (a' := ?_) #[true, true, true, true, true, true, true, true, true, true, true, true, true, true, false, false, false, false] rfl rfl (any_of HT_.out (by kernel_rfl)) (fun _ _ _ h => h) (Or.inl ⟨by rfl, ?_⟩) ?_ ?_
        rotate_left
        ·intro w'
         go_simp
         with_reducible rfl
        rotate_left
        ·simp only [Act.put, List.setIfInBounds_toArray, List.set_cons_zero, List.set_cons_succ, i64_w, i32_w]; rfl
        refine pure_ (i := 14) (N := some 43) (v := ?_) (a' := ?_) #[true, true, true, true, true, true, true, true, true, true, true, true, true, true, true, false, false, false] rfl rfl (any_of HT_.out (by kernel_rfl)) (fun _ _ _ h => h) (Or.inl ⟨by rfl, ?_⟩) ?_ ?_
        rotate_left
        ·intro w'
         go_simp
         with_reducible rfl
        rotate_left
        ·simp only [Act.put, List.setIfInBounds_toArray, List.set_cons_zero, List.set_cons_succ, i64_w, i32_w]; rfl
        refine take_ (i := 15) (N := some 44) (v := ?_) (a' := ?_) #[true, true, true, true, true, true, true, true, true, true, true, true, true, true, true, true, false, false] rfl rfl (take_ofW HT_.out HW_.out (by kernel_rfl)) (fun _ _ _ h => h) (Or.inl ⟨by rfl, ?_⟩) hHeld ?_ ?_
        rotate_left
        ·rintro w' ⟨s0, s1, s2, s3, s4, s5, s6, s7, s8, s9, s10, s11, s12, s13⟩
         go_simp
         with_reducible rfl
        rotate_left
        ·simp only [Act.put, List.setIfInBounds_toArray, List.set_cons_zero, List.set_cons_succ, i64_w, i32_w]; rfl
        refine one_ (i := 16) (N := some 6) #[true, true, true, true, true, true, true, true, true, true, true, true, true, true, true, true, true, false] rfl rfl (one_of HT_.out (by kernel_rfl)) (by decide) (fun K hK => ?_)
        refine box_step ?hg (N := 6) ?hd (cs := #[.int .i64 0, .int .i64 0, .int .i64 0, .int .i64 0, .int .i64 0, .slice none 0 0, .slice none 0 0]) (t := 56) ?hr ?_; (case hd => rfl); (case hg => rfl); (case hr => first | (go_simp; done) | (go_simp; rfl))
        intro gb110 hg w19 hbox hb; have n0_ := Aside0.mk (Kd.R_below (by (with_reducible repeat (first | apply Kd.R_alloc | apply Kd.R_drewN | apply Kd.R_drew)); exact HO_5.out) hb); have n1_ := Aside0.mk (blk_below (g := gb105) (o := .cells #[.string a0_0, .bool a0_1, .slice A0_2 l0_2.length c0_2, .int .i64 a0_3, .slice (some ad107) l0_4.length c0_4] 25 (0, 0)) (by (with_reducible repeat (first | refine blk_drewN ?_ _ | refine blk_drew ?_ | refine blk_alloc ?_ _)); exact BK105.out) hb); have n2_ := Aside0.mk (below_step (by repeat (first | (with_reducible first | exact HB.out | apply below_alloc | apply pw_below_drewN | apply below_drew1 | refine below_set ?_ GE105.out) | exact HB.out)) hb); have n3_ := Aside0.mk (hbox); have n4_ := Aside0.mk ((by rw [hg]; exact (below_size (by repeat (first | (with_reducible first | exact HB.out | apply below_alloc | apply pw_below_drewN | apply below_drew1 | refine below_set ?_ GE105.out) | exact HB.out))) : w.heap.size ≤ gb110)); have n5_ := Aside0.mk ((by rw [hg]; exact (below_size (by repeat (first | (with_reducible first | exact HB.out | apply below_alloc | apply pw_below_drewN | apply below_drew1 | refine below_set ?_ GE105.out) | exact HB.out))) : w.heap.size ≤ gb110)); have n6_ := Aside0.mk ((by rw [hg]; exact Nat.ne_of_lt (blk_lt (g := gb105) (o := .cells #[.string a0_0, .bool a0_1, .slice A0_2 l0_2.length c0_2, .int .i64 a0_3, .slice (some ad107) l0_4.length c0_4] 25 (0, 0)) (by (with_reducible repeat (first | refine blk_drewN ?_ _ | refine blk_drew ?_ | refine blk_alloc ?_ _)); exact BK105.out)) : gb105 ≠ gb110)); have n7_ := Aside0.mk ((by rw [hg]; exact Nat.ne_of_gt (blk_lt (g := gb105) (o := .cells #[.string a0_0, .bool a0_1, .slice A0_2 l0_2.length c0_2, .int .i64 a0_3, .slice (some ad107) l0_4.length c0_4] 25 (0, 0)) (by (with_reducible repeat (first | refine blk_drewN ?_ _ | refine blk_drew ?_ | refine blk_alloc ?_ _)); exact BK105.out)) : gb110 ≠ gb105)); clear HO_5 BK105 HB; have HO_5 := n0_; have BK105 := n1_; have HB := n2_; have BK110 := n3_; have GW110 := n4_; have GE110 := n5_; have NB105_110 := n6_; have NB110_105 := n7_; clear n0_ n1_ n2_ n3_ n4_ n5_ n6_ n7_ hb hbox hg
        refine hK.out _ _ ⟨(blk_cell BK105.out 0).trans rfl, (blk_cell BK105.out 1).trans rfl, (blk_cell BK105.out 2).trans rfl, (blk_cell BK105.out 3).trans rfl, (blk_cell BK105.out 4).trans rfl, ((HB.out.cell (World.block_lt_of_cell? w _ hw107_0)).trans hw107_0), ((HB.out.cell (World.block_lt_of_cell? w _ hw108_0)).trans hw108_0), ((HB.out.cell (World.block_lt_of_cell? w _ hw109_0)).trans hw109_0), ((HB.out.cell (World.block_lt_of_cell? w _ hw109_1)).trans hw109_1), ((HB.out.cell (World.block_lt_of_cell? w _ hw109_2)).trans hw109_2), ((HB.out.cell (World.block_lt_of_cell? w _ hw109_3)).trans hw109_3), ((HB.out.cell (World.block_lt_of_cell? w _ hw109_4)).trans hw109_4), ((HB.out.cell (World.block_lt_of_cell? w _ hw109_5)).trans hw109_5), ((HB.out.cell (World.block_lt_of_cell? w _ hw109_6)).trans hw109_6)⟩ (fun hHeld => ?_)
        clear hK K; refine norm_ (a' := ?_) ?_ ?_; rotate_left
        ·show Act.put _ (some 6) _ = _; simp only [Act.put, List.setIfInBounds_toArray, List.set_cons_zero, List.set_cons_succ, i64_w, i32_w]; rfl
        refine one_ (i := 17) (N := none) #[true, true, true, true, true, true, true, true, true, true, true, true, true, true, true, true, true, true] rfl rfl (one_of HT_.out (by kernel_rfl)) (by decide) (fun K hK => ?_)
        have hs20 : w19.cell? ⟨gb110, 0, none⟩ = some (.int .i64 0) := (blk_cell BK110.out 0).trans rfl
        have hfs20 := blk_frozen BK110.out 0
        have hns20_0 := NB105_110.out
        have hms20_0 := NB110_105.out
        have hs21 : w19.cell? ⟨gb110, 1, none⟩ = some (.int .i64 0) := (blk_cell BK110.out 1).trans rfl
        have hfs21 := blk_frozen BK110.out 1
        have hns21_0 := NB105_110.out
        have hms21_0 := NB110_105.out
        have hs22 : w19.cell? ⟨gb110, 2, none⟩ = some (.int .i64 0) := (blk_cell BK110.out 2).trans rfl
        have hfs22 := blk_frozen BK110.out 2
        have hns22_0 := NB105_110.out
        have hms22_0 := NB110_105.out
        have hs23 : w19.cell? ⟨gb110, 3, none⟩ = some (.int .i64 0) := (blk_cell BK110.out 3).trans rfl
        have hfs23 := blk_frozen BK110.out 3
        have hns23_0 := NB105_110.out
        have hms23_0 := NB110_105.out
        have hs24 : w19.cell? ⟨gb110, 4, none⟩ = some (.int .i64 0) := (blk_cell BK110.out 4).trans rfl
        have hfs24 := blk_frozen BK110.out 4
        have hns24_0 := NB105_110.out
        have hms24_0 := NB110_105.out
        have hs25 : w19.cell? ⟨gb110, 5, none⟩ = some (.slice none 0 0) := (blk_cell BK110.out 5).trans rfl
        have hfs25 := blk_frozen BK110.out 5
        have hns25_0 := NB105_110.out
        have hms25_0 := NB110_105.out
        have hs26 : w19.cell? ⟨gb110, 6, none⟩ = some (.slice none 0 0) := (blk_cell BK110.out 6).trans rfl
        have hfs26 := blk_frozen BK110.out 6
        have hns26_0 := NB105_110.out
        have hms26_0 := NB110_105.out
        refine skip_ (w1 := ?_) (by rfl) rfl ?_ ?_
        rotate_left
        ·go_simp
         rfl
        refine hK.out _ _ ⟨((cell_far (p := ⟨gb110, _, none⟩) NB105_110.out _).trans (((cell_far (p := ⟨gb110, _, none⟩) NB105_110.out _).trans (((cell_far (p := ⟨gb110, _, none⟩) NB105_110.out _).trans (((cell_far (p := ⟨gb110, _, none⟩) NB105_110.out _).trans (((cell_far (p := ⟨gb110, _, none⟩) NB105_110.out _).trans (((cell_far (p := ⟨gb110, _, none⟩) NB105_110.out _).trans (((cell_far (p := ⟨gb110, _, none⟩) NB105_110.out _).trans (hHeld.1)))))))))))))), ((cell_far (p := ⟨gb110, _, none⟩) NB105_110.out _).trans (((cell_far (p := ⟨gb110, _, none⟩) NB105_110.out _).trans (((cell_far (p := ⟨gb110, _, none⟩) NB105_110.out _).trans (((cell_far (p := ⟨gb110, _, none⟩) NB105_110.out _).trans (((cell_far (p := ⟨gb110, _, none⟩) NB105_110.out _).trans (((cell_far (p := ⟨gb110, _, none⟩) NB105_110.out _).trans (((cell_far (p := ⟨gb110, _, none⟩) NB105_110.out _).trans (hHeld.2.1)))))))))))))), ((cell_far (p := ⟨gb110, _, none⟩) NB105_110.out _).trans (((cell_far (p := ⟨gb110, _, none⟩) NB105_110.out _).trans (((cell_far (p := ⟨gb110, _, none⟩) NB105_110.out _).trans (((cell_far (p := ⟨gb110, _, none⟩) NB105_110.out _).trans (((cell_far (p := ⟨gb110, _, none⟩) NB105_110.out _).trans (((cell_far (p := ⟨gb110, _, none⟩) NB105_110.out _).trans (((cell_far (p := ⟨gb110, _, none⟩) NB105_110.out _).trans (hHeld.2.2.1)))))))))))))), ((cell_far (p := ⟨gb110, _, none⟩) NB105_110.out _).trans (((cell_far (p := ⟨gb110, _, none⟩) NB105_110.out _).trans (((cell_far (p := ⟨gb110, _, none⟩) NB105_110.out _).trans (((cell_far (p := ⟨gb110, _, none⟩) NB105_110.out _).trans (((cell_far (p := ⟨gb110, _, none⟩) NB105_110.out _).trans (((cell_far (p := ⟨gb110, _, none⟩) NB105_110.out _).trans (((cell_far (p := ⟨gb110, _, none⟩) NB105_110.out _).trans (hHeld.2.2.2.1)))))))))))))), ((cell_far (p := ⟨gb110, _, none⟩) NB105_110.out _).trans (((cell_far (p := ⟨gb110, _, none⟩) NB105_110.out _).trans (((cell_far (p := ⟨gb110, _, none⟩) NB105_110.out _).trans (((cell_far (p := ⟨gb110, _, none⟩) NB105_110.out _).trans (((cell_far (p := ⟨gb110, _, none⟩) NB105_110.out _).trans (((cell_far (p := ⟨gb110, _, none⟩) NB105_110.out _).trans (((cell_far (p := ⟨gb110, _, none⟩) NB105_110.out _).trans (hHeld.2.2.2.2.1)))))))))))))), ((cell_far (p := ⟨gb110, _, none⟩) (by first | exact Nat.ne_of_lt (Nat.lt_of_lt_of_le (by have := World.block_lt_of_cell? _ _ hw107_0; first | rwa [add_block] at this | exact this) GW110.out) | (rw [add_block]; exact Nat.ne_of_lt (Nat.lt_of_lt_of_le (by have := World.block_lt_of_cell? _ _ hw107_0; first | rwa [add_block] at this | exact this) GW110.out)) | (show (Addr.add _ _).block ≠ _; rw [add_block]; exact Nat.ne_of_lt (Nat.lt_of_lt_of_le (by have := World.block_lt_of_cell? _ _ hw107_0; first | rwa [add_block] at this | exact this) GW110.out)) | (dsimp only; exact Nat.ne_of_lt (Nat.lt_of_lt_of_le (by have := World.block_lt_of_cell? _ _ hw107_0; first | rwa [add_block] at this | exact this) GW110.out))) _).trans (((cell_far (p := ⟨gb110, _, none⟩) (by first | exact Nat.ne_of_lt (Nat.lt_of_lt_of_le (by have := World.block_lt_of_cell? _ _ hw107_0; first | rwa [add_block] at this | exact this) GW110.out) | (rw [add_block]; exact Nat.ne_of_lt (Nat.lt_of_lt_of_le (by have := World.block_lt_of_cell? _ _ hw107_0; first | rwa [add_block] at this | exact this) GW110.out)) | (show (Addr.add _ _).block ≠ _; rw [add_block]; exact Nat.ne_of_lt (Nat.lt_of_lt_of_le (by have := World.block_lt_of_cell? _ _ hw107_0; first | rwa [add_block] at this | exact this) GW110.out)) | (dsimp only; exact Nat.ne_of_lt (Nat.lt_of_lt_of_le (by have := World.block_lt_of_cell? _ _ hw107_0; first | rwa [add_block] at this | exact this) GW110.out))) _).trans (((cell_far (p := ⟨gb110, _, none⟩) (by first | exact Nat.ne_of_lt (Nat.lt_of_lt_of_le (by have := World.block_lt_of_cell? _ _ hw107_0; first | rwa [add_block] at this | exact this) GW110.out) | (rw [add_block]; exact Nat.ne_of_lt (Nat.lt_of_lt_of_le (by have := World.block_lt_of_cell? _ _ hw107_0; first | rwa [add_block] at this | exact this) GW110.out)) | (show (Addr.add _ _).block ≠ _; rw [add_block]; exact Nat.ne_of_lt (Nat.lt_of_lt_of_le (by have := World.block_lt_of_cell? _ _ hw107_0; first | rwa [add_block] at this | exact this) GW110.out)) | (dsimp only; exact Nat.ne_of_lt (Nat.lt_of_lt_of_le (by have := World.block_lt_of_cell? _ _ hw107_0; first | rwa [add_block] at this | exact this) GW110.out))) _).trans (((cell_far (p := ⟨gb110, _, none⟩) (by first | exact Nat.ne_of_lt (Nat.lt_of_lt_of_le (by have := World.block_lt_of_cell? _ _ hw107_0; first | rwa [add_block] at this | exact this) GW110.out) | (rw [add_block]; exact Nat.ne_of_lt (Nat.lt_of_lt_of_le (by have := World.block_lt_of_cell? _ _ hw107_0; first | rwa [add_block] at this | exact this) GW110.out)) | (show (Addr.add _ _).block ≠ _; rw [add_block]; exact Nat.ne_of_lt (Nat.lt_of_lt_of_le (by have := World.block_lt_of_cell? _ _ hw107_0; first | rwa [add_block] at this | exact this) GW110.out)) | (dsimp only; exact Nat.ne_of_lt (Nat.lt_of_lt_of_le (by have := World.block_lt_of_cell? _ _ hw107_0; first | rwa [add_block] at this | exact this) GW110.out))) _).trans (((cell_far (p := ⟨gb110, _, none⟩) (by first | exact Nat.ne_of_lt (Nat.lt_of_lt_of_le (by have := World.block_lt_of_cell? _ _ hw107_0; first | rwa [add_block] at this | exact this) GW110.out) | (rw [add_block]; exact Nat.ne_of_lt (Nat.lt_of_lt_of_le (by have := World.block_lt_of_cell? _ _ hw107_0; first | rwa [add_block] at this | exact this) GW110.out)) | (show (Addr.add _ _).block ≠ _; rw [add_block]; exact Nat.ne_of_lt (Nat.lt_of_lt_of_le (by have := World.block_lt_of_cell? _ _ hw107_0; first | rwa [add_block] at this | exact this) GW110.out)) | (dsimp only; exact Nat.ne_of_lt (Nat.lt_of_lt_of_le (by have := World.block_lt_of_cell? _ _ hw107_0; first | rwa [add_block] at this | exact this) GW110.out))) _).trans (((cell_far (p := ⟨gb110, _, none⟩) (by first | exact Nat.ne_of_lt (Nat.lt_of_lt_of_le (by have := World.block_lt_of_cell? _ _ hw107_0; first | rwa [add_block] at this | exact this) GW110.out) | (rw [add_block]; exact Nat.ne_of_lt (Nat.lt_of_lt_of_le (by have := World.block_lt_of_cell? _ _ hw107_0; first | rwa [add_block] at this | exact this) GW110.out)) | (show (Addr.add _ _).block ≠ _; rw [add_block]; exact Nat.ne_of_lt (Nat.lt_of_lt_of_le (by have := World.block_lt_of_cell? _ _ hw107_0; first | rwa [add_block] at this | exact this) GW110.out)) | (dsimp only; exact Nat.ne_of_lt (Nat.lt_of_lt_of_le (by have := World.block_lt_of_cell? _ _ hw107_0; first | rwa [add_block] at this | exact this) GW110.out))) _).trans (((cell_far (p := ⟨gb110, _, none⟩) (by first | exact Nat.ne_of_lt (Nat.lt_of_lt_of_le (by have := World.block_lt_of_cell? _ _ hw107_0; first | rwa [add_block] at this | exact this) GW110.out) | (rw [add_block]; exact Nat.ne_of_lt (Nat.lt_of_lt_of_le (by have := World.block_lt_of_cell? _ _ hw107_0; first | rwa [add_block] at this | exact this) GW110.out)) | (show (Addr.add _ _).block ≠ _; rw [add_block]; exact Nat.ne_of_lt (Nat.lt_of_lt_of_le (by have := World.block_lt_of_cell? _ _ hw107_0; first | rwa [add_block] at this | exact this) GW110.out)) | (dsimp only; exact Nat.ne_of_lt (Nat.lt_of_lt_of_le (by have := World.block_lt_of_cell? _ _ hw107_0; first | rwa [add_block] at this | exact this) GW110.out))) _).trans (hHeld.2.2.2.2.2.1)))))))))))))), ((cell_far (p := ⟨gb110, _, none⟩) (by first | exact Nat.ne_of_lt (Nat.lt_of_lt_of_le (by have := World.block_lt_of_cell? _ _ hw108_0; first | rwa [add_block] at this | exact this) GW110.out) | (rw [add_block]; exact Nat.ne_of_lt (Nat.lt_of_lt_of_le (by have := World.block_lt_of_cell? _ _ hw108_0; first | rwa [add_block] at this | exact this) GW110.out)) | (show (Addr.add _ _).block ≠ _; rw [add_block]; exact Nat.ne_of_lt (Nat.lt_of_lt_of_le (by have := World.block_lt_of_cell? _ _ hw108_0; first | rwa [add_block] at this | exact this) GW110.out)) | (dsimp only; exact Nat.ne_of_lt (Nat.lt_of_lt_of_le (by have := World.block_lt_of_cell? _ _ hw108_0; first | rwa [add_block] at this | exact this) GW110.out))) _).trans (((cell_far (p := ⟨gb110, _, none⟩) (by first | exact Nat.ne_of_lt (Nat.lt_of_lt_of_le (by have := World.block_lt_of_cell? _ _ hw108_0; first | rwa [add_block] at this | exact this) GW110.out) | (rw [add_block]; exact Nat.ne_of_lt (Nat.lt_of_lt_of_le (by have := World.block_lt_of_cell? _ _ hw108_0; first | rwa [add_block] at this | exact this) GW110.out)) | (show (Addr.add _ _).block ≠ _; rw [add_block]; exact Nat.ne_of_lt (Nat.lt_of_lt_of_le (by have := World.block_lt_of_cell? _ _ hw108_0; first | rwa [add_block] at this | exact this) GW110.out)) | (dsimp only; exact Nat.ne_of_lt (Nat.lt_of_lt_of_le (by have := World.block_lt_of_cell? _ _ hw108_0; first | rwa [add_block] at this | exact this) GW110.out))) _).trans (((cell_far (p := ⟨gb110, _, none⟩) (by first | exact Nat.ne_of_lt (Nat.lt_of_lt_of_le (by have := World.block_lt_of_cell? _ _ hw108_0; first | rwa [add_block] at this | exact this) GW110.out) | (rw [add_block]; exact Nat.ne_of_lt (Nat.lt_of_lt_of_le (by have := World.block_lt_of_cell? _ _ hw108_0; first | rwa [add_block] at this | exact this) GW110.out)) | (show (Addr.add _ _).block ≠ _; rw [add_block]; exact Nat.ne_of_lt (Nat.lt_of_lt_of_le (by have := World.block_lt_of_cell? _ _ hw108_0; first | rwa [add_block] at this | exact this) GW110.out)) | (dsimp only; exact Nat.ne_of_lt (Nat.lt_of_lt_of_le (by have := World.block_lt_of_cell? _ _ hw108_0; first | rwa [add_block] at this | exact this) GW110.out))) _).trans (((cell_far (p := ⟨gb110, _, none⟩) (by first | exact Nat.ne_of_lt (Nat.lt_of_lt_of_le (by have := World.block_lt_of_cell? _ _ hw108_0; first | rwa [add_block] at this | exact this) GW110.out) | (rw [add_block]; exact Nat.ne_of_lt (Nat.lt_of_lt_of_le (by have := World.block_lt_of_cell? _ _ hw108_0; first | rwa [add_block] at this | exact this) GW110.out)) | (show (Addr.add _ _).block ≠ _; rw [add_block]; exact Nat.ne_of_lt (Nat.lt_of_lt_of_le (by have := World.block_lt_of_cell? _ _ hw108_0; first | rwa [add_block] at this | exact this) GW110.out)) | (dsimp only; exact Nat.ne_of_lt (Nat.lt_of_lt_of_le (by have := World.block_lt_of_cell? _ _ hw108_0; first | rwa [add_block] at this | exact this) GW110.out))) _).trans (((cell_far (p := ⟨gb110, _, none⟩) (by first | exact Nat.ne_of_lt (Nat.lt_of_lt_of_le (by have := World.block_lt_of_cell? _ _ hw108_0; first | rwa [add_block] at this | exact this) GW110.out) | (rw [add_block]; exact Nat.ne_of_lt (Nat.lt_of_lt_of_le (by have := World.block_lt_of_cell? _ _ hw108_0; first | rwa [add_block] at this | exact this) GW110.out)) | (show (Addr.add _ _).block ≠ _; rw [add_block]; exact Nat.ne_of_lt (Nat.lt_of_lt_of_le (by have := World.block_lt_of_cell? _ _ hw108_0; first | rwa [add_block] at this | exact this) GW110.out)) | (dsimp only; exact Nat.ne_of_lt (Nat.lt_of_lt_of_le (by have := World.block_lt_of_cell? _ _ hw108_0; first | rwa [add_block] at this | exact this) GW110.out))) _).trans (((cell_far (p := ⟨gb110, _, none⟩) (by first | exact Nat.ne_of_lt (Nat.lt_of_lt_of_le (by have := World.block_lt_of_cell? _ _ hw108_0; first | rwa [add_block] at this | exact this) GW110.out) | (rw [add_block]; exact Nat.ne_of_lt (Nat.lt_of_lt_of_le (by have := World.block_lt_of_cell? _ _ hw108_0; first | rwa [add_block] at this | exact this) GW110.out)) | (show (Addr.add _ _).block ≠ _; rw [add_block]; exact Nat.ne_of_lt (Nat.lt_of_lt_of_le (by have := World.block_lt_of_cell? _ _ hw108_0; first | rwa [add_block] at this | exact this) GW110.out)) | (dsimp only; exact Nat.ne_of_lt (Nat.lt_of_lt_of_le (by have := World.block_lt_of_cell? _ _ hw108_0; first | rwa [add_block] at this | exact this) GW110.out))) _).trans (((cell_far (p := ⟨gb110, _, none⟩) (by first | exact Nat.ne_of_lt (Nat.lt_of_lt_of_le (by have := World.block_lt_of_cell? _ _ hw108_0; first | rwa [add_block] at this | exact this) GW110.out) | (rw [add_block]; exact Nat.ne_of_lt (Nat.lt_of_lt_of_le (by have := World.block_lt_of_cell? _ _ hw108_0; first | rwa [add_block] at this | exact this) GW110.out)) | (show (Addr.add _ _).block ≠ _; rw [add_block]; exact Nat.ne_of_lt (Nat.lt_of_lt_of_le (by have := World.block_lt_of_cell? _ _ hw108_0; first | rwa [add_block] at this | exact this) GW110.out)) | (dsimp only; exact Nat.ne_of_lt (Nat.lt_of_lt_of_le (by have := World.block_lt_of_cell? _ _ hw108_0; first | rwa [add_block] at this | exact this) GW110.out))) _).trans (hHeld.2.2.2.2.2.2.1)))))))))))))), ((cell_far (p := ⟨gb110, _, none⟩) (by first | exact Nat.ne_of_lt (Nat.lt_of_lt_of_le (by have := World.block_lt_of_cell? _ _ hw109_0; first | rwa [add_block] at this | exact this) GW110.out) | (rw [add_block]; exact Nat.ne_of_lt (Nat.lt_of_lt_of_le (by have := World.block_lt_of_cell? _ _ hw109_0; first | rwa [add_block] at this | exact this) GW110.out)) | (show (Addr.add _ _).block ≠ _; rw [add_block]; exact Nat.ne_of_lt (Nat.lt_of_lt_of_le (by have := World.block_lt_of_cell? _ _ hw109_0; first | rwa [add_block] at this | exact this) GW110.out)) | (dsimp only; exact Nat.ne_of_lt (Nat.lt_of_lt_of_le (by have := World.block_lt_of_cell? _ _ hw109_0; first | rwa [add_block] at this | exact this) GW110.out))) _).trans (((cell_far (p := ⟨gb110, _, none⟩) (by first | exact Nat.ne_of_lt (Nat.lt_of_lt_of_le (by have := World.block_lt_of_cell? _ _ hw109_0; first | rwa [add_block] at this | exact this) GW110.out) | (rw [add_block]; exact Nat.ne_of_lt (Nat.lt_of_lt_of_le (by have := World.block_lt_of_cell? _ _ hw109_0; first | rwa [add_block] at this | exact this) GW110.out)) | (show (Addr.add _ _).block ≠ _; rw [add_block]; exact Nat.ne_of_lt (Nat.lt_of_lt_of_le (by have := World.block_lt_of_cell? _ _ hw109_0; first | rwa [add_block] at this | exact this) GW110.out)) | (dsimp only; exact Nat.ne_of_lt (Nat.lt_of_lt_of_le (by have := World.block_lt_of_cell? _ _ hw109_0; first | rwa [add_block] at this | exact this) GW110.out))) _).trans (((cell_far (p := ⟨gb110, _, none⟩) (by first | exact Nat.ne_of_lt (Nat.lt_of_lt_of_le (by have := World.block_lt_of_cell? _ _ hw109_0; first | rwa [add_block] at this | exact this) GW110.out) | (rw [add_block]; exact Nat.ne_of_lt (Nat.lt_of_lt_of_le (by have := World.block_lt_of_cell? _ _ hw109_0; first | rwa [add_block] at this | exact this) GW110.out)) | (show (Addr.add _ _).block ≠ _; rw [add_block]; exact Nat.ne_of_lt (Nat.lt_of_lt_of_le (by have := World.block_lt_of_cell? _ _ hw109_0; first | rwa [add_block] at this | exact this) GW110.out)) | (dsimp only; exact Nat.ne_of_lt (Nat.lt_of_lt_of_le (by have := World.block_lt_of_cell? _ _ hw109_0; first | rwa [add_block] at this | exact this) GW110.out))) _).trans (((cell_far (p := ⟨gb110, _, none⟩) (by first | exact Nat.ne_of_lt (Nat.lt_of_lt_of_le (by have := World.block_lt_of_cell? _ _ hw109_0; first | rwa [add_block] at this | exact this) GW110.out) | (rw [add_block]; exact Nat.ne_of_lt (Nat.lt_of_lt_of_le (by have := World.block_lt_of_cell? _ _ hw109_0; first | rwa [add_block] at this | exact this) GW110.out)) | (show (Addr.add _ _).block ≠ _; rw [add_block]; exact Nat.ne_of_lt (Nat.lt_of_lt_of_le (by have := World.block_lt_of_cell? _ _ hw109_0; first | rwa [add_block] at this | exact this) GW110.out)) | (dsimp only; exact Nat.ne_of_lt (Nat.lt_of_lt_of_le (by have := World.block_lt_of_cell? _ _ hw109_0; first | rwa [add_block] at this | exact this) GW110.out))) _).trans (((cell_far (p := ⟨gb110, _, none⟩) (by first | exact Nat.ne_of_lt (Nat.lt_of_lt_of_le (by have := World.block_lt_of_cell? _ _ hw109_0; first | rwa [add_block] at this | exact this) GW110.out) | (rw [add_block]; exact Nat.ne_of_lt (Nat.lt_of_lt_of_le (by have := World.block_lt_of_cell? _ _ hw109_0; first | rwa [add_block] at this | exact this) GW110.out)) | (show (Addr.add _ _).block ≠ _; rw [add_block]; exact Nat.ne_of_lt (Nat.lt_of_lt_of_le (by have := World.block_lt_of_cell? _ _ hw109_0; first | rwa [add_block] at this | exact this) GW110.out)) | (dsimp only; exact Nat.ne_of_lt (Nat.lt_of_lt_of_le (by have := World.block_lt_of_cell? _ _ hw109_0; first | rwa [add_block] at this | exact this) GW110.out))) _).trans (((cell_far (p := ⟨gb110, _, none⟩) (by first | exact Nat.ne_of_lt (Nat.lt_of_lt_of_le (by have := World.block_lt_of_cell? _ _ hw109_0; first | rwa [add_block] at this | exact this) GW110.out) | (rw [add_block]; exact Nat.ne_of_lt (Nat.lt_of_lt_of_le (by have := World.block_lt_of_cell? _ _ hw109_0; first | rwa [add_block] at this | exact this) GW110.out)) | (show (Addr.add _ _).block ≠ _; rw [add_block]; exact Nat.ne_of_lt (Nat.lt_of_lt_of_le (by have := World.block_lt_of_cell? _ _ hw109_0; first | rwa [add_block] at this | exact this) GW110.out)) | (dsimp only; exact Nat.ne_of_lt (Nat.lt_of_lt_of_le (by have := World.block_lt_of_cell? _ _ hw109_0; first | rwa [add_block] at this | exact this) GW110.out))) _).trans (((cell_far (p := ⟨gb110, _, none⟩) (by first | exact Nat.ne_of_lt (Nat.lt_of_lt_of_le (by have := World.block_lt_of_cell? _ _ hw109_0; first | rwa [add_block] at this | exact this) GW110.out) | (rw [add_block]; exact Nat.ne_of_lt (Nat.lt_of_lt_of_le (by have := World.block_lt_of_cell? _ _ hw109_0; first | rwa [add_block] at this | exact this) GW110.out)) | (show (Addr.add _ _).block ≠ _; rw [add_block]; exact Nat.ne_of_lt (Nat.lt_of_lt_of_le (by have := World.block_lt_of_cell? _ _ hw109_0; first | rwa [add_block] at this | exact this) GW110.out)) | (dsimp only; exact Nat.ne_of_lt (Nat.lt_of_lt_of_le (by have := World.block_lt_of_cell? _ _ hw109_0; first | rwa [add_block] at this | exact this) GW110.out))) _).trans (hHeld.2.2.2.2.2.2.2.1)))))))))))))), ((cell_far (p := ⟨gb110, _, none⟩) (by first | exact Nat.ne_of_lt (Nat.lt_of_lt_of_le (by have := World.block_lt_of_cell? _ _ hw109_1; first | rwa [add_block] at this | exact this) GW110.out) | (rw [add_block]; exact Nat.ne_of_lt (Nat.lt_of_lt_of_le (by have := World.block_lt_of_cell? _ _ hw109_1; first | rwa [add_block] at this | exact this) GW110.out)) | (show (Addr.add _ _).block ≠ _; rw [add_block]; exact Nat.ne_of_lt (Nat.lt_of_lt_of_le (by have := World.block_lt_of_cell? _ _ hw109_1; first | rwa [add_block] at this | exact this) GW110.out)) | (dsimp only; exact Nat.ne_of_lt (Nat.lt_of_lt_of_le (by have := World.block_lt_of_cell? _ _ hw109_1; first | rwa [add_block] at this | exact this) GW110.out))) _).trans (((cell_far (p := ⟨gb110, _, none⟩) (by first | exact Nat.ne_of_lt (Nat.lt_of_lt_of_le (by have := World.block_lt_of_cell? _ _ hw109_1; first | rwa [add_block] at this | exact this) GW110.out) | (rw [add_block]; exact Nat.ne_of_lt (Nat.lt_of_lt_of_le (by have := World.block_lt_of_cell? _ _ hw109_1; first | rwa [add_block] at this | exact this) GW110.out)) | (show (Addr.add _ _).block ≠ _; rw [add_block]; exact Nat.ne_of_lt (Nat.lt_of_lt_of_le (by have := World.block_lt_of_cell? _ _ hw109_1; first | rwa [add_block] at this | exact this) GW110.out)) | (dsimp only; exact Nat.ne_of_lt (Nat.lt_of_lt_of_le (by have := World.block_lt_of_cell? _ _ hw109_1; first | rwa [add_block] at this | exact this) GW110.out))) _).trans (((cell_far (p := ⟨gb110, _, none⟩) (by first | exact Nat.ne_of_lt (Nat.lt_of_lt_of_le (by have := World.block_lt_of_cell? _ _ hw109_1; first | rwa [add_block] at this | exact this) GW110.out) | (rw [add_block]; exact Nat.ne_of_lt (Nat.lt_of_lt_of_le (by have := World.block_lt_of_cell? _ _ hw109_1; first | rwa [add_block] at this | exact this) GW110.out)) | (show (Addr.add _ _).block ≠ _; rw [add_block]; exact Nat.ne_of_lt (Nat.lt_of_lt_of_le (by have := World.block_lt_of_cell? _ _ hw109_1; first | rwa [add_block] at this | exact this) GW110.out)) | (dsimp only; exact Nat.ne_of_lt (Nat.lt_of_lt_of_le (by have := World.block_lt_of_cell? _ _ hw109_1; first | rwa [add_block] at this | exact this) GW110.out))) _).trans (((cell_far (p := ⟨gb110, _, none⟩) (by first | exact Nat.ne_of_lt (Nat.lt_of_lt_of_le (by have := World.block_lt_of_cell? _ _ hw109_1; first | rwa [add_block] at this | exact this) GW110.out) | (rw [add_block]; exact Nat.ne_of_lt (Nat.lt_of_lt_of_le (by have := World.block_lt_of_cell? _ _ hw109_1; first | rwa [add_block] at this | exact this) GW110.out)) | (show (Addr.add _ _).block ≠ _; rw [add_block]; exact Nat.ne_of_lt (Nat.lt_of_lt_of_le (by have := World.block_lt_of_cell? _ _ hw109_1; first | rwa [add_block] at this | exact this) GW110.out)) | (dsimp only; exact Nat.ne_of_lt (Nat.lt_of_lt_of_le (by have := World.block_lt_of_cell? _ _ hw109_1; first | rwa [add_block] at this | exact this) GW110.out))) _).trans (((cell_far (p := ⟨gb110, _, none⟩) (by first | exact Nat.ne_of_lt (Nat.lt_of_lt_of_le (by have := World.block_lt_of_cell? _ _ hw109_1; first | rwa [add_block] at this | exact this) GW110.out) | (rw [add_block]; exact Nat.ne_of_lt (Nat.lt_of_lt_of_le (by have := World.block_lt_of_cell? _ _ hw109_1; first | rwa [add_block] at this | exact this) GW110.out)) | (show (Addr.add _ _).block ≠ _; rw [add_block]; exact Nat.ne_of_lt (Nat.lt_of_lt_of_le (by have := World.block_lt_of_cell? _ _ hw109_1; first | rwa [add_block] at this | exact this) GW110.out)) | (dsimp only; exact Nat.ne_of_lt (Nat.lt_of_lt_of_le (by have := World.block_lt_of_cell? _ _ hw109_1; first | rwa [add_block] at this | exact this) GW110.out))) _).trans (((cell_far (p := ⟨gb110, _, none⟩) (by first | exact Nat.ne_of_lt (Nat.lt_of_lt_of_le (by have := World.block_lt_of_cell? _ _ hw109_1; first | rwa [add_block] at this | exact this) GW110.out) | (rw [add_block]; exact Nat.ne_of_lt (Nat.lt_of_lt_of_le (by have := World.block_lt_of_cell? _ _ hw109_1; first | rwa [add_block] at this | exact this) GW110.out)) | (show (Addr.add _ _).block ≠ _; rw [add_block]; exact Nat.ne_of_lt (Nat.lt_of_lt_of_le (by have := World.block_lt_of_cell? _ _ hw109_1; first | rwa [add_block] at this | exact this) GW110.out)) | (dsimp only; exact Nat.ne_of_lt (Nat.lt_of_lt_of_le (by have := World.block_lt_of_cell? _ _ hw109_1; first | rwa [add_block] at this | exact this) GW110.out))) _).trans (((cell_far (p := ⟨gb110, _, none⟩) (by first | exact Nat.ne_of_lt (Nat.lt_of_lt_of_le (by have := World.block_lt_of_cell? _ _ hw109_1; first | rwa [add_block] at this | exact this) GW110.out) | (rw [add_block]; exact Nat.ne_of_lt (Nat.lt_of_lt_of_le (by have := World.block_lt_of_cell? _ _ hw109_1; first | rwa [add_block] at this | exact this) GW110.out)) | (show (Addr.add _ _).block ≠ _; rw [add_block]; exact Nat.ne_of_lt (Nat.lt_of_lt_of_le (by have := World.block_lt_of_cell? _ _ hw109_1; first | rwa [add_block] at this | exact this) GW110.out)) | (dsimp only; exact Nat.ne_of_lt (Nat.lt_of_lt_of_le (by have := World.block_lt_of_cell? _ _ hw109_1; first | rwa [add_block] at this | exact this) GW110.out))) _).trans (hHeld.2.2.2.2.2.2.2.2.1)))))))))))))), ((cell_far (p := ⟨gb110, _, none⟩) (by first | exact Nat.ne_of_lt (Nat.lt_of_lt_of_le (by have := World.block_lt_of_cell? _ _ hw109_2; first | rwa [add_block] at this | exact this) GW110.out) | (rw [add_block]; exact Nat.ne_of_lt (Nat.lt_of_lt_of_le (by have := World.block_lt_of_cell? _ _ hw109_2; first | rwa [add_block] at this | exact this) GW110.out)) | (show (Addr.add _ _).block ≠ _; rw [add_block]; exact Nat.ne_of_lt (Nat.lt_of_lt_of_le (by have := World.block_lt_of_cell? _ _ hw109_2; first | rwa [add_block] at this | exact this) GW110.out)) | (dsimp only; exact Nat.ne_of_lt (Nat.lt_of_lt_of_le (by have := World.block_lt_of_cell? _ _ hw109_2; first | rwa [add_block] at this | exact this) GW110.out))) _).trans (((cell_far (p := ⟨gb110, _, none⟩) (by first | exact Nat.ne_of_lt (Nat.lt_of_lt_of_le (by have := World.block_lt_of_cell? _ _ hw109_2; first | rwa [add_block] at this | exact this) GW110.out) | (rw [add_block]; exact Nat.ne_of_lt (Nat.lt_of_lt_of_le (by have := World.block_lt_of_cell? _ _ hw109_2; first | rwa [add_block] at this | exact this) GW110.out)) | (show (Addr.add _ _).block ≠ _; rw [add_block]; exact Nat.ne_of_lt (Nat.lt_of_lt_of_le (by have := World.block_lt_of_cell? _ _ hw109_2; first | rwa [add_block] at this | exact this) GW110.out)) | (dsimp only; exact Nat.ne_of_lt (Nat.lt_of_lt_of_le (by have := World.block_lt_of_cell? _ _ hw109_2; first | rwa [add_block] at this | exact this) GW110.out))) _).trans (((cell_far (p := ⟨gb110, _, none⟩) (by first | exact Nat.ne_of_lt (Nat.lt_of_lt_of_le (by have := World.block_lt_of_cell? _ _ hw109_2; first | rwa [add_block] at this | exact this) GW110.out) | (rw [add_block]; exact Nat.ne_of_lt (Nat.lt_of_lt_of_le (by have := World.block_lt_of_cell? _ _ hw109_2; first | rwa [add_block] at this | exact this) GW110.out)) | (show (Addr.add _ _).block ≠ _; rw [add_block]; exact Nat.ne_of_lt (Nat.lt_of_lt_of_le (by have := World.block_lt_of_cell? _ _ hw109_2; first | rwa [add_block] at this | exact this) GW110.out)) | (dsimp only; exact Nat.ne_of_lt (Nat.lt_of_lt_of_le (by have := World.block_lt_of_cell? _ _ hw109_2; first | rwa [add_block] at this | exact this) GW110.out))) _).trans (((cell_far (p := ⟨gb110, _, none⟩) (by first | exact Nat.ne_of_lt (Nat.lt_of_lt_of_le (by have := World.block_lt_of_cell? _ _ hw109_2; first | rwa [add_block] at this | exact this) GW110.out) | (rw [add_block]; exact Nat.ne_of_lt (Nat.lt_of_lt_of_le (by have := World.block_lt_of_cell? _ _ hw109_2; first | rwa [add_block] at this | exact this) GW110.out)) | (show (Addr.add _ _).block ≠ _; rw [add_block]; exact Nat.ne_of_lt (Nat.lt_of_lt_of_le (by have := World.block_lt_of_cell? _ _ hw109_2; first | rwa [add_block] at this | exact this) GW110.out)) | (dsimp only; exact Nat.ne_of_lt (Nat.lt_of_lt_of_le (by have := World.block_lt_of_cell? _ _ hw109_2; first | rwa [add_block] at this | exact this) GW110.out))) _).trans (((cell_far (p := ⟨gb110, _, none⟩) (by first | exact Nat.ne_of_lt (Nat.lt_of_lt_of_le (by have := World.block_lt_of_cell? _ _ hw109_2; first | rwa [add_block] at this | exact this) GW110.out) | (rw [add_block]; exact Nat.ne_of_lt (Nat.lt_of_lt_of_le (by have := World.block_lt_of_cell? _ _ hw109_2; first | rwa [add_block] at this | exact this) GW110.out)) | (show (Addr.add _ _).block ≠ _; rw [add_block]; exact Nat.ne_of_lt (Nat.lt_of_lt_of_le (by have := World.block_lt_of_cell? _ _ hw109_2; first | rwa [add_block] at this | exact this) GW110.out)) | (dsimp only; exact Nat.ne_of_lt (Nat.lt_of_lt_of_le (by have := World.block_lt_of_cell? _ _ hw109_2; first | rwa [add_block] at this | exact this) GW110.out))) _).trans (((cell_far (p := ⟨gb110, _, none⟩) (by first | exact Nat.ne_of_lt (Nat.lt_of_lt_of_le (by have := World.block_lt_of_cell? _ _ hw109_2; first | rwa [add_block] at this | exact this) GW110.out) | (rw [add_block]; exact Nat.ne_of_lt (Nat.lt_of_lt_of_le (by have := World.block_lt_of_cell? _ _ hw109_2; first | rwa [add_block] at this | exact this) GW110.out)) | (show (Addr.add _ _).block ≠ _; rw [add_block]; exact Nat.ne_of_lt (Nat.lt_of_lt_of_le (by have := World.block_lt_of_cell? _ _ hw109_2; first | rwa [add_block] at this | exact this) GW110.out)) | (dsimp only; exact Nat.ne_of_lt (Nat.lt_of_lt_of_le (by have := World.block_lt_of_cell? _ _ hw109_2; first | rwa [add_block] at this | exact this) GW110.out))) _).trans (((cell_far (p := ⟨gb110, _, none⟩) (by first | exact Nat.ne_of_lt (Nat.lt_of_lt_of_le (by have := World.block_lt_of_cell? _ _ hw109_2; first | rwa [add_block] at this | exact this) GW110.out) | (rw [add_block]; exact Nat.ne_of_lt (Nat.lt_of_lt_of_le (by have := World.block_lt_of_cell? _ _ hw109_2; first | rwa [add_block] at this | exact this) GW110.out)) | (show (Addr.add _ _).block ≠ _; rw [add_block]; exact Nat.ne_of_lt (Nat.lt_of_lt_of_le (by have := World.block_lt_of_cell? _ _ hw109_2; first | rwa [add_block] at this | exact this) GW110.out)) | (dsimp only; exact Nat.ne_of_lt (Nat.lt_of_lt_of_le (by have := World.block_lt_of_cell? _ _ hw109_2; first | rwa [add_block] at this | exact this) GW110.out))) _).trans (hHeld.2.2.2.2.2.2.2.2.2.1)))))))))))))), ((cell_far (p := ⟨gb110, _, none⟩) (by first | exact Nat.ne_of_lt (Nat.lt_of_lt_of_le (by have := World.block_lt_of_cell? _ _ hw109_3; first | rwa [add_block] at this | exact this) GW110.out) | (rw [add_block]; exact Nat.ne_of_lt (Nat.lt_of_lt_of_le (by have := World.block_lt_of_cell? _ _ hw109_3; first | rwa [add_block] at this | exact this) GW110.out)) | (show (Addr.add _ _).block ≠ _; rw [add_block]; exact Nat.ne_of_lt (Nat.lt_of_lt_of_le (by have := World.block_lt_of_cell? _ _ hw109_3; first | rwa [add_block] at this | exact this) GW110.out)) | (dsimp only; exact Nat.ne_of_lt (Nat.lt_of_lt_of_le (by have := World.block_lt_of_cell? _ _ hw109_3; first | rwa [add_block] at this | exact this) GW110.out))) _).trans (((cell_far (p := ⟨gb110, _, none⟩) (by first | exact Nat.ne_of_lt (Nat.lt_of_lt_of_le (by have := World.block_lt_of_cell? _ _ hw109_3; first | rwa [add_block] at this | exact this) GW110.out) | (rw [add_block]; exact Nat.ne_of_lt (Nat.lt_of_lt_of_le (by have := World.block_lt_of_cell? _ _ hw109_3; first | rwa [add_block] at this | exact this) GW110.out)) | (show (Addr.add _ _).block ≠ _; rw [add_block]; exact Nat.ne_of_lt (Nat.lt_of_lt_of_le (by have := World.block_lt_of_cell? _ _ hw109_3; first | rwa [add_block] at this | exact this) GW110.out)) | (dsimp only; exact Nat.ne_of_lt (Nat.lt_of_lt_of_le (by have := World.block_lt_of_cell? _ _ hw109_3; first | rwa [add_block] at this | exact this) GW110.out))) _).trans (((cell_far (p := ⟨gb110, _, none⟩) (by first | exact Nat.ne_of_lt (Nat.lt_of_lt_of_le (by have := World.block_lt_of_cell? _ _ hw109_3; first | rwa [add_block] at this | exact this) GW110.out) | (rw [add_block]; exact Nat.ne_of_lt (Nat.lt_of_lt_of_le (by have := World.block_lt_of_cell? _ _ hw109_3; first | rwa [add_block] at this | exact this) GW110.out)) | (show (Addr.add _ _).block ≠ _; rw [add_block]; exact Nat.ne_of_lt (Nat.lt_of_lt_of_le (by have := World.block_lt_of_cell? _ _ hw109_3; first | rwa [add_block] at this | exact this) GW110.out)) | (dsimp only; exact Nat.ne_of_lt (Nat.lt_of_lt_of_le (by have := World.block_lt_of_cell? _ _ hw109_3; first | rwa [add_block] at this | exact this) GW110.out))) _).trans (((cell_far (p := ⟨gb110, _, none⟩) (by first | exact Nat.ne_of_lt (Nat.lt_of_lt_of_le (by have := World.block_lt_of_cell? _ _ hw109_3; first | rwa [add_block] at this | exact this) GW110.out) | (rw [add_block]; exact Nat.ne_of_lt (Nat.lt_of_lt_of_le (by have := World.block_lt_of_cell? _ _ hw109_3; first | rwa [add_block] at this | exact this) GW110.out)) | (show (Addr.add _ _).block ≠ _; rw [add_block]; exact Nat.ne_of_lt (Nat.lt_of_lt_of_le (by have := World.block_lt_of_cell? _ _ hw109_3; first | rwa [add_block] at this | exact this) GW110.out)) | (dsimp only; exact Nat.ne_of_lt (Nat.lt_of_lt_of_le (by have := World.block_lt_of_cell? _ _ hw109_3; first | rwa [add_block] at this | exact this) GW110.out))) _).trans (((cell_far (p := ⟨gb110, _, none⟩) (by first | exact Nat.ne_of_lt (Nat.lt_of_lt_of_le (by have := World.block_lt_of_cell? _ _ hw109_3; first | rwa [add_block] at this | exact this) GW110.out) | (rw [add_block]; exact Nat.ne_of_lt (Nat.lt_of_lt_of_le (by have := World.block_lt_of_cell? _ _ hw109_3; first | rwa [add_block] at this | exact this) GW110.out)) | (show (Addr.add _ _).block ≠ _; rw [add_block]; exact Nat.ne_of_lt (Nat.lt_of_lt_of_le (by have := World.block_lt_of_cell? _ _ hw109_3; first | rwa [add_block] at this | exact this) GW110.out)) | (dsimp only; exact Nat.ne_of_lt (Nat.lt_of_lt_of_le (by have := World.block_lt_of_cell? _ _ hw109_3; first | rwa [add_block] at this | exact this) GW110.out))) _).trans (((cell_far (p := ⟨gb110, _, none⟩) (by first | exact Nat.ne_of_lt (Nat.lt_of_lt_of_le (by have := World.block_lt_of_cell? _ _ hw109_3; first | rwa [add_block] at this | exact this) GW110.out) | (rw [add_block]; exact Nat.ne_of_lt (Nat.lt_of_lt_of_le (by have := World.block_lt_of_cell? _ _ hw109_3; first | rwa [add_block] at this | exact this) GW110.out)) | (show (Addr.add _ _).block ≠ _; rw [add_block]; exact Nat.ne_of_lt (Nat.lt_of_lt_of_le (by have := World.block_lt_of_cell? _ _ hw109_3; first | rwa [add_block] at this | exact this) GW110.out)) | (dsimp only; exact Nat.ne_of_lt (Nat.lt_of_lt_of_le (by have := World.block_lt_of_cell? _ _ hw109_3; first | rwa [add_block] at this | exact this) GW110.out))) _).trans (((cell_far (p := ⟨gb110, _, none⟩) (by first | exact Nat.ne_of_lt (Nat.lt_of_lt_of_le (by have := World.block_lt_of_cell? _ _ hw109_3; first | rwa [add_block] at this | exact this) GW110.out) | (rw [add_block]; exact Nat.ne_of_lt (Nat.lt_of_lt_of_le (by have := World.block_lt_of_cell? _ _ hw109_3; first | rwa [add_block] at this | exact this) GW110.out)) | (show (Addr.add _ _).block ≠ _; rw [add_block]; exact Nat.ne_of_lt (Nat.lt_of_lt_of_le (by have := World.block_lt_of_cell? _ _ hw109_3; first | rwa [add_block] at this | exact this) GW110.out)) | (dsimp only; exact Nat.ne_of_lt (Nat.lt_of_lt_of_le (by have := World.block_lt_of_cell? _ _ hw109_3; first | rwa [add_block] at this | exact this) GW110.out))) _).trans (hHeld.2.2.2.2.2.2.2.2.2.2.1)))))))))))))), ((cell_far (p := ⟨gb110, _, none⟩) (by first | exact Nat.ne_of_lt (Nat.lt_of_lt_of_le (by have := World.block_lt_of_cell? _ _ hw109_4; first | rwa [add_block] at this | exact this) GW110.out) | (rw [add_block]; exact Nat.ne_of_lt (Nat.lt_of_lt_of_le (by have := World.block_lt_of_cell? _ _ hw109_4; first | rwa [add_block] at this | exact this) GW110.out)) | (show (Addr.add _ _).block ≠ _; rw [add_block]; exact Nat.ne_of_lt (Nat.lt_of_lt_of_le (by have := World.block_lt_of_cell? _ _ hw109_4; first | rwa [add_block] at this | exact this) GW110.out)) | (dsimp only; exact Nat.ne_of_lt (Nat.lt_of_lt_of_le (by have := World.block_lt_of_cell? _ _ hw109_4; first | rwa [add_block] at this | exact this) GW110.out))) _).trans (((cell_far (p := ⟨gb110, _, none⟩) (by first | exact Nat.ne_of_lt (Nat.lt_of_lt_of_le (by have := World.block_lt_of_cell? _ _ hw109_4; first | rwa [add_block] at this | exact this) GW110.out) | (rw [add_block]; exact Nat.ne_of_lt (Nat.lt_of_lt_of_le (by have := World.block_lt_of_cell? _ _ hw109_4; first | rwa [add_block] at this | exact this) GW110.out)) | (show (Addr.add _ _).block ≠ _; rw [add_block]; exact Nat.ne_of_lt (Nat.lt_of_lt_of_le (by have := World.block_lt_of_cell? _ _ hw109_4; first | rwa [add_block] at this | exact this) GW110.out)) | (dsimp only; exact Nat.ne_of_lt (Nat.lt_of_lt_of_le (by have := World.block_lt_of_cell? _ _ hw109_4; first | rwa [add_block] at this | exact this) GW110.out))) _).trans (((cell_far (p := ⟨gb110, _, none⟩) (by first | exact Nat.ne_of_lt (Nat.lt_of_lt_of_le (by have := World.block_lt_of_cell? _ _ hw109_4; first | rwa [add_block] at this | exact this) GW110.out) | (rw [add_block]; exact Nat.ne_of_lt (Nat.lt_of_lt_of_le (by have := World.block_lt_of_cell? _ _ hw109_4; first | rwa [add_block] at this | exact this) GW110.out)) | (show (Addr.add _ _).block ≠ _; rw [add_block]; exact Nat.ne_of_lt (Nat.lt_of_lt_of_le (by have := World.block_lt_of_cell? _ _ hw109_4; first | rwa [add_block] at this | exact this) GW110.out)) | (dsimp only; exact Nat.ne_of_lt (Nat.lt_of_lt_of_le (by have := World.block_lt_of_cell? _ _ hw109_4; first | rwa [add_block] at this | exact this) GW110.out))) _).trans (((cell_far (p := ⟨gb110, _, none⟩) (by first | exact Nat.ne_of_lt (Nat.lt_of_lt_of_le (by have := World.block_lt_of_cell? _ _ hw109_4; first | rwa [add_block] at this | exact this) GW110.out) | (rw [add_block]; exact Nat.ne_of_lt (Nat.lt_of_lt_of_le (by have := World.block_lt_of_cell? _ _ hw109_4; first | rwa [add_block] at this | exact this) GW110.out)) | (show (Addr.add _ _).block ≠ _; rw [add_block]; exact Nat.ne_of_lt (Nat.lt_of_lt_of_le (by have := World.block_lt_of_cell? _ _ hw109_4; first | rwa [add_block] at this | exact this) GW110.out)) | (dsimp only; exact Nat.ne_of_lt (Nat.lt_of_lt_of_le (by have := World.block_lt_of_cell? _ _ hw109_4; first | rwa [add_block] at this | exact this) GW110.out))) _).trans (((cell_far (p := ⟨gb110, _, none⟩) (by first | exact Nat.ne_of_lt (Nat.lt_of_lt_of_le (by have := World.block_lt_of_cell? _ _ hw109_4; first | rwa [add_block] at this | exact this) GW110.out) | (rw [add_block]; exact Nat.ne_of_lt (Nat.lt_of_lt_of_le (by have := World.block_lt_of_cell? _ _ hw109_4; first | rwa [add_block] at this | exact this) GW110.out)) | (show (Addr.add _ _).block ≠ _; rw [add_block]; exact Nat.ne_of_lt (Nat.lt_of_lt_of_le (by have := World.block_lt_of_cell? _ _ hw109_4; first | rwa [add_block] at this | exact this) GW110.out)) | (dsimp only; exact Nat.ne_of_lt (Nat.lt_of_lt_of_le (by have := World.block_lt_of_cell? _ _ hw109_4; first | rwa [add_block] at this | exact this) GW110.out))) _).trans (((cell_far (p := ⟨gb110, _, none⟩) (by first | exact Nat.ne_of_lt (Nat.lt_of_lt_of_le (by have := World.block_lt_of_cell? _ _ hw109_4; first | rwa [add_block] at this | exact this) GW110.out) | (rw [add_block]; exact Nat.ne_of_lt (Nat.lt_of_lt_of_le (by have := World.block_lt_of_cell? _ _ hw109_4; first | rwa [add_block] at this | exact this) GW110.out)) | (show (Addr.add _ _).block ≠ _; rw [add_block]; exact Nat.ne_of_lt (Nat.lt_of_lt_of_le (by have := World.block_lt_of_cell? _ _ hw109_4; first | rwa [add_block] at this | exact this) GW110.out)) | (dsimp only; exact Nat.ne_of_lt (Nat.lt_of_lt_of_le (by have := World.block_lt_of_cell? _ _ hw109_4; first | rwa [add_block] at this | exact this) GW110.out))) _).trans (((cell_far (p := ⟨gb110, _, none⟩) (by first | exact Nat.ne_of_lt (Nat.lt_of_lt_of_le (by have := World.block_lt_of_cell? _ _ hw109_4; first | rwa [add_block] at this | exact this) GW110.out) | (rw [add_block]; exact Nat.ne_of_lt (Nat.lt_of_lt_of_le (by have := World.block_lt_of_cell? _ _ hw109_4; first | rwa [add_block] at this | exact this) GW110.out)) | (show (Addr.add _ _).block ≠ _; rw [add_block]; exact Nat.ne_of_lt (Nat.lt_of_lt_of_le (by have := World.block_lt_of_cell? _ _ hw109_4; first | rwa [add_block] at this | exact this) GW110.out)) | (dsimp only; exact Nat.ne_of_lt (Nat.lt_of_lt_of_le (by have := World.block_lt_of_cell? _ _ hw109_4; first | rwa [add_block] at this | exact this) GW110.out))) _).trans (hHeld.2.2.2.2.2.2.2.2.2.2.2.1)))))))))))))), ((cell_far (p := ⟨gb110, _, none⟩) (by first | exact Nat.ne_of_lt (Nat.lt_of_lt_of_le (by have := World.block_lt_of_cell? _ _ hw109_5; first | rwa [add_block] at this | exact this) GW110.out) | (rw [add_block]; exact Nat.ne_of_lt (Nat.lt_of_lt_of_le (by have := World.block_lt_of_cell? _ _ hw109_5; first | rwa [add_block] at this | exact this) GW110.out)) | (show (Addr.add _ _).block ≠ _; rw [add_block]; exact Nat.ne_of_lt (Nat.lt_of_lt_of_le (by have := World.block_lt_of_cell? _ _ hw109_5; first | rwa [add_block] at this | exact this) GW110.out)) | (dsimp only; exact Nat.ne_of_lt (Nat.lt_of_lt_of_le (by have := World.block_lt_of_cell? _ _ hw109_5; first | rwa [add_block] at this | exact this) GW110.out))) _).trans (((cell_far (p := ⟨gb110, _, none⟩) (by first | exact Nat.ne_of_lt (Nat.lt_of_lt_of_le (by have := World.block_lt_of_cell? _ _ hw109_5; first | rwa [add_block] at this | exact this) GW110.out) | (rw [add_block]; exact Nat.ne_of_lt (Nat.lt_of_lt_of_le (by have := World.block_lt_of_cell? _ _ hw109_5; first | rwa [add_block] at this | exact this) GW110.out)) | (show (Addr.add _ _).block ≠ _; rw [add_block]; exact Nat.ne_of_lt (Nat.lt_of_lt_of_le (by have := World.block_lt_of_cell? _ _ hw109_5; first | rwa [add_block] at this | exact this) GW110.out)) | (dsimp only; exact Nat.ne_of_lt (Nat.lt_of_lt_of_le (by have := World.block_lt_of_cell? _ _ hw109_5; first | rwa [add_block] at this | exact this) GW110.out))) _).trans (((cell_far (p := ⟨gb110, _, none⟩) (by first | exact Nat.ne_of_lt (Nat.lt_of_lt_of_le (by have := World.block_lt_of_cell? _ _ hw109_5; first | rwa [add_block] at this | exact this) GW110.out) | (rw [add_block]; exact Nat.ne_of_lt (Nat.lt_of_lt_of_le (by have := World.block_lt_of_cell? _ _ hw109_5; first | rwa [add_block] at this | exact this) GW110.out)) | (show (Addr.add _ _).block ≠ _; rw [add_block]; exact Nat.ne_of_lt (Nat.lt_of_lt_of_le (by have := World.block_lt_of_cell? _ _ hw109_5; first | rwa [add_block] at this | exact this) GW110.out)) | (dsimp only; exact Nat.ne_of_lt (Nat.lt_of_lt_of_le (by have := World.block_lt_of_cell? _ _ hw109_5; first | rwa [add_block] at this | exact this) GW110.out))) _).trans (((cell_far (p := ⟨gb110, _, none⟩) (by first | exact Nat.ne_of_lt (Nat.lt_of_lt_of_le (by have := World.block_lt_of_cell? _ _ hw109_5; first | rwa [add_block] at this | exact this) GW110.out) | (rw [add_block]; exact Nat.ne_of_lt (Nat.lt_of_lt_of_le (by have := World.block_lt_of_cell? _ _ hw109_5; first | rwa [add_block] at this | exact this) GW110.out)) | (show (Addr.add _ _).block ≠ _; rw [add_block]; exact Nat.ne_of_lt (Nat.lt_of_lt_of_le (by have := World.block_lt_of_cell? _ _ hw109_5; first | rwa [add_block] at this | exact this) GW110.out)) | (dsimp only; exact Nat.ne_of_lt (Nat.lt_of_lt_of_le (by have := World.block_lt_of_cell? _ _ hw109_5; first | rwa [add_block] at this | exact this) GW110.out))) _).trans (((cell_far (p := ⟨gb110, _, none⟩) (by first | exact Nat.ne_of_lt (Nat.lt_of_lt_of_le (by have := World.block_lt_of_cell? _ _ hw109_5; first | rwa [add_block] at this | exact this) GW110.out) | (rw [add_block]; exact Nat.ne_of_lt (Nat.lt_of_lt_of_le (by have := World.block_lt_of_cell? _ _ hw109_5; first | rwa [add_block] at this | exact this) GW110.out)) | (show (Addr.add _ _).block ≠ _; rw [add_block]; exact Nat.ne_of_lt (Nat.lt_of_lt_of_le (by have := World.block_lt_of_cell? _ _ hw109_5; first | rwa [add_block] at this | exact this) GW110.out)) | (dsimp only; exact Nat.ne_of_lt (Nat.lt_of_lt_of_le (by have := World.block_lt_of_cell? _ _ hw109_5; first | rwa [add_block] at this | exact this) GW110.out))) _).trans (((cell_far (p := ⟨gb110, _, none⟩) (by first | exact Nat.ne_of_lt (Nat.lt_of_lt_of_le (by have := World.block_lt_of_cell? _ _ hw109_5; first | rwa [add_block] at this | exact this) GW110.out) | (rw [add_block]; exact Nat.ne_of_lt (Nat.lt_of_lt_of_le (by have := World.block_lt_of_cell? _ _ hw109_5; first | rwa [add_block] at this | exact this) GW110.out)) | (show (Addr.add _ _).block ≠ _; rw [add_block]; exact Nat.ne_of_lt (Nat.lt_of_lt_of_le (by have := World.block_lt_of_cell? _ _ hw109_5; first | rwa [add_block] at this | exact this) GW110.out)) | (dsimp only; exact Nat.ne_of_lt (Nat.lt_of_lt_of_le (by have := World.block_lt_of_cell? _ _ hw109_5; first | rwa [add_block] at this | exact this) GW110.out))) _).trans (((cell_far (p := ⟨gb110, _, none⟩) (by first | exact Nat.ne_of_lt (Nat.lt_of_lt_of_le (by have := World.block_lt_of_cell? _ _ hw109_5; first | rwa [add_block] at this | exact this) GW110.out) | (rw [add_block]; exact Nat.ne_of_lt (Nat.lt_of_lt_of_le (by have := World.block_lt_of_cell? _ _ hw109_5; first | rwa [add_block] at this | exact this) GW110.out)) | (show (Addr.add _ _).block ≠ _; rw [add_block]; exact Nat.ne_of_lt (Nat.lt_of_lt_of_le (by have := World.block_lt_of_cell? _ _ hw109_5; first | rwa [add_block] at this | exact this) GW110.out)) | (dsimp only; exact Nat.ne_of_lt (Nat.lt_of_lt_of_le (by have := World.block_lt_of_cell? _ _ hw109_5; first | rwa [add_block] at this | exact this) GW110.out))) _).trans (hHeld.2.2.2.2.2.2.2.2.2.2.2.2.1)))))))))))))), ((cell_far (p := ⟨gb110, _, none⟩) (by first | exact Nat.ne_of_lt (Nat.lt_of_lt_of_le (by have := World.block_lt_of_cell? _ _ hw109_6; first | rwa [add_block] at this | exact this) GW110.out) | (rw [add_block]; exact Nat.ne_of_lt (Nat.lt_of_lt_of_le (by have := World.block_lt_of_cell? _ _ hw109_6; first | rwa [add_block] at this | exact this) GW110.out)) | (show (Addr.add _ _).block ≠ _; rw [add_block]; exact Nat.ne_of_lt (Nat.lt_of_lt_of_le (by have := World.block_lt_of_cell? _ _ hw109_6; first | rwa [add_block] at this | exact this) GW110.out)) | (dsimp only; exact Nat.ne_of_lt (Nat.lt_of_lt_of_le (by have := World.block_lt_of_cell? _ _ hw109_6; first | rwa [add_block] at this | exact this) GW110.out))) _).trans (((cell_far (p := ⟨gb110, _, none⟩) (by first | exact Nat.ne_of_lt (Nat.lt_of_lt_of_le (by have := World.block_lt_of_cell? _ _ hw109_6; first | rwa [add_block] at this | exact this) GW110.out) | (rw [add_block]; exact Nat.ne_of_lt (Nat.lt_of_lt_of_le (by have := World.block_lt_of_cell? _ _ hw109_6; first | rwa [add_block] at this | exact this) GW110.out)) | (show (Addr.add _ _).block ≠ _; rw [add_block]; exact Nat.ne_of_lt (Nat.lt_of_lt_of_le (by have := World.block_lt_of_cell? _ _ hw109_6; first | rwa [add_block] at this | exact this) GW110.out)) | (dsimp only; exact Nat.ne_of_lt (Nat.lt_of_lt_of_le (by have := World.block_lt_of_cell? _ _ hw109_6; first | rwa [add_block] at this | exact this) GW110.out))) _).trans (((cell_far (p := ⟨gb110, _, none⟩) (by first | exact Nat.ne_of_lt (Nat.lt_of_lt_of_le (by have := World.block_lt_of_cell? _ _ hw109_6; first | rwa [add_block] at this | exact this) GW110.out) | (rw [add_block]; exact Nat.ne_of_lt (Nat.lt_of_lt_of_le (by have := World.block_lt_of_cell? _ _ hw109_6; first | rwa [add_block] at this | exact this) GW110.out)) | (show (Addr.add _ _).block ≠ _; rw [add_block]; exact Nat.ne_of_lt (Nat.lt_of_lt_of_le (by have := World.block_lt_of_cell? _ _ hw109_6; first | rwa [add_block] at this | exact this) GW110.out)) | (dsimp only; exact Nat.ne_of_lt (Nat.lt_of_lt_of_le (by have := World.block_lt_of_cell? _ _ hw109_6; first | rwa [add_block] at this | exact this) GW110.out))) _).trans (((cell_far (p := ⟨gb110, _, none⟩) (by first | exact Nat.ne_of_lt (Nat.lt_of_lt_of_le (by have := World.block_lt_of_cell? _ _ hw109_6; first | rwa [add_block] at this | exact this) GW110.out) | (rw [add_block]; exact Nat.ne_of_lt (Nat.lt_of_lt_of_le (by have := World.block_lt_of_cell? _ _ hw109_6; first | rwa [add_block] at this | exact this) GW110.out)) | (show (Addr.add _ _).block ≠ _; rw [add_block]; exact Nat.ne_of_lt (Nat.lt_of_lt_of_le (by have := World.block_lt_of_cell? _ _ hw109_6; first | rwa [add_block] at this | exact this) GW110.out)) | (dsimp only; exact Nat.ne_of_lt (Nat.lt_of_lt_of_le (by have := World.block_lt_of_cell? _ _ hw109_6; first | rwa [add_block] at this | exact this) GW110.out))) _).trans (((cell_far (p := ⟨gb110, _, none⟩) (by first | exact Nat.ne_of_lt (Nat.lt_of_lt_of_le (by have := World.block_lt_of_cell? _ _ hw109_6; first | rwa [add_block] at this | exact this) GW110.out) | (rw [add_block]; exact Nat.ne_of_lt (Nat.lt_of_lt_of_le (by have := World.block_lt_of_cell? _ _ hw109_6; first | rwa [add_block] at this | exact this) GW110.out)) | (show (Addr.add _ _).block ≠ _; rw [add_block]; exact Nat.ne_of_lt (Nat.lt_of_lt_of_le (by have := World.block_lt_of_cell? _ _ hw109_6; first | rwa [add_block] at this | exact this) GW110.out)) | (dsimp only; exact Nat.ne_of_lt (Nat.lt_of_lt_of_le (by have := World.block_lt_of_cell? _ _ hw109_6; first | rwa [add_block] at this | exact this) GW110.out))) _).trans (((cell_far (p := ⟨gb110, _, none⟩) (by first | exact Nat.ne_of_lt (Nat.lt_of_lt_of_le (by have := World.block_lt_of_cell? _ _ hw109_6; first | rwa [add_block] at this | exact this) GW110.out) | (rw [add_block]; exact Nat.ne_of_lt (Nat.lt_of_lt_of_le (by have := World.block_lt_of_cell? _ _ hw109_6; first | rwa [add_block] at this | exact this) GW110.out)) | (show (Addr.add _ _).block ≠ _; rw [add_block]; exact Nat.ne_of_lt (Nat.lt_of_lt_of_le (by have := World.block_lt_of_cell? _ _ hw109_6; first | rwa [add_block] at this | exact this) GW110.out)) | (dsimp only; exact Nat.ne_of_lt (Nat.lt_of_lt_of_le (by have := World.block_lt_of_cell? _ _ hw109_6; first | rwa [add_block] at this | exact this) GW110.out))) _).trans (((cell_far (p := ⟨gb110, _, none⟩) (by first | exact Nat.ne_of_lt (Nat.lt_of_lt_of_le (by have := World.block_lt_of_cell? _ _ hw109_6; first | rwa [add_block] at this | exact this) GW110.out) | (rw [add_block]; exact Nat.ne_of_lt (Nat.lt_of_lt_of_le (by have := World.block_lt_of_cell? _ _ hw109_6; first | rwa [add_block] at this | exact this) GW110.out)) | (show (Addr.add _ _).block ≠ _; rw [add_block]; exact Nat.ne_of_lt (Nat.lt_of_lt_of_le (by have := World.block_lt_of_cell? _ _ hw109_6; first | rwa [add_block] at this | exact this) GW110.out)) | (dsimp only; exact Nat.ne_of_lt (Nat.lt_of_lt_of_le (by have := World.block_lt_of_cell? _ _ hw109_6; first | rwa [add_block] at this | exact this) GW110.out))) _).trans (hHeld.2.2.2.2.2.2.2.2.2.2.2.2.2))))))))))))))⟩ (fun hHeld => ?_)
        clear hK K
        refine done_ (done_of HT_.out (by kernel_rfl)) ?_
        go_upto_region 5 with (fail)
        go_cut [52] (fun v52 wc => ∃ (kq : Nat) (x52_16 : Bool), v52 = .bool x52_16 ∧ Aside0 (flow_Next.j1 kq ([] : List Int) x52_16 a0_0 a0_1 l0_2 a0_3 l0_4 ((rd_T56 ((rd_T54 l0_4 a1).f0) (ji14)).f0) ((rd_T56 ((rd_T54 l0_4 a1).f0) (ji14)).f1) ((rd_T56 ((rd_T54 l0_4 a1).f0) (ji14)).f2) ((rd_T56 ((rd_T54 l0_4 a1).f0) (ji14)).f3) ((rd_T56 ((rd_T54 l0_4 a1).f0) (ji14)).f4) ((rd_T56 ((rd_T54 l0_4 a1).f0) (ji14)).f5) ((rd_T56 ((rd_T54 l0_4 a1).f0) (ji14)).f6) = some r) ∧ Aside0 (kq ≤ kj2) ∧ Aside0 (Kd.R (Kd.int .i64) 3 wc w.heap.size (fun _ => True) (.slice none 0 0) ([] : List Int)) ∧ Aside0 (wc.heap[gb105]? = some (.cells #[.string a0_0, .bool a0_1, (.slice A0_2 l0_2.length c0_2), .int .i64 a0_3, (.slice (some ad107) l0_4.length c0_4)] 25 (0, 0))) ∧ Aside0 (wc.heap[gb110]? = some (.cells #[.int .i64 ((rd_T56 ((rd_T54 l0_4 a1).f0) (ji14)).f0), .int .i64 ((rd_T56 ((rd_T54 l0_4 a1).f0) (ji14)).f1), .int .i64 ((rd_T56 ((rd_T54 l0_4 a1).f0) (ji14)).f2), .int .i64 ((rd_T56 ((rd_T54 l0_4 a1).f0) (ji14)).f3), .int .i64 ((rd_T56 ((rd_T54 l0_4 a1).f0) (ji14)).f4), (.slice A109_5 ((rd_T56 ((rd_T54 l0_4 a1).f0) (ji14)).f5).length c109_5), (.slice A109_6 ((rd_T56 ((rd_T54 l0_4 a1).f0) (ji14)).f6).length c109_6)] 56 (0, 0))) ∧ Aside0 (Below w.heap.size w wc))
        case first =>
         have H := HC17.out
         clear HC17
         by_cases c27 : ((rd_T56 ((rd_T54 l0_4 a1).f0) (ji14)).f0) = 27
         ·rw [if_pos c27] at H
          have c27b0 : (((rd_T56 ((rd_T54 l0_4 a1).f0) (ji14)).f0) == 27) = true := beq_iff_eq.mpr c27
          have c27b1 : (((rd_T56 ((rd_T54 l0_4 a1).f0) (ji14)).f0) != 27) = false := bne_eq_false_iff_eq.mpr c27
          clear c27
          (first | rw [c27b0] | (simp only [i64_w, i32_w]; rw [c27b0]) | skip)
          have H' := Aside0.mk H
          clear H
          have hnb28 := NB110_105.out
          have hnc28 := NB105_110.out
          have hcz29_0 : w19.cell? ⟨gb110, 0, none⟩ = some (.int .i64 0) := (blk_cell BK110.out 0).trans rfl
          have hcz29_1 : w19.cell? ⟨gb110, 1, none⟩ = some (.int .i64 0) := (blk_cell BK110.out 1).trans rfl
          have hcz29_2 : w19.cell? ⟨gb110, 2, none⟩ = some (.int .i64 0) := (blk_cell BK110.out 2).trans rfl
          have hcz29_3 : w19.cell? ⟨gb110, 3, none⟩ = some (.int .i64 0) := (blk_cell BK110.out 3).trans rfl
          have hcz29_4 : w19.cell? ⟨gb110, 4, none⟩ = some (.int .i64 0) := (blk_cell BK110.out 4).trans rfl
          have hcz29_5 : w19.cell? ⟨gb110, 5, none⟩ = some (.slice none 0 0) := (blk_cell BK110.out 5).trans rfl
          have hcz29_6 : w19.cell? ⟨gb110, 6, none⟩ = some (.slice none 0 0) := (blk_cell BK110.out 6).trans rfl
          have hfz29_0 := blk_frozen BK110.out 0
          have hfz29_1 := blk_frozen BK110.out 1
          have hfz29_2 := blk_frozen BK110.out 2
          have hfz29_3 := blk_frozen BK110.out 3
          have hfz29_4 := blk_frozen BK110.out 4
          have hfz29_5 := blk_frozen BK110.out 5
          have hfz29_6 := blk_frozen BK110.out 6
          go_wp2
          go_meet
          case rel => exact ⟨_, (false), (by first | rfl | (simp; done) | (simp [*]; done)), H', ⟨by have := HJ2.out; first | omega | exact Nat.le_refl _⟩, ⟨by (with_reducible repeat (first | apply Kd.R_alloc | apply Kd.R_drewN | apply Kd.R_drew)); exact Kd.R_mono (Kd.R_far (p := ⟨gb110, 6, none⟩) (Kd.R_far (p := ⟨gb110, 5, none⟩) (Kd.R_far (p := ⟨gb110, 4, none⟩) (Kd.R_far (p := ⟨gb110, 3, none⟩) (Kd.R_far (p := ⟨gb110, 2, none⟩) (Kd.R_far (p := ⟨gb110, 1, none⟩) (Kd.R_far (p := ⟨gb110, 0, none⟩) (Kd.R_types HO_5.out BK110.out (by decide)) (fun _ hk => hk.2) (.int .i64 ((rd_T56 ((rd_T54 l0_4 a1).f0) (ji14)).f0))) (fun _ hk => hk.2) (.int .i64 ((rd_T56 ((rd_T54 l0_4 a1).f0) (ji14)).f1))) (fun _ hk => hk.2) (.int .i64 ((rd_T56 ((rd_T54 l0_4 a1).f0) (ji14)).f2))) (fun _ hk => hk.2) (.int .i64 ((rd_T56 ((rd_T54 l0_4 a1).f0) (ji14)).f3))) (fun _ hk => hk.2) (.int .i64 ((rd_T56 ((rd_T54 l0_4 a1).f0) (ji14)).f4))) (fun _ hk => hk.2) (.slice A109_5 ((rd_T56 ((rd_T54 l0_4 a1).f0) (ji14)).f5).length c109_5)) (fun _ hk => hk.2) (.slice A109_6 ((rd_T56 ((rd_T54 l0_4 a1).f0) (ji14)).f6).length c109_6)) (fun _ hk => trivial)⟩, ⟨by (with_reducible repeat (first | refine blk_drewN ?_ _ | refine blk_drew ?_ | refine blk_alloc ?_ _)); refine blk_far ?_ NB105_110.out _; (with_reducible repeat (first | refine blk_drewN ?_ _ | refine blk_drew ?_ | refine blk_alloc ?_ _)); refine blk_far ?_ NB105_110.out _; (with_reducible repeat (first | refine blk_drewN ?_ _ | refine blk_drew ?_ | refine blk_alloc ?_ _)); refine blk_far ?_ NB105_110.out _; (with_reducible repeat (first | refine blk_drewN ?_ _ | refine blk_drew ?_ | refine blk_alloc ?_ _)); refine blk_far ?_ NB105_110.out _; (with_reducible repeat (first | refine blk_drewN ?_ _ | refine blk_drew ?_ | refine blk_alloc ?_ _)); refine blk_far ?_ NB105_110.out _; (with_reducible repeat (first | refine blk_drewN ?_ _ | refine blk_drew ?_ | refine blk_alloc ?_ _)); refine blk_far ?_ NB105_110.out _; (with_reducible repeat (first | refine blk_drewN ?_ _ | refine blk_drew ?_ | refine blk_alloc ?_ _)); refine blk_far ?_ NB105_110.out _; (with_reducible repeat (first | refine blk_drewN ?_ _ | refine blk_drew ?_ | refine blk_alloc ?_ _)); exact BK105.out⟩, ⟨by (with_reducible repeat (first | refine blk_drewN ?_ _ | refine blk_drew ?_ | refine blk_alloc ?_ _)); refine blk_put (cs := #[.int .i64 ((rd_T56 ((rd_T54 l0_4 a1).f0) (ji14)).f0), .int .i64 ((rd_T56 ((rd_T54 l0_4 a1).f0) (ji14)).f1), .int .i64 ((rd_T56 ((rd_T54 l0_4 a1).f0) (ji14)).f2), .int .i64 ((rd_T56 ((rd_T54 l0_4 a1).f0) (ji14)).f3), .int .i64 ((rd_T56 ((rd_T54 l0_4 a1).f0) (ji14)).f4), .slice A109_5 ((rd_T56 ((rd_T54 l0_4 a1).f0) (ji14)).f5).length c109_5, .slice none 0 0]) ?_ 6 _ rfl; (with_reducible repeat (first | refine blk_drewN ?_ _ | refine blk_drew ?_ | refine blk_alloc ?_ _)); refine blk_put (cs := #[.int .i64 ((rd_T56 ((rd_T54 l0_4 a1).f0) (ji14)).f0), .int .i64 ((rd_T56 ((rd_T54 l0_4 a1).f0) (ji14)).f1), .int .i64 ((rd_T56 ((rd_T54 l0_4 a1).f0) (ji14)).f2), .int .i64 ((rd_T56 ((rd_T54 l0_4 a1).f0) (ji14)).f3), .int .i64 ((rd_T56 ((rd_T54 l0_4 a1).f0) (ji14)).f4), .slice none 0 0, .slice none 0 0]) ?_ 5 _ rfl; (with_reducible repeat (first | refine blk_drewN ?_ _ | refine blk_drew ?_ | refine blk_alloc ?_ _)); refine blk_put (cs := #[.int .i64 ((rd_T56 ((rd_T54 l0_4 a1).f0) (ji14)).f0), .int .i64 ((rd_T56 ((rd_T54 l0_4 a1).f0) (ji14)).f1), .int .i64 ((rd_T56 ((rd_T54 l0_4 a1).f0) (ji14)).f2), .int .i64 ((rd_T56 ((rd_T54 l0_4 a1).f0) (ji14)).f3), .int .i64 0, .slice none 0 0, .slice none 0 0]) ?_ 4 _ rfl; (with_reducible repeat (first | refine blk_drewN ?_ _ | refine blk_drew ?_ | refine blk_alloc ?_ _)); refine blk_put (cs := #[.int .i64 ((rd_T56 ((rd_T54 l0_4 a1).f0) (ji14)).f0), .int .i64 ((rd_T56 ((rd_T54 l0_4 a1).f0) (ji14)).f1), .int .i64 ((rd_T56 ((rd_T54 l0_4 a1).f0) (ji14)).f2), .int .i64 0, .int .i64 0, .slice none 0 0, .slice none 0 0]) ?_ 3 _ rfl; (with_reducible repeat (first | refine blk_drewN ?_ _ | refine blk_drew ?_ | refine blk_alloc ?_ _)); refine blk_put (cs := #[.int .i64 ((rd_T56 ((rd_T54 l0_4 a1).f0) (ji14)).f0), .int .i64 ((rd_T56 ((rd_T54 l0_4 a1).f0) (ji14)).f1), .int .i64 0, .int .i64 0, .int .i64 0, .slice none 0 0, .slice none 0 0]) ?_ 2 _ rfl; (with_reducible repeat (first | refine blk_drewN ?_ _ | refine blk_drew ?_ | refine blk_alloc ?_ _)); refine blk_put (cs := #[.int .i64 ((rd_T56 ((rd_T54 l0_4 a1).f0) (ji14)).f0), .int .i64 0, .int .i64 0, .int .i64 0, .int .i64 0, .slice none 0 0, .slice none 0 0]) ?_ 1 _ rfl; (with_reducible repeat (first | refine blk_drewN ?_ _ | refine blk_drew ?_ | refine blk_alloc ?_ _)); refine blk_put (cs := #[.int .i64 0, .int .i64 0, .int .i64 0, .int .i64 0, .int .i64 0, .slice none 0 0, .slice none 0 0]) ?_ 0 _ rfl; (with_reducible repeat (first | refine blk_drewN ?_ _ | refine blk_drew ?_ | refine blk_alloc ?_ _)); exact BK110.out⟩, ⟨by repeat (first | (with_reducible first | exact HB.out | apply below_alloc | apply pw_below_drewN | apply below_drew1 | refine below_set ?_ GE105.out | refine below_set ?_ GE110.out) | exact HB.out)⟩⟩
         ·rw [if_neg c27] at H
          have c27b0 : (((rd_T56 ((rd_T54 l0_4 a1).f0) (ji14)).f0) == 27) = false := beq_eq_false_iff_ne.mpr c27
          have c27b1 : (((rd_T56 ((rd_T54 l0_4 a1).f0) (ji14)).f0) != 27) = true := bne_iff_ne.mpr c27
          (first | rw [c27b0] | (simp only [i64_w, i32_w]; rw [c27b0]) | skip)
          have H' := Aside0.mk H
          clear H
          have hnb30 := NB110_105.out
          have hnc30 := NB105_110.out
          have hcz31_0 : w19.cell? ⟨gb110, 0, none⟩ = some (.int .i64 0) := (blk_cell BK110.out 0).trans rfl
          have hcz31_1 : w19.cell? ⟨gb110, 1, none⟩ = some (.int .i64 0) := (blk_cell BK110.out 1).trans rfl
          have hcz31_2 : w19.cell? ⟨gb110, 2, none⟩ = some (.int .i64 0) := (blk_cell BK110.out 2).trans rfl
          have hcz31_3 : w19.cell? ⟨gb110, 3, none⟩ = some (.int .i64 0) := (blk_cell BK110.out 3).trans rfl
          have hcz31_4 : w19.cell? ⟨gb110, 4, none⟩ = some (.int .i64 0) := (blk_cell BK110.out 4).trans rfl
          have hcz31_5 : w19.cell? ⟨gb110, 5, none⟩ = some (.slice none 0 0) := (blk_cell BK110.out 5).trans rfl
          have hcz31_6 : w19.cell? ⟨gb110, 6, none⟩ = some (.slice none 0 0) := (blk_cell BK110.out 6).trans rfl
          have hfz31_0 := blk_frozen BK110.out 0
          have hfz31_1 := blk_frozen BK110.out 1
          have hfz31_2 := blk_frozen BK110.out 2
          have hfz31_3 := blk_frozen BK110.out 3
          have hfz31_4 := blk_frozen BK110.out 4
          have hfz31_5 := blk_frozen BK110.out 5
          have hfz31_6 := blk_frozen BK110.out 6
          go_wp2
          go_meet
          case rel => exact ⟨_, ((((rd_T56 ((rd_T54 l0_4 a1).f0) (ji14)).f0) != 28)), (by first | rfl | (simp; done) | (simp only [← hji14] <;> (first | rfl | simp)) | (simp [*]; done)), H', ⟨by have := HJ2.out; first | omega | exact Nat.le_refl _⟩, ⟨by (with_reducible repeat (first | apply Kd.R_alloc | apply Kd.R_drewN | apply Kd.R_drew)); exact Kd.R_mono (Kd.R_far (p := ⟨gb110, 6, none⟩) (Kd.R_far (p := ⟨gb110, 5, none⟩) (Kd.R_far (p := ⟨gb110, 4, none⟩) (Kd.R_far (p := ⟨gb110, 3, none⟩) (Kd.R_far (p := ⟨gb110, 2, none⟩) (Kd.R_far (p := ⟨gb110, 1, none⟩) (Kd.R_far (p := ⟨gb110, 0, none⟩) (Kd.R_types HO_5.out BK110.out (by decide)) (fun _ hk => hk.2) (.int .i64 ((rd_T56 ((rd_T54 l0_4 a1).f0) (ji14)).f0))) (fun _ hk => hk.2) (.int .i64 ((rd_T56 ((rd_T54 l0_4 a1).f0) (ji14)).f1))) (fun _ hk => hk.2) (.int .i64 ((rd_T56 ((rd_T54 l0_4 a1).f0) (ji14)).f2))) (fun _ hk => hk.2) (.int .i64 ((rd_T56 ((rd_T54 l0_4 a1).f0) (ji14)).f3))) (fun _ hk => hk.2) (.int .i64 ((rd_T56 ((rd_T54 l0_4 a1).f0) (ji14)).f4))) (fun _ hk => hk.2) (.slice A109_5 ((rd_T56 ((rd_T54 l0_4 a1).f0) (ji14)).f5).length c109_5)) (fun _ hk => hk.2) (.slice A109_6 ((rd_T56 ((rd_T54 l0_4 a1).f0) (ji14)).f6).length c109_6)) (fun _ hk => trivial)⟩, ⟨by (with_reducible repeat (first | refine blk_drewN ?_ _ | refine blk_drew ?_ | refine blk_alloc ?_ _)); refine blk_far ?_ NB105_110.out _; (with_reducible repeat (first | refine blk_drewN ?_ _ | refine blk_drew ?_ | refine blk_alloc ?_ _)); refine blk_far ?_ NB105_110.out _; (with_reducible repeat (first | refine blk_drewN ?_ _ | refine blk_drew ?_ | refine blk_alloc ?_ _)); refine blk_far ?_ NB105_110.out _; (with_reducible repeat (first | refine blk_drewN ?_ _ | refine blk_drew ?_ | refine blk_alloc ?_ _)); refine blk_far ?_ NB105_110.out _; (with_reducible repeat (first | refine blk_drewN ?_ _ | refine blk_drew ?_ | refine blk_alloc ?_ _)); refine blk_far ?_ NB105_110.out _; (with_reducible repeat (first | refine blk_drewN ?_ _ | refine blk_drew ?_ | refine blk_alloc ?_ _)); refine blk_far ?_ NB105_110.out _; (with_reducible repeat (first | refine blk_drewN ?_ _ | refine blk_drew ?_ | refine blk_alloc ?_ _)); refine blk_far ?_ NB105_110.out _; (with_reducible repeat (first | refine blk_drewN ?_ _ | refine blk_drew ?_ | refine blk_alloc ?_ _)); exact BK105.out⟩, ⟨by (with_reducible repeat (first | refine blk_drewN ?_ _ | refine blk_drew ?_ | refine blk_alloc ?_ _)); refine blk_put (cs := #[.int .i64 ((rd_T56 ((rd_T54 l0_4 a1).f0) (ji14)).f0), .int .i64 ((rd_T56 ((rd_T54 l0_4 a1).f0) (ji14)).f1), .int .i64 ((rd_T56 ((rd_T54 l0_4 a1).f0) (ji14)).f2), .int .i64 ((rd_T56 ((rd_T54 l0_4 a1).f0) (ji14)).f3), .int .i64 ((rd_T56 ((rd_T54 l0_4 a1).f0) (ji14)).f4), .slice A109_5 ((rd_T56 ((rd_T54 l0_4 a1).f0) (ji14)).f5).length c109_5, .slice none 0 0]) ?_ 6 _ rfl; (with_reducible repeat (first | refine blk_drewN ?_ _ | refine blk_drew ?_ | refine blk_alloc ?_ _)); refine blk_put (cs := #[.int .i64 ((rd_T56 ((rd_T54 l0_4 a1).f0) (ji14)).f0), .int .i64 ((rd_T56 ((rd_T54 l0_4 a1).f0) (ji14)).f1), .int .i64 ((rd_T56 ((rd_T54 l0_4 a1).f0) (ji14)).f2), .int .i64 ((rd_T56 ((rd_T54 l0_4 a1).f0) (ji14)).f3), .int .i64 ((rd_T56 ((rd_T54 l0_4 a1).f0) (ji14)).f4), .slice none 0 0, .slice none 0 0]) ?_ 5 _ rfl; (with_reducible repeat (first | refine blk_drewN ?_ _ | refine blk_drew ?_ | refine blk_alloc ?_ _)); refine blk_put (cs := #[.int .i64 ((rd_T56 ((rd_T54 l0_4 a1).f0) (ji14)).f0), .int .i64 ((rd_T56 ((rd_T54 l0_4 a1).f0) (ji14)).f1), .int .i64 ((rd_T56 ((rd_T54 l0_4 a1).f0) (ji14)).f2), .int .i64 ((rd_T56 ((rd_T54 l0_4 a1).f0) (ji14)).f3), .int .i64 0, .slice none 0 0, .slice none 0 0]) ?_ 4 _ rfl; (with_reducible repeat (first | refine blk_drewN ?_ _ | refine blk_drew ?_ | refine blk_alloc ?_ _)); refine blk_put (cs := #[.int .i64 ((rd_T56 ((rd_T54 l0_4 a1).f0) (ji14)).f0), .int .i64 ((rd_T56 ((rd_T54 l0_4 a1).f0) (ji14)).f1), .int .i64 ((rd_T56 ((rd_T54 l0_4 a1).f0) (ji14)).f2), .int .i64 0, .int .i64 0, .slice none 0 0, .slice none 0 0]) ?_ 3 _ rfl; (with_reducible repeat (first | refine blk_drewN ?_ _ | refine blk_drew ?_ | refine blk_alloc ?_ _)); refine blk_put (cs := #[.int .i64 ((rd_T56 ((rd_T54 l0_4 a1).f0) (ji14)).f0), .int .i64 ((rd_T56 ((rd_T54 l0_4 a1).f0) (ji14)).f1), .int .i64 0, .int .i64 0, .int .i64 0, .slice none 0 0, .slice none 0 0]) ?_ 2 _ rfl; (with_reducible repeat (first | refine blk_drewN ?_ _ | refine blk_drew ?_ | refine blk_alloc ?_ _)); refine blk_put (cs := #[.int .i64 ((rd_T56 ((rd_T54 l0_4 a1).f0) (ji14)).f0), .int .i64 0, .int .i64 0, .int .i64 0, .int .i64 0, .slice none 0 0, .slice none 0 0]) ?_ 1 _ rfl; (with_reducible repeat (first | refine blk_drewN ?_ _ | refine blk_drew ?_ | refine blk_alloc ?_ _)); refine blk_put (cs := #[.int .i64 0, .int .i64 0, .int .i64 0, .int .i64 0, .int .i64 0, .slice none 0 0, .slice none 0 0]) ?_ 0 _ rfl; (with_reducible repeat (first | refine blk_drewN ?_ _ | refine blk_drew ?_ | refine blk_alloc ?_ _)); exact BK110.out⟩, ⟨by repeat (first | (with_reducible first | exact HB.out | apply below_alloc | apply pw_below_drewN | apply below_drew1 | refine below_set ?_ GE105.out | refine below_set ?_ GE110.out) | exact HB.out)⟩⟩
        case rest =>
         clear HC17
         try clear c1
         try clear p1
         try clear q1
         try clear hx1
         try clear c2
         try clear p2
         try clear c3
         try clear c5
         try clear c5b0
         try clear c6
         try clear c6b0
         try clear p6
         try clear c8
         try clear c8b0
         try clear c9
         try clear c9b0
         try clear c10
         try clear p10
         try clear q10
         try clear hx10
         try clear c11
         try clear c12
         try clear c12b0
         try clear c13
         try clear c13b0
         try clear c15
         try clear c15b0
         try clear c16
         try clear c16b0
         try clear c19
         try clear c27
         try clear c27b0
         try clear c27b1
         try clear c28
         try clear c30
         try clear hcz10_0
         try clear hcz10_1
         try clear hcz10_2
         try clear hcz10_3
         try clear hcz10_4
         try clear hcz29_0
         try clear hcz29_1
         try clear hcz29_2
         try clear hcz29_3
         try clear hcz29_4
         try clear hcz29_5
         try clear hcz29_6
         try clear hcz31_0
         try clear hcz31_1
         try clear hcz31_2
         try clear hcz31_3
         try clear hcz31_4
         try clear hcz31_5
         try clear hcz31_6
         try clear hcz7_0
         try clear hcz7_1
         try clear hcz7_2
         try clear hcz7_3
         try clear hcz7_4
         try clear hfz10_0
         try clear hfz10_1
         try clear hfz10_2
         try clear hfz10_3
         try clear hfz10_4
         try clear hfz29_0
         try clear hfz29_1
         try clear hfz29_2
         try clear hfz29_3
         try clear hfz29_4
         try clear hfz29_5
         try clear hfz29_6
         try clear hfz31_0
         try clear hfz31_1
         try clear hfz31_2
         try clear hfz31_3
         try clear hfz31_4
         try clear hfz31_5
         try clear hfz31_6
         try clear hfz7_0
         try clear hfz7_1
         try clear hfz7_2
         try clear hfz7_3
         try clear hfz7_4
         try clear hx106_0
         try clear hx107_0
         try clear hx108_0
         try clear hx109_0
         try clear hx109_1
         try clear hx109_2
         try clear hx109_3
         try clear hx109_4
         try clear hx109_5
         try clear hx109_6
         try clear p1
         try clear p10
         try clear p106
         try clear p107
         try clear p108
         try clear p109
         try clear p2
         try clear q1
         try clear q10
         try clear q106
         try clear q107
         try clear q108
         try clear q109
         obtain ⟨kq, x52_16, rfl, HA, HJ16, HO_5, BK105, BK110, HB⟩ := hcut
         cases kq with
         | zero => exact absurd HA.out (by simp [flow_Next.j1])
         | succ kj16 =>
          have H := HA.out
          clear HA
          simp only [flow_Next.j1] at H
          by_cases c32 : x52_16 = true
          ·subst c32
           have H1 : (some ([] : List Int)) = some r := by rw [if_pos rfl] at H; exact H
           clear H; have H := H1; clear H1
           obtain rfl := Option.some.inj H
           go_wp2
           go_ret
           exact ⟨_, by first | rfl | (simp [errW_none, errW_some] <;> rfl) | (simp only [← hji14]; first | rfl | (simp [errW_none, errW_some] <;> rfl)) | (simp [*, errW_none, errW_some] <;> rfl), by (with_reducible repeat (first | apply Kd.R_alloc | apply Kd.R_drewN | apply Kd.R_drew)); exact HO_5.out, by repeat (first | (with_reducible first | exact HB.out | apply below_alloc | apply pw_below_drewN | apply below_drew1 | refine below_set ?_ GE105.out | refine below_set ?_ GE110.out) | exact HB.out)⟩
          ·replace c32 := Bool.eq_false_iff.mpr c32
           subst c32
           have H1 : (flow_Next.l0 kj16 ([] : List Int) ((rd_T56 ((rd_T54 l0_4 a1).f0) (ji14)).f6) (((rd_T56 ((rd_T54 l0_4 a1).f0) (ji14)).f6).length : Int) 0 a0_0 a0_1 l0_2 a0_3 l0_4) = some r := by rw [if_neg (show ¬ (false = true) by decide)] at H; exact H
           clear H; have H := H1; clear H1
           have H' := Aside0.mk H
           clear H
           have hnb33 := NB110_105.out
           have hnc33 := NB105_110.out
           have hcz34_0 : wc.cell? ⟨gb110, 0, none⟩ = some (.int .i64 ((rd_T56 ((rd_T54 l0_4 a1).f0) (ji14)).f0)) := (blk_cell BK110.out 0).trans rfl
           have hcz34_1 : wc.cell? ⟨gb110, 1, none⟩ = some (.int .i64 ((rd_T56 ((rd_T54 l0_4 a1).f0) (ji14)).f1)) := (blk_cell BK110.out 1).trans rfl
           have hcz34_2 : wc.cell? ⟨gb110, 2, none⟩ = some (.int .i64 ((rd_T56 ((rd_T54 l0_4 a1).f0) (ji14)).f2)) := (blk_cell BK110.out 2).trans rfl
           have hcz34_3 : wc.cell? ⟨gb110, 3, none⟩ = some (.int .i64 ((rd_T56 ((rd_T54 l0_4 a1).f0) (ji14)).f3)) := (blk_cell BK110.out 3).trans rfl
           have hcz34_4 : wc.cell? ⟨gb110, 4, none⟩ = some (.int .i64 ((rd_T56 ((rd_T54 l0_4 a1).f0) (ji14)).f4)) := (blk_cell BK110.out 4).trans rfl
           have hcz34_5 : wc.cell? ⟨gb110, 5, none⟩ = some (.slice A109_5 ((rd_T56 ((rd_T54 l0_4 a1).f0) (ji14)).f5).length c109_5) := (blk_cell BK110.out 5).trans rfl
           have hcz34_6 : wc.cell? ⟨gb110, 6, none⟩ = some (.slice A109_6 ((rd_T56 ((rd_T54 l0_4 a1).f0) (ji14)).f6).length c109_6) := (blk_cell BK110.out 6).trans rfl
           have hfz34_0 := blk_frozen BK110.out 0
           have hfz34_1 := blk_frozen BK110.out 1
           have hfz34_2 := blk_frozen BK110.out 2
           have hfz34_3 := blk_frozen BK110.out 3
           have hfz34_4 := blk_frozen BK110.out 4
           have hfz34_5 := blk_frozen BK110.out 5
           have hfz34_6 := blk_frozen BK110.out 6
           go_wp2
           go_loopg [5, 57] kj16 (fun kq v5 v57 w' => ∃ (x5_3 : List Int) (x57_3 : Int), v57 = .int .i64 x57_3 ∧ Aside0 (flow_Next.l0 kq x5_3 ((rd_T56 ((rd_T54 l0_4 a1).f0) (ji14)).f6) (((rd_T56 ((rd_T54 l0_4 a1).f0) (ji14)).f6).length : Int) x57_3 a0_0 a0_1 l0_2 a0_3 l0_4 = some r) ∧ Aside0 (kq ≤ kj16) ∧ Aside0 (Kd.R (Kd.int .i64) 3 w' w.heap.size (fun _ => True) v5 x5_3) ∧ Aside0 (w'.heap[gb105]? = some (.cells #[.string a0_0, .bool a0_1, (.slice A0_2 l0_2.length c0_2), .int .i64 a0_3, (.slice (some ad107) l0_4.length c0_4)] 25 (0, 0))) ∧ Aside0 (w'.heap[gb110]? = some (.cells #[.int .i64 ((rd_T56 ((rd_T54 l0_4 a1).f0) (ji14)).f0), .int .i64 ((rd_T56 ((rd_T54 l0_4 a1).f0) (ji14)).f1), .int .i64 ((rd_T56 ((rd_T54 l0_4 a1).f0) (ji14)).f2), .int .i64 ((rd_T56 ((rd_T54 l0_4 a1).f0) (ji14)).f3), .int .i64 ((rd_T56 ((rd_T54 l0_4 a1).f0) (ji14)).f4), (.slice A109_5 ((rd_T56 ((rd_T54 l0_4 a1).f0) (ji14)).f5).length c109_5), (.slice A109_6 ((rd_T56 ((rd_T54 l0_4 a1).f0) (ji14)).f6).length c109_6)] 56 (0, 0))) ∧ Aside0 (Below w.heap.size w w'))
           case atStart => exact ⟨(([] : List Int)), (0), (by first | rfl | (simp; done) | (simp [*]; done)), H', ⟨Nat.le_refl _⟩, ⟨by (with_reducible repeat (first | apply Kd.R_alloc | apply Kd.R_drewN | apply Kd.R_drew)); exact HO_5.out⟩, ⟨by (with_reducible repeat (first | refine blk_drewN ?_ _ | refine blk_drew ?_ | refine blk_alloc ?_ _)); exact BK105.out⟩, ⟨by (with_reducible repeat (first | refine blk_drewN ?_ _ | refine blk_drew ?_ | refine blk_alloc ?_ _)); exact BK110.out⟩, ⟨by repeat (first | (with_reducible first | exact HB.out | apply below_alloc | apply pw_below_drewN | apply below_drew1 | refine below_set ?_ GE105.out | refine below_set ?_ GE110.out) | exact HB.out)⟩⟩
           case round =>
            clear H'
            try clear c1
            try clear p1
            try clear q1
            try clear hx1
            try clear c2
            try clear p2
            try clear c3
            try clear c5
            try clear c5b0
            try clear c6
            try clear c6b0
            try clear p6
            try clear c8
            try clear c8b0
            try clear c9
            try clear c9b0
            try clear c10
            try clear p10
            try clear q10
            try clear hx10
            try clear c11
            try clear c12
            try clear c12b0
            try clear c13
            try clear c13b0
            try clear c15
            try clear c15b0
            try clear c16
            try clear c16b0
            try clear c19
            try clear c27
            try clear c27b0
            try clear c27b1
            try clear c28
            try clear c30
            try clear c32
            try clear c33
            try clear hcz10_0
            try clear hcz10_1
            try clear hcz10_2
            try clear hcz10_3
            try clear hcz10_4
            try clear hcz29_0
            try clear hcz29_1
            try clear hcz29_2
            try clear hcz29_3
            try clear hcz29_4
            try clear hcz29_5
            try clear hcz29_6
            try clear hcz31_0
            try clear hcz31_1
            try clear hcz31_2
            try clear hcz31_3
            try clear hcz31_4
            try clear hcz31_5
            try clear hcz31_6
            try clear hcz34_0
            try clear hcz34_1
            try clear hcz34_2
            try clear hcz34_3
            try clear hcz34_4
            try clear hcz34_5
            try clear hcz34_6
            try clear hcz7_0
            try clear hcz7_1
            try clear hcz7_2
            try clear hcz7_3
            try clear hcz7_4
            try clear hfz10_0
            try clear hfz10_1
            try clear hfz10_2
            try clear hfz10_3
            try clear hfz10_4
            try clear hfz29_0
            try clear hfz29_1
            try clear hfz29_2
            try clear hfz29_3
            try clear hfz29_4
            try clear hfz29_5
            try clear hfz29_6
            try clear hfz31_0
            try clear hfz31_1
            try clear hfz31_2
            try clear hfz31_3
            try clear hfz31_4
            try clear hfz31_5
            try clear hfz31_6
            try clear hfz34_0
            try clear hfz34_1
            try clear hfz34_2
            try clear hfz34_3
            try clear hfz34_4
            try clear hfz34_5
            try clear hfz34_6
            try clear hfz7_0
            try clear hfz7_1
            try clear hfz7_2
            try clear hfz7_3
            try clear hfz7_4
            try clear hx106_0
            try clear hx107_0
            try clear hx108_0
            try clear hx109_0
            try clear hx109_1
            try clear hx109_2
            try clear hx109_3
            try clear hx109_4
            try clear hx109_5
            try clear hx109_6
            try clear p1
            try clear p10
            try clear p106
            try clear p107
            try clear p108
            try clear p109
            try clear p2
            try clear p6
            try clear q1
            try clear q10
            try clear q106
            try clear q107
            try clear q108
            try clear q109
            obtain ⟨x5_3, x57_3, rfl, HA, HK3, HO_5, BK105, BK110, HB⟩ := hrel
            cases gk with
            | zero => exact absurd HA.out (by simp [flow_Next.l0])
            | succ k3 =>
             have H := HA.out
             clear HA
             simp only [flow_Next.l0] at H
             by_cases c35 : x57_3 < (((rd_T56 ((rd_T54 l0_4 a1).f0) (ji14)).f6).length : Int)
             ·rw [if_pos c35] at H
              have c35b0 : decide (x57_3 < (((rd_T56 ((rd_T54 l0_4 a1).f0) (ji14)).f6).length : Int)) = true := decide_eq_true c35
              clear c35
              by_cases c36 : 0 ≤ x57_3
              ·rw [if_pos c36] at H
               have c36b0 : decide (0 ≤ x57_3) = true := decide_eq_true c36
               clear c36
               by_cases c37 : x57_3 < (((rd_T56 ((rd_T54 l0_4 a1).f0) (ji14)).f6).length : Int)
               ·rw [if_pos c37] at H
                have c37b0 : decide (x57_3 < (((rd_T56 ((rd_T54 l0_4 a1).f0) (ji14)).f6).length : Int)) = true := decide_eq_true c37
                clear c37
                by_cases c38 : (rd ((rd_T56 ((rd_T54 l0_4 a1).f0) (ji14)).f6) x57_3) ≥ 0
                ·rw [if_pos c38] at H
                 have c38b0 : decide (0 ≤ (rd ((rd_T56 ((rd_T54 l0_4 a1).f0) (ji14)).f6) x57_3)) = true := decide_eq_true c38
                 clear c38
                 by_cases c39 : (rd ((rd_T56 ((rd_T54 l0_4 a1).f0) (ji14)).f6) x57_3) < (l0_4.length : Int)
                 ·rw [if_pos c39] at H
                  have c39b0 : decide ((rd ((rd_T56 ((rd_T54 l0_4 a1).f0) (ji14)).f6) x57_3) < (l0_4.length : Int)) = true := decide_eq_true c39
                  clear c39
                  replace H := Option.bind_eq_some_iff.mp H
                  obtain ⟨t112, A400, H⟩ := H
                  replace H : (if t112 = true then (flow_Next.l0 k3 x5_3 ((rd_T56 ((rd_T54 l0_4 a1).f0) (ji14)).f6) (((rd_T56 ((rd_T54 l0_4 a1).f0) (ji14)).f6).length : Int) (wrap64 (x57_3 + 1)) a0_0 a0_1 l0_2 a0_3 l0_4) else (if x5_3.length < 17592186044416 then (flow_Next.l0 k3 (x5_3 ++ [rd ((rd_T56 ((rd_T54 l0_4 a1).f0) (ji14)).f6) x57_3]) ((rd_T56 ((rd_T54 l0_4 a1).f0) (ji14)).f6) (((rd_T56 ((rd_T54 l0_4 a1).f0) (ji14)).f6).length : Int) (wrap64 (x57_3 + 1)) a0_0 a0_1 l0_2 a0_3 l0_4) else (none))) = some r := H
                  have A40 := Aside0.mk A400
                  clear A400
                  by_cases c41 : t112 = true
                  ·subst c41
                   have H1 : (flow_Next.l0 k3 x5_3 ((rd_T56 ((rd_T54 l0_4 a1).f0) (ji14)).f6) (((rd_T56 ((rd_T54 l0_4 a1).f0) (ji14)).f6).length : Int) (wrap64 (x57_3 + 1)) a0_0 a0_1 l0_2 a0_3 l0_4) = some r := by rw [if_pos rfl] at H; exact H
                   clear H; have H := H1; clear H1
                   have H' := Aside0.mk H
                   clear H
                   have p111 : 0 ≤ (x57_3 : Int) := of_decide_eq_true (by first | (with_reducible assumption) | assumption)
                   have q111 : x57_3 < (((rd_T56 ((rd_T54 l0_4 a1).f0) (ji14)).f6).length : Int) := of_decide_eq_true (by first | (with_reducible assumption) | assumption)
                   obtain ⟨ad111, e111, hx111_0⟩ := Kd.at_int HR109_6.out x57_3 p111 q111
                   cases e111
                   replace hx111_0 := (HB.out.cell (World.block_lt_of_cell? w _ hx111_0)).trans hx111_0
                   replace p111 := eq_true p111
                   replace q111 := eq_true q111
                   have hnb42 := NB105_110.out
                   have hnc42 := NB110_105.out
                   have hcz43_0 : wr.cell? ⟨gb105, 0, none⟩ = some (.string a0_0) := (blk_cell BK105.out 0).trans rfl
                   have hcz43_1 : wr.cell? ⟨gb105, 1, none⟩ = some (.bool a0_1) := (blk_cell BK105.out 1).trans rfl
                   have hcz43_2 : wr.cell? ⟨gb105, 2, none⟩ = some (.slice A0_2 l0_2.length c0_2) := (blk_cell BK105.out 2).trans rfl
                   have hcz43_3 : wr.cell? ⟨gb105, 3, none⟩ = some (.int .i64 a0_3) := (blk_cell BK105.out 3).trans rfl
                   have hcz43_4 : wr.cell? ⟨gb105, 4, none⟩ = some (.slice (some ad107) l0_4.length c0_4) := (blk_cell BK105.out 4).trans rfl
                   have hfz43_0 := blk_frozen BK105.out 0
                   have hfz43_1 := blk_frozen BK105.out 1
                   have hfz43_2 := blk_frozen BK105.out 2
                   have hfz43_3 := blk_frozen BK105.out 3
                   have hfz43_4 := blk_frozen BK105.out 4
                   obtain ⟨Ao44, co44, eo44⟩ := Kd.R_slice HO_5.out
                   subst eo44
                   go_wp2_with (first | (go_at_call 62; (with_reducible refine (slices_Contains_int_int.calls k3 _ _ x5_3 (rd ((rd_T56 ((rd_T54 l0_4 a1).f0) (ji14)).f6) x57_3) true _ ?side1 ?side2 A40.out).mono ?_); (case side1 => repeat (first | exact (Kd.R_reads' HO_5.out).2.2 | (with_reducible refine Kd.C_alloc ?_ _) | (with_reducible refine Kd.C_drewN ?_ _) | (with_reducible refine Kd.C_drew ?_))); (case side2 => exact (Kd.R_reads' HO_5.out).2.1); rintro e w' ⟨rfl, ⟨nd, rfl⟩⟩))
                   go_roundg k3
                   case measure => have := HJ2.out; have := HJ16.out; have := HK3.out; omega
                   case rel => exact ⟨(x5_3), (wrap64 (x57_3 + 1)), (by first | rfl | (simp; done) | (simp [*]; done)), H', ⟨by have := HJ2.out; have := HJ16.out; have := HK3.out; omega⟩, ⟨by (with_reducible repeat (first | apply Kd.R_alloc | apply Kd.R_drewN | apply Kd.R_drew)); exact HO_5.out⟩, ⟨by (with_reducible repeat (first | refine blk_drewN ?_ _ | refine blk_drew ?_ | refine blk_alloc ?_ _)); exact BK105.out⟩, ⟨by (with_reducible repeat (first | refine blk_drewN ?_ _ | refine blk_drew ?_ | refine blk_alloc ?_ _)); exact BK110.out⟩, ⟨by repeat (first | (with_reducible first | exact HB.out | apply below_alloc | apply pw_below_drewN | apply below_drew1 | refine below_set ?_ GE105.out | refine below_set ?_ GE110.out) | exact HB.out)⟩⟩
                  ·replace c41 := Bool.eq_false_iff.mpr c41
                   subst c41
                   have H1 : (if x5_3.length < 17592186044416 then (flow_Next.l0 k3 (x5_3 ++ [rd ((rd_T56 ((rd_T54 l0_4 a1).f0) (ji14)).f6) x57_3]) ((rd_T56 ((rd_T54 l0_4 a1).f0) (ji14)).f6) (((rd_T56 ((rd_T54 l0_4 a1).f0) (ji14)).f6).length : Int) (wrap64 (x57_3 + 1)) a0_0 a0_1 l0_2 a0_3 l0_4) else (none)) = some r := by rw [if_neg (show ¬ (false = true) by decide)] at H; exact H
                   clear H; have H := H1; clear H1
                   by_cases c45 : x5_3.length < 17592186044416
                   ·rw [if_pos c45] at H
                    have LMc45 := Aside0.mk c45
                    clear c45
                    obtain ⟨y113, hy113⟩ : ∃ y_ : List Int, y_ = (x5_3 ++ [rd ((rd_T56 ((rd_T54 l0_4 a1).f0) (ji14)).f6) x57_3]) := ⟨_, rfl⟩
                    replace H : (flow_Next.l0 k3 y113 ((rd_T56 ((rd_T54 l0_4 a1).f0) (ji14)).f6) (((rd_T56 ((rd_T54 l0_4 a1).f0) (ji14)).f6).length : Int) (wrap64 (x57_3 + 1)) a0_0 a0_1 l0_2 a0_3 l0_4) = some r := by first | (rw [hy113]; with_reducible exact H) | (have H2_ := (Option.bind_some _ _).symm.trans H; rw [hy113]; with_reducible exact H2_) | (have H2_ := (Option.bind_some _ _).symm.trans H; with_reducible exact H2_) | with_reducible exact H | (rw [hy113]; exact H) | exact H
                    have Ny113 := Aside0.mk hy113
                    clear hy113
                    have H' := Aside0.mk H
                    clear H
                    have p111 : 0 ≤ (x57_3 : Int) := of_decide_eq_true (by first | (with_reducible assumption) | assumption)
                    have q111 : x57_3 < (((rd_T56 ((rd_T54 l0_4 a1).f0) (ji14)).f6).length : Int) := of_decide_eq_true (by first | (with_reducible assumption) | assumption)
                    obtain ⟨ad111, e111, hx111_0⟩ := Kd.at_int HR109_6.out x57_3 p111 q111
                    cases e111
                    replace hx111_0 := (HB.out.cell (World.block_lt_of_cell? w _ hx111_0)).trans hx111_0
                    replace p111 := eq_true p111
                    replace q111 := eq_true q111
                    have hnb46 := NB105_110.out
                    have hnc46 := NB110_105.out
                    have hcz47_0 : wr.cell? ⟨gb105, 0, none⟩ = some (.string a0_0) := (blk_cell BK105.out 0).trans rfl
                    have hcz47_1 : wr.cell? ⟨gb105, 1, none⟩ = some (.bool a0_1) := (blk_cell BK105.out 1).trans rfl
                    have hcz47_2 : wr.cell? ⟨gb105, 2, none⟩ = some (.slice A0_2 l0_2.length c0_2) := (blk_cell BK105.out 2).trans rfl
                    have hcz47_3 : wr.cell? ⟨gb105, 3, none⟩ = some (.int .i64 a0_3) := (blk_cell BK105.out 3).trans rfl
                    have hcz47_4 : wr.cell? ⟨gb105, 4, none⟩ = some (.slice (some ad107) l0_4.length c0_4) := (blk_cell BK105.out 4).trans rfl
                    have hfz47_0 := blk_frozen BK105.out 0
                    have hfz47_1 := blk_frozen BK105.out 1
                    have hfz47_2 := blk_frozen BK105.out 2
                    have hfz47_3 := blk_frozen BK105.out 3
                    have hfz47_4 := blk_frozen BK105.out 4
                    obtain ⟨Ao48, co48, eo48⟩ := Kd.R_slice HO_5.out
                    subst eo48
                    go_wp2_with (first | (go_at_call 62; (with_reducible refine (slices_Contains_int_int.calls k3 _ _ x5_3 (rd ((rd_T56 ((rd_T54 l0_4 a1).f0) (ji14)).f6) x57_3) false _ ?side1 ?side2 A40.out).mono ?_); (case side1 => repeat (first | exact (Kd.R_reads' HO_5.out).2.2 | (with_reducible refine Kd.C_alloc ?_ _) | (with_reducible refine Kd.C_drewN ?_ _) | (with_reducible refine Kd.C_drew ?_))); (case side2 => exact (Kd.R_reads' HO_5.out).2.1); rintro e w' ⟨rfl, ⟨nd, rfl⟩⟩) | ((with_reducible refine gate_builtin (b := .append) (xs := #[.tmp 76, .tmp 78]) rfl ?_); (try (refine gate_guard (by rfl) ?_; dsimp only)); at_builtin; refine Kd.R_append (Kd.int .i64) (w0 := w) w.heap.size rfl (.tmp 76) (.tmp 78) 22 3 (.int .i64 0) 8 rfl Try.underlying22 info3 rfl (by decide) (by omega) (.slice Ao48 x5_3.length co48) x5_3 (rd ((rd_T56 ((rd_T54 l0_4 a1).f0) (ji14)).f6) x57_3) [.int .i64 (rd ((rd_T56 ((rd_T54 l0_4 a1).f0) (ji14)).f6) x57_3)] (fun _ => True) (fun _ => False) rfl rfl ?aP (fun _ hk => hk.elim) ?aF ?aO ?aB ?aS ?aL ?_; (case aP => exact rfl); (case aB => exact (by repeat (first | (with_reducible first | exact HB.out | apply below_alloc | apply pw_below_drewN | apply below_drew1 | refine below_set ?_ GE105.out | refine below_set ?_ GE110.out) | exact HB.out))); (case aF => exact (fun _ _ => trivial)); (case aO => exact (by (with_reducible repeat (first | apply Kd.R_alloc | apply Kd.R_drewN | apply Kd.R_drew)); exact HO_5.out)); (case aS => exact (below_size (by repeat (first | (with_reducible first | exact HB.out | apply below_alloc | apply pw_below_drewN | apply below_drew1 | refine below_set ?_ GE105.out | refine below_set ?_ GE110.out) | exact HB.out)))); (case aL => have := LMc45.out; omega); intro v114 w49 ho hb hg hat; rw [← Ny113.out] at ho; have n0_ := Aside0.mk (blk_grown (g := gb105) (o := .cells #[.string a0_0, .bool a0_1, .slice A0_2 l0_2.length c0_2, .int .i64 a0_3, .slice (some ad107) l0_4.length c0_4] 25 (0, 0)) (by (with_reducible repeat (first | refine blk_drewN ?_ _ | refine blk_drew ?_ | refine blk_alloc ?_ _)); exact BK105.out) hg (Kd.R_ne HO_5.out BK105.out (by decide))); have n1_ := Aside0.mk (blk_grown (g := gb110) (o := .cells #[.int .i64 ((rd_T56 ((rd_T54 l0_4 a1).f0) (ji14)).f0), .int .i64 ((rd_T56 ((rd_T54 l0_4 a1).f0) (ji14)).f1), .int .i64 ((rd_T56 ((rd_T54 l0_4 a1).f0) (ji14)).f2), .int .i64 ((rd_T56 ((rd_T54 l0_4 a1).f0) (ji14)).f3), .int .i64 ((rd_T56 ((rd_T54 l0_4 a1).f0) (ji14)).f4), .slice A109_5 ((rd_T56 ((rd_T54 l0_4 a1).f0) (ji14)).f5).length c109_5, .slice (some ad111) ((rd_T56 ((rd_T54 l0_4 a1).f0) (ji14)).f6).length c109_6] 56 (0, 0)) (by (with_reducible repeat (first | refine blk_drewN ?_ _ | refine blk_drew ?_ | refine blk_alloc ?_ _)); exact BK110.out) hg (Kd.R_ne HO_5.out BK110.out (by decide))); have n2_ := Aside0.mk (hb); have n3_ := Aside0.mk (ho); clear BK105; clear BK110; clear HB; clear HO_5; have BK105 := n0_; have BK110 := n1_; have HB := n2_; have HO115 := n3_; clear n0_ n1_ n2_ n3_; clear ho hb hg hat))
                    go_roundg k3
                    case measure => have := HJ2.out; have := HJ16.out; have := HK3.out; omega
                    case rel => exact ⟨(y113), (wrap64 (x57_3 + 1)), (by first | rfl | (simp; done) | (simp [*]; done)), H', ⟨by have := HJ2.out; have := HJ16.out; have := HK3.out; omega⟩, ⟨by (with_reducible repeat (first | apply Kd.R_alloc | apply Kd.R_drewN | apply Kd.R_drew)); exact HO115.out⟩, ⟨by (with_reducible repeat (first | refine blk_drewN ?_ _ | refine blk_drew ?_ | refine blk_alloc ?_ _)); exact BK105.out⟩, ⟨by (with_reducible repeat (first | refine blk_drewN ?_ _ | refine blk_drew ?_ | refine blk_alloc ?_ _)); exact BK110.out⟩, ⟨by repeat (first | (with_reducible first | exact HB.out | apply below_alloc | apply pw_below_drewN | apply below_drew1 | refine below_set ?_ GE105.out | refine below_set ?_ GE110.out) | exact HB.out)⟩⟩
                   ·rw [if_neg c45] at H
                    exact absurd H (by simp)
                 ·rw [if_neg c39] at H
                  have c39b0 : decide ((rd ((rd_T56 ((rd_T54 l0_4 a1).f0) (ji14)).f6) x57_3) < (l0_4.length : Int)) = false := decide_eq_false c39
                  clear c39
                  have H' := Aside0.mk H
                  clear H
                  have p111 : 0 ≤ (x57_3 : Int) := of_decide_eq_true (by first | (with_reducible assumption) | assumption)
                  have q111 : x57_3 < (((rd_T56 ((rd_T54 l0_4 a1).f0) (ji14)).f6).length : Int) := of_decide_eq_true (by first | (with_reducible assumption) | assumption)
                  obtain ⟨ad111, e111, hx111_0⟩ := Kd.at_int HR109_6.out x57_3 p111 q111
                  cases e111
                  replace hx111_0 := (HB.out.cell (World.block_lt_of_cell? w _ hx111_0)).trans hx111_0
                  replace p111 := eq_true p111
                  replace q111 := eq_true q111
                  have hnb50 := NB105_110.out
                  have hnc50 := NB110_105.out
                  have hcz51_0 : wr.cell? ⟨gb105, 0, none⟩ = some (.string a0_0) := (blk_cell BK105.out 0).trans rfl
                  have hcz51_1 : wr.cell? ⟨gb105, 1, none⟩ = some (.bool a0_1) := (blk_cell BK105.out 1).trans rfl
                  have hcz51_2 : wr.cell? ⟨gb105, 2, none⟩ = some (.slice A0_2 l0_2.length c0_2) := (blk_cell BK105.out 2).trans rfl
                  have hcz51_3 : wr.cell? ⟨gb105, 3, none⟩ = some (.int .i64 a0_3) := (blk_cell BK105.out 3).trans rfl
                  have hcz51_4 : wr.cell? ⟨gb105, 4, none⟩ = some (.slice (some ad107) l0_4.length c0_4) := (blk_cell BK105.out 4).trans rfl
                  have hfz51_0 := blk_frozen BK105.out 0
                  have hfz51_1 := blk_frozen BK105.out 1
                  have hfz51_2 := blk_frozen BK105.out 2
                  have hfz51_3 := blk_frozen BK105.out 3
                  have hfz51_4 := blk_frozen BK105.out 4
                  go_wp2
                  go_roundg k3
                  case measure => have := HJ2.out; have := HJ16.out; have := HK3.out; omega
                  case rel => exact ⟨(x5_3), (wrap64 (x57_3 + 1)), (by first | rfl | (simp; done) | (simp [*]; done)), H', ⟨by have := HJ2.out; have := HJ16.out; have := HK3.out; omega⟩, ⟨by (with_reducible repeat (first | apply Kd.R_alloc | apply Kd.R_drewN | apply Kd.R_drew)); exact HO_5.out⟩, ⟨by (with_reducible repeat (first | refine blk_drewN ?_ _ | refine blk_drew ?_ | refine blk_alloc ?_ _)); exact BK105.out⟩, ⟨by (with_reducible repeat (first | refine blk_drewN ?_ _ | refine blk_drew ?_ | refine blk_alloc ?_ _)); exact BK110.out⟩, ⟨by repeat (first | (with_reducible first | exact HB.out | apply below_alloc | apply pw_below_drewN | apply below_drew1 | refine below_set ?_ GE105.out | refine below_set ?_ GE110.out) | exact HB.out)⟩⟩
                ·rw [if_neg c38] at H
                 have c38b0 : decide (0 ≤ (rd ((rd_T56 ((rd_T54 l0_4 a1).f0) (ji14)).f6) x57_3)) = false := decide_eq_false c38
                 clear c38
                 have H' := Aside0.mk H
                 clear H
                 have p111 : 0 ≤ (x57_3 : Int) := of_decide_eq_true (by first | (with_reducible assumption) | assumption)
                 have q111 : x57_3 < (((rd_T56 ((rd_T54 l0_4 a1).f0) (ji14)).f6).length : Int) := of_decide_eq_true (by first | (with_reducible assumption) | assumption)
                 obtain ⟨ad111, e111, hx111_0⟩ := Kd.at_int HR109_6.out x57_3 p111 q111
                 cases e111
                 replace hx111_0 := (HB.out.cell (World.block_lt_of_cell? w _ hx111_0)).trans hx111_0
                 replace p111 := eq_true p111
                 replace q111 := eq_true q111
                 go_wp2
                 go_roundg k3
                 case measure => have := HJ2.out; have := HJ16.out; have := HK3.out; omega
                 case rel => exact ⟨(x5_3), (wrap64 (x57_3 + 1)), (by first | rfl | (simp; done) | (simp [*]; done)), H', ⟨by have := HJ2.out; have := HJ16.out; have := HK3.out; omega⟩, ⟨by (with_reducible repeat (first | apply Kd.R_alloc | apply Kd.R_drewN | apply Kd.R_drew)); exact HO_5.out⟩, ⟨by (with_reducible repeat (first | refine blk_drewN ?_ _ | refine blk_drew ?_ | refine blk_alloc ?_ _)); exact BK105.out⟩, ⟨by (with_reducible repeat (first | refine blk_drewN ?_ _ | refine blk_drew ?_ | refine blk_alloc ?_ _)); exact BK110.out⟩, ⟨by repeat (first | (with_reducible first | exact HB.out | apply below_alloc | apply pw_below_drewN | apply below_drew1 | refine below_set ?_ GE105.out | refine below_set ?_ GE110.out) | exact HB.out)⟩⟩
               ·rw [if_neg c37] at H
                exact absurd H (by simp)
              ·rw [if_neg c36] at H
               exact absurd H (by simp)
             ·rw [if_neg c35] at H
              have c35b0 : decide (x57_3 < (((rd_T56 ((rd_T54 l0_4 a1).f0) (ji14)).f6).length : Int)) = false := decide_eq_false c35
              clear c35
              obtain rfl := Option.some.inj H
              go_wp2
              go_ret
              exact ⟨_, by first | rfl | (simp [errW_none, errW_some] <;> rfl) | (simp only [← hji14]; first | rfl | (simp [errW_none, errW_some] <;> rfl)) | (simp [*, errW_none, errW_some] <;> rfl), by (with_reducible repeat (first | apply Kd.R_alloc | apply Kd.R_drewN | apply Kd.R_drew)); exact HO_5.out, by repeat (first | (with_reducible first | exact HB.out | apply below_alloc | apply pw_below_drewN | apply below_drew1 | refine below_set ?_ GE105.out | refine below_set ?_ GE110.out) | exact HB.out)⟩
       ·rw [if_neg c16] at H
        exact absurd H (by simp)
      ·rw [if_neg c15] at H
       exact absurd H (by simp)
     ·rw [if_neg c13] at H
      exact absurd H (by simp)
    ·rw [if_neg c12] at H
     exact absurd H (by simp)
end Go.Proofs.Ytkcimaibaicdcaa.P
