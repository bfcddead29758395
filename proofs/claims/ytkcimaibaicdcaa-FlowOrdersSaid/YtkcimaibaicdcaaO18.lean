/- A part of the proof of the law of FlowOrders: lemmas and walks, out of this session's texts, with what the claim does not use struck out. -/
import Derived.Test.YtkcimaibaicdcaaO6
import Derived.Test.YtkcimaibaicdcaaO15
namespace Go.Proofs.Ytkcimaibaicdcaa.P
open Go.RowKit Go.Proofs.YtkcimaibaicdcaaW.PrintWords Go.Proofs.YtkcimaibaicdcaaW.PrintLast Go.Proofs.YtkcimaibaicdcaaW.PrintMore
attribute [local go_sem] max2_int min2_int max_two min_two max_three min_three max_four min_four   
set_option linter.unusedVariables false
set_option linter.unusedSimpArgs false
mutual
def plnref3_from.j0 : Nat → Int → Int → List Bool → Bool → ByteArray → Bool → List Int → Int → List (S54) → Option (List Bool)
 | 0, _, _, _, _, _, _, _, _, _ => none
 | k + 1, x1, x2, x7, x28, x228000, x228001, x228002, x228003, x228004 => if x28 = true then (some x7) else (if 0 ≤ x1 then (if x1 < (x7.length : Int) then (plnref3_from.l0 k x2 (x7.set (x1 : Int).toNat true) true x228000 x228001 x228002 x228003 x228004) else (none)) else (none))
def plnref3_from.l0 : Nat → Int → List Bool → Bool → ByteArray → Bool → List Int → Int → List (S54) → Option (List Bool)
 | 0, _, _, _, _, _, _, _, _ => none
 | k + 1, x2, x7, x8, x228000, x228001, x228002, x228003, x228004 => if x8 = true then (plnref3_from.l1 k x2 x7 false 0 x228000 x228001 x228002 x228003 x228004) else (some x7)
def plnref3_from.l1 : Nat → Int → List Bool → Bool → Int → ByteArray → Bool → List Int → Int → List (S54) → Option (List Bool)
 | 0, _, _, _, _, _, _, _, _, _ => none
 | k + 1, x2, x7, x8, x9, x228000, x228001, x228002, x228003, x228004 => if x9 < (x7.length : Int) then (if 0 ≤ x9 then (if rdOf false x7 x9 = true then ((plnref3_Next.f k x228000 x228001 x228002 x228003 x228004 x9).bind fun t233 => (plnref3_from.l2 k x2 x7 x8 x9 t233 0 x228000 x228001 x228002 x228003 x228004)) else (plnref3_from.l1 k x2 x7 x8 (wrap64 (x9 + 1)) x228000 x228001 x228002 x228003 x228004)) else (none)) else (plnref3_from.l0 k x2 x7 x8 x228000 x228001 x228002 x228003 x228004)
def plnref3_from.l2 : Nat → Int → List Bool → Bool → Int → List Int → Int → ByteArray → Bool → List Int → Int → List (S54) → Option (List Bool)
 | 0, _, _, _, _, _, _, _, _, _, _, _ => none
 | k + 1, x2, x7, x8, x9, x10, x11, x228000, x228001, x228002, x228003, x228004 => if x11 < (x10.length : Int) then (if 0 ≤ x11 then (if (rd x10 x11) = x2 then (plnref3_from.l2 k x2 x7 x8 x9 x10 (wrap64 (x11 + 1)) x228000 x228001 x228002 x228003 x228004) else (if 0 ≤ (rd x10 x11) then (if (rd x10 x11) < (x7.length : Int) then (if (rdOf false x7 (rd x10 x11) = true) then (plnref3_from.l2 k x2 x7 x8 x9 x10 (wrap64 (x11 + 1)) x228000 x228001 x228002 x228003 x228004) else (plnref3_from.l2 k x2 (x7.set ((rd x10 x11) : Int).toNat true) true x9 x10 (wrap64 (x11 + 1)) x228000 x228001 x228002 x228003 x228004)) else (none)) else (none))) else (none)) else (plnref3_from.l1 k x2 x7 x8 (wrap64 (x9 + 1)) x228000 x228001 x228002 x228003 x228004)
end
def plnref3_from.f (k : Nat) (a0_0 : ByteArray) (a0_1 : Bool) (l0_2 : List Int) (a0_3 : Int) (l0_4 : List (S54)) (a1 : Int) (a2 : Int) : Option (List Bool) := if 0 ≤ (l0_4.length : Int) then (if ((l0_4.length : Int) : Int).toNat ≤ 281474976710656 then ((some (List.replicate ((l0_4.length : Int) : Int).toNat false : List Bool)).bind fun y228 => (if a1 < 0 then (plnref3_from.j0 k a1 a2 y228 true a0_0 a0_1 l0_2 a0_3 l0_4) else (if a1 ≥ (y228.length : Int) then (plnref3_from.j0 k a1 a2 y228 true a0_0 a0_1 l0_2 a0_3 l0_4) else (plnref3_from.j0 k a1 a2 y228 (a1 == a2) a0_0 a0_1 l0_2 a0_3 l0_4)))) else (none)) else (none)
theorem plnref3_from.mono_l : ∀ k, (∀ y0 y1 y2 y3 y4 y5 y6 y7 y8, LeO (plnref3_from.j0 k y0 y1 y2 y3 y4 y5 y6 y7 y8) (plnref3_from.j0 (k + 1) y0 y1 y2 y3 y4 y5 y6 y7 y8)) ∧ (∀ y0 y1 y2 y3 y4 y5 y6 y7, LeO (plnref3_from.l0 k y0 y1 y2 y3 y4 y5 y6 y7) (plnref3_from.l0 (k + 1) y0 y1 y2 y3 y4 y5 y6 y7)) ∧ (∀ y0 y1 y2 y3 y4 y5 y6 y7 y8, LeO (plnref3_from.l1 k y0 y1 y2 y3 y4 y5 y6 y7 y8) (plnref3_from.l1 (k + 1) y0 y1 y2 y3 y4 y5 y6 y7 y8)) ∧ (∀ y0 y1 y2 y3 y4 y5 y6 y7 y8 y9 y10, LeO (plnref3_from.l2 k y0 y1 y2 y3 y4 y5 y6 y7 y8 y9 y10) (plnref3_from.l2 (k + 1) y0 y1 y2 y3 y4 y5 y6 y7 y8 y9 y10))
 | 0 => ⟨fun _ _ _ _ _ _ _ _ _ r h => by simp [plnref3_from.j0] at h, fun _ _ _ _ _ _ _ _ r h => by simp [plnref3_from.l0] at h, fun _ _ _ _ _ _ _ _ _ r h => by simp [plnref3_from.l1] at h, fun _ _ _ _ _ _ _ _ _ _ _ r h => by simp [plnref3_from.l2] at h⟩
 | k + 1 => by
  obtain ⟨ih0, ih1, ih2, ih3⟩ := plnref3_from.mono_l k
  refine ⟨?_, ?_, ?_, ?_⟩
  ·intro y0 y1 y2 y3 y4 y5 y6 y7 y8
   unfold plnref3_from.j0
   repeat' first
   | (with_reducible exact ih0 _ _ _ _ _ _ _ _ _)
   | (with_reducible exact ih1 _ _ _ _ _ _ _ _)
   | (with_reducible exact ih2 _ _ _ _ _ _ _ _ _)
   | (with_reducible exact ih3 _ _ _ _ _ _ _ _ _ _ _)
   | (with_reducible exact plnref3_Next.mono _ _ _ _ _ _ _)
   | (with_reducible exact LeO.refl _)
   | (with_reducible exact LeO.none _)
   | (with_reducible refine LeO.ite ?_ ?_)
   | (with_reducible refine LeO.bind ?_ (fun _ => ?_))
   | exact ih0 _ _ _ _ _ _ _ _ _
   | exact ih1 _ _ _ _ _ _ _ _
   | exact ih2 _ _ _ _ _ _ _ _ _
   | exact ih3 _ _ _ _ _ _ _ _ _ _ _
   | exact plnref3_Next.mono _ _ _ _ _ _ _
   | exact LeO.none _
   | refine LeO.ite ?_ ?_
   | refine LeO.bind ?_ (fun _ => ?_)
  ·intro y0 y1 y2 y3 y4 y5 y6 y7
   unfold plnref3_from.l0
   repeat' first
   | (with_reducible exact ih0 _ _ _ _ _ _ _ _ _)
   | (with_reducible exact ih1 _ _ _ _ _ _ _ _)
   | (with_reducible exact ih2 _ _ _ _ _ _ _ _ _)
   | (with_reducible exact ih3 _ _ _ _ _ _ _ _ _ _ _)
   | (with_reducible exact plnref3_Next.mono _ _ _ _ _ _ _)
   | (with_reducible exact LeO.refl _)
   | (with_reducible exact LeO.none _)
   | (with_reducible refine LeO.ite ?_ ?_)
   | (with_reducible refine LeO.bind ?_ (fun _ => ?_))
   | exact ih0 _ _ _ _ _ _ _ _ _
   | exact ih1 _ _ _ _ _ _ _ _
   | exact ih2 _ _ _ _ _ _ _ _ _
   | exact ih3 _ _ _ _ _ _ _ _ _ _ _
   | exact plnref3_Next.mono _ _ _ _ _ _ _
   | exact LeO.none _
   | refine LeO.ite ?_ ?_
   | refine LeO.bind ?_ (fun _ => ?_)
  ·intro y0 y1 y2 y3 y4 y5 y6 y7 y8
   unfold plnref3_from.l1
   repeat' first
   | (with_reducible exact ih0 _ _ _ _ _ _ _ _ _)
   | (with_reducible exact ih1 _ _ _ _ _ _ _ _)
   | (with_reducible exact ih2 _ _ _ _ _ _ _ _ _)
   | (with_reducible exact ih3 _ _ _ _ _ _ _ _ _ _ _)
   | (with_reducible exact plnref3_Next.mono _ _ _ _ _ _ _)
   | (with_reducible exact LeO.refl _)
   | (with_reducible exact LeO.none _)
   | (with_reducible refine LeO.ite ?_ ?_)
   | (with_reducible refine LeO.bind ?_ (fun _ => ?_))
   | exact ih0 _ _ _ _ _ _ _ _ _
   | exact ih1 _ _ _ _ _ _ _ _
   | exact ih2 _ _ _ _ _ _ _ _ _
   | exact ih3 _ _ _ _ _ _ _ _ _ _ _
   | exact plnref3_Next.mono _ _ _ _ _ _ _
   | exact LeO.none _
   | refine LeO.ite ?_ ?_
   | refine LeO.bind ?_ (fun _ => ?_)
  ·intro y0 y1 y2 y3 y4 y5 y6 y7 y8 y9 y10
   unfold plnref3_from.l2
   repeat' first
   | (with_reducible exact ih0 _ _ _ _ _ _ _ _ _)
   | (with_reducible exact ih1 _ _ _ _ _ _ _ _)
   | (with_reducible exact ih2 _ _ _ _ _ _ _ _ _)
   | (with_reducible exact ih3 _ _ _ _ _ _ _ _ _ _ _)
   | (with_reducible exact plnref3_Next.mono _ _ _ _ _ _ _)
   | (with_reducible exact LeO.refl _)
   | (with_reducible exact LeO.none _)
   | (with_reducible refine LeO.ite ?_ ?_)
   | (with_reducible refine LeO.bind ?_ (fun _ => ?_))
   | exact ih0 _ _ _ _ _ _ _ _ _
   | exact ih1 _ _ _ _ _ _ _ _
   | exact ih2 _ _ _ _ _ _ _ _ _
   | exact ih3 _ _ _ _ _ _ _ _ _ _ _
   | exact plnref3_Next.mono _ _ _ _ _ _ _
   | exact LeO.none _
   | refine LeO.ite ?_ ?_
   | refine LeO.bind ?_ (fun _ => ?_)
theorem plnref3_from.mono : ∀ a0 a1 a2 a3 a4 a5 a6 k, LeO (plnref3_from.f k a0 a1 a2 a3 a4 a5 a6) (plnref3_from.f (k + 1) a0 a1 a2 a3 a4 a5 a6) := by
 intro a0 a1 a2 a3 a4 a5 a6 k
 obtain ⟨ih0, ih1, ih2, ih3⟩ := plnref3_from.mono_l k
 unfold plnref3_from.f
 repeat' first
   | (with_reducible exact ih0 _ _ _ _ _ _ _ _ _)
   | (with_reducible exact ih1 _ _ _ _ _ _ _ _)
   | (with_reducible exact ih2 _ _ _ _ _ _ _ _ _)
   | (with_reducible exact ih3 _ _ _ _ _ _ _ _ _ _ _)
   | (with_reducible exact plnref3_Next.mono _ _ _ _ _ _ _)
   | (with_reducible exact LeO.refl _)
   | (with_reducible exact LeO.none _)
   | (with_reducible refine LeO.ite ?_ ?_)
   | (with_reducible refine LeO.bind ?_ (fun _ => ?_))
   | exact ih0 _ _ _ _ _ _ _ _ _
   | exact ih1 _ _ _ _ _ _ _ _
   | exact ih2 _ _ _ _ _ _ _ _ _
   | exact ih3 _ _ _ _ _ _ _ _ _ _ _
   | exact plnref3_Next.mono _ _ _ _ _ _ _
   | exact LeO.none _
   | refine LeO.ite ?_ ?_
   | refine LeO.bind ?_ (fun _ => ?_)
set_option maxHeartbeats 8000000 in
set_option maxRecDepth 100000 in
theorem plnref3_from.calls (k : Nat) (a0_0 : ByteArray) (a0_1 : Bool) (A0_2 : Option Addr) (c0_2 : Nat) (l0_2 : List Int) (a0_3 : Int) (A0_4 : Option Addr) (c0_4 : Nat) (l0_4 : List (S54)) (a1 : Int) (a2 : Int) (r : List Bool) (w : World) (hr0_2 : Kd.C (Kd.int .i64) w A0_2 l0_2.length l0_2) (hc0_2 : l0_2.length ≤ c0_2) (hr0_4 : Kd.C k54 w A0_4 l0_4.length l0_4) (hc0_4 : l0_4.length ≤ c0_4) (h : plnref3_from.f k a0_0 a0_1 l0_2 a0_3 l0_4 a1 a2 = some r) :
  Calls Try.prog 65 #[.agg #[.string a0_0, .bool a0_1, .slice A0_2 l0_2.length c0_2, .int .i64 a0_3, .slice A0_4 l0_4.length c0_4], .int .i64 a1, .int .i64 a2] w fun e w' => ∃ v0_ : Value, e = .returned (v0_) ∧ Kd.R Kd.bool 4 w' w.heap.size (fun _ => True) v0_ r ∧ Below w.heap.size w w' := by
 have hu25 := Try.underlying25
 have HR0_2 := Aside0.mk hr0_2
 have HC0_2 := Aside0.mk hc0_2
 clear hr0_2 hc0_2
 have HR0_4 := Aside0.mk hr0_4
 have HC0_4 := Aside0.mk hc0_4
 clear hr0_4 hc0_4; have HB := Aside0.mk (Below.refl w.heap.size w)
 have H : (if 0 ≤ (l0_4.length : Int) then (if ((l0_4.length : Int) : Int).toNat ≤ 281474976710656 then ((some (List.replicate ((l0_4.length : Int) : Int).toNat false : List Bool)).bind fun y228 => (if a1 < 0 then (plnref3_from.j0 k a1 a2 y228 true a0_0 a0_1 l0_2 a0_3 l0_4) else (if a1 ≥ (y228.length : Int) then (plnref3_from.j0 k a1 a2 y228 true a0_0 a0_1 l0_2 a0_3 l0_4) else (plnref3_from.j0 k a1 a2 y228 (a1 == a2) a0_0 a0_1 l0_2 a0_3 l0_4)))) else (none)) else (none)) = some r := h
 clear h
 by_cases c4 : 0 ≤ (l0_4.length : Int)
 ·rw [if_pos c4] at H
  have c4b0 := eq_true c4
  have c4b1 : decide (0 ≤ (l0_4.length : Int)) = true := decide_eq_true c4
  clear c4
  by_cases c5 : ((l0_4.length : Int) : Int).toNat ≤ 281474976710656
  ·rw [if_pos c5] at H
   have c5b0 := eq_true c5
   have c5b1 : decide (((l0_4.length : Int) : Int).toNat ≤ 281474976710656) = true := decide_eq_true c5
   clear c5
   obtain ⟨y228, hy228⟩ : ∃ y_ : List Bool, y_ = (List.replicate ((l0_4.length : Int) : Int).toNat false) := ⟨_, rfl⟩
   replace H : (if a1 < 0 then (plnref3_from.j0 k a1 a2 y228 true a0_0 a0_1 l0_2 a0_3 l0_4) else (if a1 ≥ (y228.length : Int) then (plnref3_from.j0 k a1 a2 y228 true a0_0 a0_1 l0_2 a0_3 l0_4) else (plnref3_from.j0 k a1 a2 y228 (a1 == a2) a0_0 a0_1 l0_2 a0_3 l0_4))) = some r := by first | (rw [hy228]; with_reducible exact H) | (have H2_ := (Option.bind_some _ _).symm.trans H; rw [hy228]; with_reducible exact H2_) | (have H2_ := (Option.bind_some _ _).symm.trans H; with_reducible exact H2_) | with_reducible exact H | (rw [hy228]; exact H) | exact H
   have Ny228 := Aside0.mk hy228
   clear hy228
   have HC6 := Aside0.mk H
   clear H
   go_enter Try.func65, Try.ntmps65
   go_upto_region 2 with (first | ((with_reducible refine gate_dst (N := 3) rfl ?_); (try (refine gate_guard (by rfl) ?_; dsimp only)); refine box_event ?hg (N := 3) ?hd (cs := #[.string a0_0, .bool a0_1, .slice A0_2 l0_2.length c0_2, .int .i64 a0_3, .slice A0_4 l0_4.length c0_4]) (t := 25) ?hr ?_; (case hd => rfl); (case hg => rfl); (case hr => first | (go_simp; done) | (go_simp; rfl)); intro gb227 hg w7 hbox hb; have n0_ := Aside0.mk (below_step (by repeat (first | (with_reducible first | exact HB.out | apply below_alloc | apply pw_below_drewN | apply below_drew1) | exact HB.out)) hb); have n1_ := Aside0.mk (hbox); have n2_ := Aside0.mk ((by rw [hg]; exact (below_size (by repeat (first | (with_reducible first | exact HB.out | apply below_alloc | apply pw_below_drewN | apply below_drew1) | exact HB.out))) : w.heap.size ≤ gb227)); have n3_ := Aside0.mk ((by rw [hg]; exact (below_size (by repeat (first | (with_reducible first | exact HB.out | apply below_alloc | apply pw_below_drewN | apply below_drew1) | exact HB.out))) : w.heap.size ≤ gb227)); clear HB; have HB := n0_; have BK227 := n1_; have GW227 := n2_; have GE227 := n3_; clear n0_ n1_ n2_ n3_; clear hb hbox hg; have hcz8_0 : w7.cell? ⟨gb227, 0, none⟩ = some (.string a0_0) := (blk_cell BK227.out 0).trans rfl; have hcz8_1 : w7.cell? ⟨gb227, 1, none⟩ = some (.bool a0_1) := (blk_cell BK227.out 1).trans rfl; have hcz8_2 : w7.cell? ⟨gb227, 2, none⟩ = some (.slice A0_2 l0_2.length c0_2) := (blk_cell BK227.out 2).trans rfl; have hcz8_3 : w7.cell? ⟨gb227, 3, none⟩ = some (.int .i64 a0_3) := (blk_cell BK227.out 3).trans rfl; have hcz8_4 : w7.cell? ⟨gb227, 4, none⟩ = some (.slice A0_4 l0_4.length c0_4) := (blk_cell BK227.out 4).trans rfl; have hfz8_0 := blk_frozen BK227.out 0; have hfz8_1 := blk_frozen BK227.out 1; have hfz8_2 := blk_frozen BK227.out 2; have hfz8_3 := blk_frozen BK227.out 3; have hfz8_4 := blk_frozen BK227.out 4) | ((with_reducible refine gate_dst (N := 15) rfl ?_); (try (refine gate_guard (by rfl) ?_; dsimp only)); refine Kd.R_make Kd.bool _ 4 rfl (N := 15) rfl 34 _ _ rfl (l0_4.length : Int) rfl rfl Try.underlying34 (.bool false) 1 info4 rfl (by decide) (by omega) false (ok := fun _ => True) (okp := fun _ => True) rfl (fun _ hk => hk) trivial (of_decide_eq_true (by first | (with_reducible assumption) | assumption)) (Nat.le_trans (Nat.mul_le_mul_right _ (of_decide_eq_true (by first | (with_reducible assumption) | assumption) : (l0_4.length : Int).toNat ≤ 281474976710656)) (by omega)) (Below.refl _ _) (Nat.le_refl _) ?_; intro v229 w9 ho10 hb hg_ hnew_; clear hg_ hnew_; (first | rw [← Ny228.out] at ho10 | (simp only [Int.reduceToNat] at ho10; rw [← Ny228.out] at ho10)); have n0_ := Aside0.mk (Kd.R_lower ho10 (below_size (by repeat (first | (with_reducible first | exact HB.out | apply below_alloc | apply pw_below_drewN | apply below_drew1 | refine below_set ?_ GE227.out) | exact HB.out)))); have n1_ := Aside0.mk (blk_below (g := gb227) (o := .cells #[.string a0_0, .bool a0_1, .slice A0_2 l0_2.length c0_2, .int .i64 a0_3, .slice A0_4 l0_4.length c0_4] 25 (0, 0)) (by (with_reducible repeat (first | refine blk_drewN ?_ _ | refine blk_drew ?_ | refine blk_alloc ?_ _)); exact BK227.out) hb); have n2_ := Aside0.mk (below_step (by repeat (first | (with_reducible first | exact HB.out | apply below_alloc | apply pw_below_drewN | apply below_drew1 | refine below_set ?_ GE227.out) | exact HB.out)) hb); clear BK227; clear HB; have HO230 := n0_; have BK227 := n1_; have HB := n2_; clear n0_ n1_ n2_; clear hb ho10))
   (try simp only [Act.put, List.setIfInBounds_toArray, List.set_cons_zero, List.set_cons_succ])
   go_cut [28] (fun v28 wc => ∃ (kq : Nat) (x28_5 : Bool), v28 = .bool x28_5 ∧ Aside0 (plnref3_from.j0 kq a1 a2 y228 x28_5 a0_0 a0_1 l0_2 a0_3 l0_4 = some r) ∧ Aside0 (kq ≤ k) ∧ Aside0 (Kd.R Kd.bool 4 wc w.heap.size (fun _ => True) v229 y228) ∧ Aside0 (wc.heap[gb227]? = some (.cells #[.string a0_0, .bool a0_1, (.slice A0_2 l0_2.length c0_2), .int .i64 a0_3, (.slice A0_4 l0_4.length c0_4)] 25 (0, 0))) ∧ Aside0 (Below w.heap.size w wc))
   case first =>
    have H := HC6.out
    clear HC6
    by_cases c11 : a1 < 0
    ·rw [if_pos c11] at H
     have c11b0 : decide (a1 < 0) = true := decide_eq_true c11
     clear c11
     (first | rw [c11b0] | (simp only [i64_w, i32_w]; rw [c11b0]) | skip)
     have H' := Aside0.mk H
     clear H
     go_wp2
     go_meet
     case rel => exact ⟨_, (true), (by first | rfl | (simp; done) | (simp [*]; done)), H', ⟨by first | omega | exact Nat.le_refl _⟩, ⟨by (with_reducible repeat (first | apply Kd.R_alloc | apply Kd.R_drewN | apply Kd.R_drew)); exact HO230.out⟩, ⟨by (with_reducible repeat (first | refine blk_drewN ?_ _ | refine blk_drew ?_ | refine blk_alloc ?_ _)); exact BK227.out⟩, ⟨by repeat (first | (with_reducible first | exact HB.out | apply below_alloc | apply pw_below_drewN | apply below_drew1 | refine below_set ?_ GE227.out) | exact HB.out)⟩⟩
    ·rw [if_neg c11] at H
     have c11b0 : decide (a1 < 0) = false := decide_eq_false c11
     clear c11
     (first | rw [c11b0] | (simp only [i64_w, i32_w]; rw [c11b0]) | skip)
     by_cases c12 : a1 ≥ (y228.length : Int)
     ·rw [if_pos c12] at H
      have c12b0 : decide ((y228.length : Int) ≤ a1) = true := decide_eq_true c12
      clear c12
      have H' := Aside0.mk H
      clear H
      obtain ⟨Ao13, co13, eo13⟩ := Kd.R_slice HO230.out
      subst eo13
      go_wp2
      go_meet
      case rel => exact ⟨_, (true), (by first | rfl | (simp; done) | (simp [*]; done)), H', ⟨by first | omega | exact Nat.le_refl _⟩, ⟨by (with_reducible repeat (first | apply Kd.R_alloc | apply Kd.R_drewN | apply Kd.R_drew)); exact HO230.out⟩, ⟨by (with_reducible repeat (first | refine blk_drewN ?_ _ | refine blk_drew ?_ | refine blk_alloc ?_ _)); exact BK227.out⟩, ⟨by repeat (first | (with_reducible first | exact HB.out | apply below_alloc | apply pw_below_drewN | apply below_drew1 | refine below_set ?_ GE227.out) | exact HB.out)⟩⟩
     ·rw [if_neg c12] at H
      have c12b0 : decide ((y228.length : Int) ≤ a1) = false := decide_eq_false c12
      clear c12
      have H' := Aside0.mk H
      clear H
      obtain ⟨Ao14, co14, eo14⟩ := Kd.R_slice HO230.out
      subst eo14
      go_wp2
      go_meet
      case rel => exact ⟨_, ((a1 == a2)), (by first | rfl | (simp; done) | (simp [*]; done)), H', ⟨by first | omega | exact Nat.le_refl _⟩, ⟨by (with_reducible repeat (first | apply Kd.R_alloc | apply Kd.R_drewN | apply Kd.R_drew)); exact HO230.out⟩, ⟨by (with_reducible repeat (first | refine blk_drewN ?_ _ | refine blk_drew ?_ | refine blk_alloc ?_ _)); exact BK227.out⟩, ⟨by repeat (first | (with_reducible first | exact HB.out | apply below_alloc | apply pw_below_drewN | apply below_drew1 | refine below_set ?_ GE227.out) | exact HB.out)⟩⟩
   case rest =>
    clear HC6
    try clear c1
    try clear p2
    try clear c4
    try clear c4b0
    try clear c4b1
    try clear c5
    try clear c5b0
    try clear c5b1
    try clear c6
    try clear c11
    try clear c11b0
    try clear c12
    try clear c12b0
    try clear hcz8_0
    try clear hcz8_1
    try clear hcz8_2
    try clear hcz8_3
    try clear hcz8_4
    try clear hfz8_0
    try clear hfz8_1
    try clear hfz8_2
    try clear hfz8_3
    try clear hfz8_4
    obtain ⟨kq, x28_5, rfl, HA, HJ5, HO_7, BK227, HB⟩ := hcut
    cases kq with
    | zero => exact absurd HA.out (by simp [plnref3_from.j0])
    | succ kj5 =>
     have H := HA.out
     clear HA
     simp only [plnref3_from.j0] at H
     by_cases c15 : x28_5 = true
     ·subst c15
      have H1 : (some y228) = some r := by rw [if_pos rfl] at H; exact H
      clear H; have H := H1; clear H1
      obtain rfl := Option.some.inj H
      go_wp2
      go_ret
      exact ⟨_, by first | rfl | (simp [errW_none, errW_some] <;> rfl) | (simp [*, errW_none, errW_some] <;> rfl), by (with_reducible repeat (first | apply Kd.R_alloc | apply Kd.R_drewN | apply Kd.R_drew)); exact HO_7.out, by repeat (first | (with_reducible first | exact HB.out | apply below_alloc | apply pw_below_drewN | apply below_drew1 | refine below_set ?_ GE227.out) | exact HB.out)⟩
     ·replace c15 := Bool.eq_false_iff.mpr c15
      subst c15
      have H1 : (if 0 ≤ a1 then (if a1 < (y228.length : Int) then (plnref3_from.l0 kj5 a2 (y228.set (a1 : Int).toNat true) true a0_0 a0_1 l0_2 a0_3 l0_4) else (none)) else (none)) = some r := by rw [if_neg (show ¬ (false = true) by decide)] at H; exact H
      clear H; have H := H1; clear H1
      by_cases c16 : 0 ≤ a1
      ·rw [if_pos c16] at H
       have c16b0 : decide (0 ≤ a1) = true := decide_eq_true c16
       clear c16
       by_cases c17 : a1 < (y228.length : Int)
       ·rw [if_pos c17] at H
        have c17b0 : decide (a1 < (y228.length : Int)) = true := decide_eq_true c17
        clear c17
        obtain ⟨y231, hy231⟩ : ∃ y_ : List Bool, y_ = (y228.set (a1 : Int).toNat true) := ⟨_, rfl⟩
        replace H : (plnref3_from.l0 kj5 a2 y231 true a0_0 a0_1 l0_2 a0_3 l0_4) = some r := by first | (rw [hy231]; with_reducible exact H) | (have H2_ := (Option.bind_some _ _).symm.trans H; rw [hy231]; with_reducible exact H2_) | (have H2_ := (Option.bind_some _ _).symm.trans H; with_reducible exact H2_) | with_reducible exact H | (rw [hy231]; exact H) | exact H
        have Ny231 := Aside0.mk hy231
        clear hy231
        have H' := Aside0.mk H
        clear H
        have p18 : 0 ≤ (a1 : Int) := of_decide_eq_true (by first | (with_reducible assumption) | assumption)
        have q18 : (a1 : Int) < ((y228.length : Int) : Int) := of_decide_eq_true (by first | (with_reducible assumption) | assumption)
        obtain ⟨go18, co18, eo18, gb18, gl18, cl18, HG18⟩ := Kd.R_form HO_7.out (by omega)
        (first | cases eo18 | (injection eo18 with ea_ en_ ec_; (first | subst ea_ | (injection ea_ with ea_; subst ea_)); subst ec_; clear en_))
        have GB18 := Aside0.mk gb18
        have GG18 := Aside0.mk HG18
        clear gb18 gl18 HG18
        obtain ⟨hx18_0, hf18_0⟩ := Kd.R_celln false HO_7.out (a1 : Int) p18 q18
        replace p18 := eq_true p18
        replace q18 := eq_true q18
        have HP19 := Kd.R_putg HO_7.out (a1 : Int) true
        go_wp2_with (first | ((with_reducible refine gate_store (t := 4) (p := 32) rfl ?_); refine store_event (t := 4) (p := 32) (v := ?vo_w20) (w1 := (wc.setCell ⟨go18, (a1 : Int).toNat, none⟩ (.bool true))) ?hg ?ho ?hn ?hr ?_; (case ho => rfl); (case hg => rfl); (case hn => rfl); (case hr => first | (go_simp; done) | (go_simp; rfl)); intro w20 hw; have hg : wc.grownBy w20 (some go18) := (by rw [hw]; exact HP19.2); have hp_ : Kd.R Kd.bool 4 w20 w.heap.size (fun _ => True) (.slice (some ⟨go18, 0, none⟩) y228.length co18) y231 := (by rw [hw, Ny231.out]; exact HP19.1); clear HP19; have n0_ := Aside0.mk (hp_); have n1_ := Aside0.mk (blk_grown (g := gb227) (o := .cells #[.string a0_0, .bool a0_1, .slice A0_2 l0_2.length c0_2, .int .i64 a0_3, .slice A0_4 l0_4.length c0_4] 25 (0, 0)) (by (with_reducible repeat (first | refine blk_drewN ?_ _ | refine blk_drew ?_ | refine blk_alloc ?_ _)); exact BK227.out) hg (Kd.R_ne HO_7.out BK227.out (by decide))); have n2_ := Aside0.mk ((by rw [hw]; exact below_set (HB.out) GB18.out : Below w.heap.size w w20)); clear HO_7; clear BK227; clear HB; have HO_7 := n0_; have BK227 := n1_; have HB := n2_; clear n0_ n1_ n2_; clear hg hw hp_))
        go_loopg [8] kj5 (fun kq v8 w' => ∃ (x7_2 : List Bool) (x8_2 : Bool), v8 = .bool x8_2 ∧ Aside0 (plnref3_from.l0 kq a2 x7_2 x8_2 a0_0 a0_1 l0_2 a0_3 l0_4 = some r) ∧ Aside0 (kq ≤ kj5) ∧ Aside0 (Kd.R Kd.bool 4 w' w.heap.size (fun _ => True) (.slice (some ⟨go18, 0, none⟩) y228.length co18) x7_2) ∧ Aside0 (w'.heap[gb227]? = some (.cells #[.string a0_0, .bool a0_1, (.slice A0_2 l0_2.length c0_2), .int .i64 a0_3, (.slice A0_4 l0_4.length c0_4)] 25 (0, 0))) ∧ Aside0 (Below w.heap.size w w'))
        case atStart => exact ⟨(y231), (true), (by first | rfl | (simp; done) | (simp [*]; done)), H', ⟨Nat.le_refl _⟩, ⟨by (with_reducible repeat (first | apply Kd.R_alloc | apply Kd.R_drewN | apply Kd.R_drew)); exact HO_7.out⟩, ⟨by (with_reducible repeat (first | refine blk_drewN ?_ _ | refine blk_drew ?_ | refine blk_alloc ?_ _)); exact BK227.out⟩, ⟨by repeat (first | (with_reducible first | exact HB.out | apply below_alloc | apply pw_below_drewN | apply below_drew1 | refine below_set ?_ GE227.out) | exact HB.out)⟩⟩
        case round =>
         clear H'
         try clear c1
         try clear p1
         try clear q1
         try clear hx1
         try clear p2
         try clear c4
         try clear c4b0
         try clear c4b1
         try clear c5
         try clear c5b0
         try clear c5b1
         try clear c6
         try clear c11
         try clear c11b0
         try clear c12
         try clear c12b0
         try clear c15
         try clear c16
         try clear c16b0
         try clear c17
         try clear c17b0
         try clear p18
         try clear q18
         try clear hx18
         try clear hf18
         try clear hcz8_0
         try clear hcz8_1
         try clear hcz8_2
         try clear hcz8_3
         try clear hcz8_4
         try clear hfz8_0
         try clear hfz8_1
         try clear hfz8_2
         try clear hfz8_3
         try clear hfz8_4
         try clear hx18_0
         try clear p18
         try clear p2
         try clear q18
         obtain ⟨x7_2, x8_2, rfl, HA, HK2, HO_7, BK227, HB⟩ := hrel
         have hl7_2 := (Kd.R_reads' HO_7.out).1
         rw [hl7_2] at HO_7
         (try simp only [hl7_2])
         (try simp only [hl7_2] at BK227)
         cases gk with
         | zero => exact absurd HA.out (by simp [plnref3_from.l0])
         | succ k2 =>
          have H := HA.out
          clear HA
          simp only [plnref3_from.l0] at H
          by_cases c21 : x8_2 = true
          ·subst c21
           have H1 : (plnref3_from.l1 k2 a2 x7_2 false 0 a0_0 a0_1 l0_2 a0_3 l0_4) = some r := by rw [if_pos rfl] at H; exact H
           clear H; have H := H1; clear H1
           have H' := Aside0.mk H
           clear H
           go_wp2
           go_loopg [8, 9] k2 (fun kq v8 v9 w' => ∃ (x7_3 : List Bool) (x8_3 : Bool) (x9_3 : Int), v8 = .bool x8_3 ∧ v9 = .int .i64 x9_3 ∧ Aside0 (plnref3_from.l1 kq a2 x7_3 x8_3 x9_3 a0_0 a0_1 l0_2 a0_3 l0_4 = some r) ∧ Aside0 (kq ≤ k2) ∧ Aside0 (Kd.R Kd.bool 4 w' w.heap.size (fun _ => True) (.slice (some ⟨go18, 0, none⟩) x7_2.length co18) x7_3) ∧ Aside0 (w'.heap[gb227]? = some (.cells #[.string a0_0, .bool a0_1, (.slice A0_2 l0_2.length c0_2), .int .i64 a0_3, (.slice A0_4 l0_4.length c0_4)] 25 (0, 0))) ∧ Aside0 (Below w.heap.size w w'))
           case atStart => exact ⟨(x7_2), (false), (0), (by first | rfl | (simp; done) | (simp [*]; done)), (by first | rfl | (simp; done) | (simp [*]; done)), H', ⟨Nat.le_refl _⟩, ⟨by (try simp only [hl7_2]); (with_reducible repeat (first | apply Kd.R_alloc | apply Kd.R_drewN | apply Kd.R_drew)); exact HO_7.out⟩, ⟨by (try simp only [hl7_2]); (with_reducible repeat (first | refine blk_drewN ?_ _ | refine blk_drew ?_ | refine blk_alloc ?_ _)); exact BK227.out⟩, ⟨by repeat (first | (with_reducible first | exact HB.out | apply below_alloc | apply pw_below_drewN | apply below_drew1 | refine below_set ?_ GE227.out) | exact HB.out)⟩⟩
           case round =>
            clear H'
            try clear c1
            try clear p1
            try clear q1
            try clear hx1
            try clear c2
            try clear p2
            try clear c4
            try clear c4b0
            try clear c4b1
            try clear c5
            try clear c5b0
            try clear c5b1
            try clear c6
            try clear c11
            try clear c11b0
            try clear c12
            try clear c12b0
            try clear c15
            try clear c16
            try clear c16b0
            try clear c17
            try clear c17b0
            try clear p18
            try clear q18
            try clear hx18
            try clear hf18
            try clear c21
            try clear hcz8_0
            try clear hcz8_1
            try clear hcz8_2
            try clear hcz8_3
            try clear hcz8_4
            try clear hfz8_0
            try clear hfz8_1
            try clear hfz8_2
            try clear hfz8_3
            try clear hfz8_4
            try clear hx18_0
            try clear p1
            try clear p18
            try clear p2
            try clear q1
            try clear q18
            obtain ⟨x7_3, x8_3, x9_3, rfl, rfl, HA, HK3, HO_7, BK227, HB⟩ := hrel
            have hl7_3 := (Kd.R_reads' HO_7.out).1
            rw [hl7_3] at HO_7
            (try simp only [hl7_3])
            (try simp only [hl7_3] at BK227)
            cases gk with
            | zero => exact absurd HA.out (by simp [plnref3_from.l1])
            | succ k3 =>
             have H := HA.out
             clear HA
             simp only [plnref3_from.l1] at H
             by_cases c22 : x9_3 < (x7_3.length : Int)
             ·rw [if_pos c22] at H
              have c22b0 : decide (x9_3 < (x7_3.length : Int)) = true := decide_eq_true c22
              clear c22
              by_cases c23 : 0 ≤ x9_3
              ·rw [if_pos c23] at H
               have c23b0 : decide (0 ≤ x9_3) = true := decide_eq_true c23
               clear c23
               obtain ⟨bq24, hbq24⟩ : ∃ b_ : Bool, b_ = (rdOf false x7_3 x9_3) := ⟨_, rfl⟩
               replace H : (if bq24 = true then ((plnref3_Next.f k3 a0_0 a0_1 l0_2 a0_3 l0_4 x9_3).bind fun t233 => (plnref3_from.l2 k3 a2 x7_3 x8_3 x9_3 t233 0 a0_0 a0_1 l0_2 a0_3 l0_4)) else (plnref3_from.l1 k3 a2 x7_3 x8_3 (wrap64 (x9_3 + 1)) a0_0 a0_1 l0_2 a0_3 l0_4)) = some r := by rw [← hbq24] at H; exact H
               have Nbq24 := Aside0.mk hbq24
               clear hbq24
               by_cases c25 : bq24 = true
               ·subst c25
                have H1 : ((plnref3_Next.f k3 a0_0 a0_1 l0_2 a0_3 l0_4 x9_3).bind fun t233 => (plnref3_from.l2 k3 a2 x7_3 x8_3 x9_3 t233 0 a0_0 a0_1 l0_2 a0_3 l0_4)) = some r := by rw [if_pos rfl] at H; exact H
                clear H; have H := H1; clear H1
                replace H := Option.bind_eq_some_iff.mp H
                obtain ⟨t233, A260, H⟩ := H
                replace H : (plnref3_from.l2 k3 a2 x7_3 x8_3 x9_3 t233 0 a0_0 a0_1 l0_2 a0_3 l0_4) = some r := H
                have A26 := Aside0.mk A260
                clear A260
                have H' := Aside0.mk H
                clear H
                have p232 : 0 ≤ (x9_3 : Int) := of_decide_eq_true (by first | (with_reducible assumption) | assumption)
                have q232 : x9_3 < (x7_3.length : Int) := of_decide_eq_true (by first | (with_reducible assumption) | assumption)
                obtain ⟨ad232, e232, hx232_0⟩ := Kd.at_bool (Kd.R_reads' HO_7.out).2.2 x9_3 p232 q232
                (try rw [← Nbq24.out] at hx232_0)
                obtain rfl : (⟨go18, 0, none⟩ : Addr) = ad232 := (by injection e232)
                (first | simp only [add_plain] at hx232_0 | simp only [add_at] at hx232_0 | simp only [Addr.add, Nat.zero_add] at hx232_0 | skip)
                replace p232 := eq_true p232
                replace q232 := eq_true q232
                have hcz27_0 : wr.cell? ⟨gb227, 0, none⟩ = some (.string a0_0) := (blk_cell BK227.out 0).trans rfl
                have hcz27_1 : wr.cell? ⟨gb227, 1, none⟩ = some (.bool a0_1) := (blk_cell BK227.out 1).trans rfl
                have hcz27_2 : wr.cell? ⟨gb227, 2, none⟩ = some (.slice A0_2 l0_2.length c0_2) := (blk_cell BK227.out 2).trans rfl
                have hcz27_3 : wr.cell? ⟨gb227, 3, none⟩ = some (.int .i64 a0_3) := (blk_cell BK227.out 3).trans rfl
                have hcz27_4 : wr.cell? ⟨gb227, 4, none⟩ = some (.slice A0_4 l0_4.length c0_4) := (blk_cell BK227.out 4).trans rfl
                have hfz27_0 := blk_frozen BK227.out 0
                have hfz27_1 := blk_frozen BK227.out 1
                have hfz27_2 := blk_frozen BK227.out 2
                have hfz27_3 := blk_frozen BK227.out 3
                have hfz27_4 := blk_frozen BK227.out 4
                go_wp2_with (first | ((with_reducible refine gate_callee (f := 20) rfl ?_); refine goesL_ (some 47) rfl rfl Try.func20 (by kernel_rfl) rfl #[.agg #[.string a0_0, .bool a0_1, .slice A0_2 l0_2.length c0_2, .int .i64 a0_3, .slice A0_4 l0_4.length c0_4], .int .i64 x9_3] rfl (by (try simp only [List.map_toArray, List.map_cons, List.map_nil]); first | done | rfl | (simp only [List.length_drop, List.length_take]; rfl)) ?_; (with_reducible refine (plnref3_Next.calls k3 a0_0 a0_1 _ _ l0_2 a0_3 _ _ l0_4 x9_3 t233 _ ?side1 ?side2 ?side3 ?side4 A26.out).mono ?_); (case side1 => repeat (first | exact (Kd.C_below HR0_2.out HB.out) | (with_reducible refine Kd.C_alloc ?_ _) | (with_reducible refine Kd.C_drewN ?_ _) | (with_reducible refine Kd.C_drew ?_))); (case side2 => exact HC0_2.out); (case side3 => repeat (first | exact (Kd.C_below HR0_4.out HB.out) | (with_reducible refine Kd.C_alloc ?_ _) | (with_reducible refine Kd.C_drewN ?_ _) | (with_reducible refine Kd.C_drew ?_))); (case side4 => exact HC0_4.out); rintro e w28 ⟨v234, rfl, ho0, hb⟩; refine ⟨_, rfl, ?_⟩; have n0_ := Aside0.mk (Kd.R_below (by (with_reducible repeat (first | apply Kd.R_alloc | apply Kd.R_drewN | apply Kd.R_drew)); exact HO_7.out) hb); have n1_ := Aside0.mk (Kd.R_lower ho0 (below_size (by repeat (first | (with_reducible first | exact HB.out | apply below_alloc | apply pw_below_drewN | apply below_drew1 | refine below_set ?_ GE227.out) | exact HB.out)))); have n2_ := Aside0.mk (blk_below (g := gb227) (o := .cells #[.string a0_0, .bool a0_1, .slice A0_2 l0_2.length c0_2, .int .i64 a0_3, .slice A0_4 l0_4.length c0_4] 25 (0, 0)) (by (with_reducible repeat (first | refine blk_drewN ?_ _ | refine blk_drew ?_ | refine blk_alloc ?_ _)); exact BK227.out) hb); have n3_ := Aside0.mk (below_step (by repeat (first | (with_reducible first | exact HB.out | apply below_alloc | apply pw_below_drewN | apply below_drew1 | refine below_set ?_ GE227.out) | exact HB.out)) hb); clear HO_7; clear BK227; clear HB; have HO_7 := n0_; have HO235 := n1_; have BK227 := n2_; have HB := n3_; clear n0_ n1_ n2_ n3_; (try clear hb); (try clear hb2); (try clear hk); (try clear hi); (try clear ho0)))
                go_loopg [8, 11] k3 (fun kq v8 v11 w' => ∃ (x7_4 : List Bool) (x8_4 : Bool) (x11_4 : Int), v8 = .bool x8_4 ∧ v11 = .int .i64 x11_4 ∧ Aside0 (plnref3_from.l2 kq a2 x7_4 x8_4 x9_3 t233 x11_4 a0_0 a0_1 l0_2 a0_3 l0_4 = some r) ∧ Aside0 (kq ≤ k3) ∧ Aside0 (Kd.R Kd.bool 4 w' w.heap.size (fun _ => True) (.slice (some ⟨go18, 0, none⟩) x7_3.length co18) x7_4) ∧ Aside0 (Kd.R (Kd.int .i64) 3 w' w.heap.size (fun _ => True) v234 t233) ∧ Aside0 (w'.heap[gb227]? = some (.cells #[.string a0_0, .bool a0_1, (.slice A0_2 l0_2.length c0_2), .int .i64 a0_3, (.slice A0_4 l0_4.length c0_4)] 25 (0, 0))) ∧ Aside0 (Below w.heap.size w w'))
                case atStart => exact ⟨(x7_3), (x8_3), (0), (by first | rfl | (simp; done) | (simp [*]; done)), (by first | rfl | (simp; done) | (simp [*]; done)), H', ⟨Nat.le_refl _⟩, ⟨by (try simp only [hl7_2]); (try simp only [hl7_3]); (with_reducible repeat (first | apply Kd.R_alloc | apply Kd.R_drewN | apply Kd.R_drew)); exact HO_7.out⟩, ⟨by (try simp only [hl7_2]); (try simp only [hl7_3]); (with_reducible repeat (first | apply Kd.R_alloc | apply Kd.R_drewN | apply Kd.R_drew)); exact HO235.out⟩, ⟨by (try simp only [hl7_2]); (try simp only [hl7_3]); (with_reducible repeat (first | refine blk_drewN ?_ _ | refine blk_drew ?_ | refine blk_alloc ?_ _)); exact BK227.out⟩, ⟨by repeat (first | (with_reducible first | exact HB.out | apply below_alloc | apply pw_below_drewN | apply below_drew1 | refine below_set ?_ GE227.out) | exact HB.out)⟩⟩
                case round =>
                 clear H'
                 try clear c1
                 try clear p1
                 try clear q1
                 try clear hx1
                 try clear c2
                 try clear p2
                 try clear q2
                 try clear hx2
                 try clear c4
                 try clear c4b0
                 try clear c4b1
                 try clear c5
                 try clear c5b0
                 try clear c5b1
                 try clear c6
                 try clear p6
                 try clear c11
                 try clear c11b0
                 try clear c12
                 try clear c12b0
                 try clear c15
                 try clear c16
                 try clear c16b0
                 try clear c17
                 try clear c17b0
                 try clear p18
                 try clear q18
                 try clear hx18
                 try clear hf18
                 try clear c20
                 try clear c21
                 try clear c22
                 try clear c22b0
                 try clear c23
                 try clear c23b0
                 try clear p23
                 try clear q23
                 try clear hx23
                 try clear q24
                 try clear c25
                 try clear hcz27_0
                 try clear hcz27_1
                 try clear hcz27_2
                 try clear hcz27_3
                 try clear hcz27_4
                 try clear hcz8_0
                 try clear hcz8_1
                 try clear hcz8_2
                 try clear hcz8_3
                 try clear hcz8_4
                 try clear hfz27_0
                 try clear hfz27_1
                 try clear hfz27_2
                 try clear hfz27_3
                 try clear hfz27_4
                 try clear hfz8_0
                 try clear hfz8_1
                 try clear hfz8_2
                 try clear hfz8_3
                 try clear hfz8_4
                 try clear hx18_0
                 try clear hx232_0
                 try clear p1
                 try clear p18
                 try clear p2
                 try clear p232
                 try clear q1
                 try clear q18
                 try clear q232
                 obtain ⟨x7_4, x8_4, x11_4, rfl, rfl, HA, HK4, HO_7, HO_10, BK227, HB⟩ := hrel
                 have hl7_4 := (Kd.R_reads' HO_7.out).1
                 rw [hl7_4] at HO_7
                 (try simp only [hl7_4])
                 (try simp only [hl7_4] at BK227)
                 (try simp only [hl7_4] at HO_10)
                 cases gk with
                 | zero => exact absurd HA.out (by simp [plnref3_from.l2])
                 | succ k4 =>
                  have H := HA.out
                  clear HA
                  simp only [plnref3_from.l2] at H
                  by_cases c29 : x11_4 < (t233.length : Int)
                  ·rw [if_pos c29] at H
                   have c29b0 : decide (x11_4 < (t233.length : Int)) = true := decide_eq_true c29
                   clear c29
                   by_cases c30 : 0 ≤ x11_4
                   ·rw [if_pos c30] at H
                    have c30b0 : decide (0 ≤ x11_4) = true := decide_eq_true c30
                    clear c30
                    by_cases c31 : (rd t233 x11_4) = a2
                    ·rw [if_pos c31] at H
                     have c31b0 : ((rd t233 x11_4) == a2) = true := beq_iff_eq.mpr c31
                     have c31b1 : ((rd t233 x11_4) != a2) = false := bne_eq_false_iff_eq.mpr c31
                     clear c31
                     have H' := Aside0.mk H
                     clear H
                     obtain ⟨Ao32, co32, eo32⟩ := Kd.R_slice HO_10.out
                     subst eo32
                     have p236 : 0 ≤ (x11_4 : Int) := of_decide_eq_true (by first | (with_reducible assumption) | assumption)
                     have q236 : x11_4 < (t233.length : Int) := of_decide_eq_true (by first | (with_reducible assumption) | assumption)
                     obtain ⟨ad236, e236, hx236_0⟩ := Kd.at_int (Kd.R_reads' HO_10.out).2.2 x11_4 p236 q236
                     cases e236
                     replace p236 := eq_true p236
                     replace q236 := eq_true q236
                     go_wp2
                     (try simp only [← hl7_4])
                     go_roundg k4
                     case measure => have := HJ5.out; have := HK2.out; have := HK3.out; have := HK4.out; omega
                     case rel => exact ⟨(x7_4), (x8_4), (wrap64 (x11_4 + 1)), (by first | rfl | (simp; done) | (simp [*]; done)), (by first | rfl | (simp; done) | (simp [*]; done)), H', ⟨by have := HJ5.out; have := HK2.out; have := HK3.out; have := HK4.out; omega⟩, ⟨by (try simp only [hl7_2]); (try simp only [hl7_3]); (try simp only [hl7_4]); (with_reducible repeat (first | apply Kd.R_alloc | apply Kd.R_drewN | apply Kd.R_drew)); exact HO_7.out⟩, ⟨by (try simp only [hl7_2]); (try simp only [hl7_3]); (try simp only [hl7_4]); (with_reducible repeat (first | apply Kd.R_alloc | apply Kd.R_drewN | apply Kd.R_drew)); exact HO_10.out⟩, ⟨by (try simp only [hl7_2]); (try simp only [hl7_3]); (try simp only [hl7_4]); (with_reducible repeat (first | refine blk_drewN ?_ _ | refine blk_drew ?_ | refine blk_alloc ?_ _)); exact BK227.out⟩, ⟨by repeat (first | (with_reducible first | exact HB.out | apply below_alloc | apply pw_below_drewN | apply below_drew1 | refine below_set ?_ GE227.out) | exact HB.out)⟩⟩
                    ·rw [if_neg c31] at H
                     have c31b0 : ((rd t233 x11_4) == a2) = false := beq_eq_false_iff_ne.mpr c31
                     have c31b1 : ((rd t233 x11_4) != a2) = true := bne_iff_ne.mpr c31
                     by_cases c33 : 0 ≤ (rd t233 x11_4)
                     ·rw [if_pos c33] at H
                      have c33b0 : decide (0 ≤ (rd t233 x11_4)) = true := decide_eq_true c33
                      clear c33
                      by_cases c34 : (rd t233 x11_4) < (x7_4.length : Int)
                      ·rw [if_pos c34] at H
                       have c34b0 : decide ((rd t233 x11_4) < (x7_4.length : Int)) = true := decide_eq_true c34
                       clear c34
                       obtain ⟨bq35, hbq35⟩ : ∃ b_ : Bool, b_ = (rdOf false x7_4 (rd t233 x11_4)) := ⟨_, rfl⟩
                       replace H : (if (bq35 = true) then (plnref3_from.l2 k4 a2 x7_4 x8_4 x9_3 t233 (wrap64 (x11_4 + 1)) a0_0 a0_1 l0_2 a0_3 l0_4) else (plnref3_from.l2 k4 a2 (x7_4.set ((rd t233 x11_4) : Int).toNat true) true x9_3 t233 (wrap64 (x11_4 + 1)) a0_0 a0_1 l0_2 a0_3 l0_4)) = some r := by rw [← hbq35] at H; exact H
                       have Nbq35 := Aside0.mk hbq35
                       clear hbq35
                       (try rw [← Nbq35.out] at hx232_0)
                       by_cases c36 : (bq35 = true)
                       ·subst c36
                        have H1 : (plnref3_from.l2 k4 a2 x7_4 x8_4 x9_3 t233 (wrap64 (x11_4 + 1)) a0_0 a0_1 l0_2 a0_3 l0_4) = some r := by rw [if_pos rfl] at H; exact H
                        clear H; have H := H1; clear H1
                        have H' := Aside0.mk H
                        clear H
                        obtain ⟨Ao37, co37, eo37⟩ := Kd.R_slice HO_10.out
                        subst eo37
                        have p236 : 0 ≤ (x11_4 : Int) := of_decide_eq_true (by first | (with_reducible assumption) | assumption)
                        have q236 : x11_4 < (t233.length : Int) := of_decide_eq_true (by first | (with_reducible assumption) | assumption)
                        obtain ⟨ad236, e236, hx236_0⟩ := Kd.at_int (Kd.R_reads' HO_10.out).2.2 x11_4 p236 q236
                        cases e236
                        replace p236 := eq_true p236
                        replace q236 := eq_true q236
                        have p237 : 0 ≤ (x11_4 : Int) := of_decide_eq_true (by first | (with_reducible assumption) | assumption)
                        have q237 : x11_4 < (t233.length : Int) := of_decide_eq_true (by first | (with_reducible assumption) | assumption)
                        obtain ⟨ad237, e237, hx237_0⟩ := Kd.at_int (Kd.R_reads' HO_10.out).2.2 x11_4 p237 q237
                        obtain rfl : ad236 = ad237 := (by injection e237)
                        replace p237 := eq_true p237
                        replace q237 := eq_true q237
                        have p238 : 0 ≤ ((rd t233 x11_4) : Int) := of_decide_eq_true (by first | (with_reducible assumption) | assumption)
                        have q238 : (rd t233 x11_4) < (x7_4.length : Int) := of_decide_eq_true (by first | (with_reducible assumption) | assumption)
                        obtain ⟨ad238, e238, hx238_0⟩ := Kd.at_bool (Kd.R_reads' HO_7.out).2.2 (rd t233 x11_4) p238 q238
                        (try rw [← Nbq24.out] at hx238_0)
                        (try rw [← Nbq35.out] at hx238_0)
                        obtain rfl : (⟨go18, 0, none⟩ : Addr) = ad238 := (by injection e238)
                        (first | simp only [add_plain] at hx238_0 | simp only [add_at] at hx238_0 | simp only [Addr.add, Nat.zero_add] at hx238_0 | skip)
                        replace p238 := eq_true p238
                        replace q238 := eq_true q238
                        go_wp2
                        (try simp only [← hl7_4])
                        go_roundg k4
                        case measure => have := HJ5.out; have := HK2.out; have := HK3.out; have := HK4.out; omega
                        case rel => exact ⟨(x7_4), (x8_4), (wrap64 (x11_4 + 1)), (by first | rfl | (simp; done) | (simp [*]; done)), (by first | rfl | (simp; done) | (simp [*]; done)), H', ⟨by have := HJ5.out; have := HK2.out; have := HK3.out; have := HK4.out; omega⟩, ⟨by (try simp only [hl7_2]); (try simp only [hl7_3]); (try simp only [hl7_4]); (with_reducible repeat (first | apply Kd.R_alloc | apply Kd.R_drewN | apply Kd.R_drew)); exact HO_7.out⟩, ⟨by (try simp only [hl7_2]); (try simp only [hl7_3]); (try simp only [hl7_4]); (with_reducible repeat (first | apply Kd.R_alloc | apply Kd.R_drewN | apply Kd.R_drew)); exact HO_10.out⟩, ⟨by (try simp only [hl7_2]); (try simp only [hl7_3]); (try simp only [hl7_4]); (with_reducible repeat (first | refine blk_drewN ?_ _ | refine blk_drew ?_ | refine blk_alloc ?_ _)); exact BK227.out⟩, ⟨by repeat (first | (with_reducible first | exact HB.out | apply below_alloc | apply pw_below_drewN | apply below_drew1 | refine below_set ?_ GE227.out) | exact HB.out)⟩⟩
                       ·replace c36 := Bool.eq_false_iff.mpr c36
                        subst c36
                        have H1 : (plnref3_from.l2 k4 a2 (x7_4.set ((rd t233 x11_4) : Int).toNat true) true x9_3 t233 (wrap64 (x11_4 + 1)) a0_0 a0_1 l0_2 a0_3 l0_4) = some r := by rw [if_neg (show ¬ (false = true) by decide)] at H; exact H
                        clear H; have H := H1; clear H1
                        obtain ⟨y240, hy240⟩ : ∃ y_ : List Bool, y_ = (x7_4.set ((rd t233 x11_4) : Int).toNat true) := ⟨_, rfl⟩
                        replace H : (plnref3_from.l2 k4 a2 y240 true x9_3 t233 (wrap64 (x11_4 + 1)) a0_0 a0_1 l0_2 a0_3 l0_4) = some r := by first | (rw [hy240]; with_reducible exact H) | (have H2_ := (Option.bind_some _ _).symm.trans H; rw [hy240]; with_reducible exact H2_) | (have H2_ := (Option.bind_some _ _).symm.trans H; with_reducible exact H2_) | with_reducible exact H | (rw [hy240]; exact H) | exact H
                        have Ny240 := Aside0.mk hy240
                        clear hy240
                        have H' := Aside0.mk H
                        clear H
                        obtain ⟨Ao39, co39, eo39⟩ := Kd.R_slice HO_10.out
                        subst eo39
                        have p236 : 0 ≤ (x11_4 : Int) := of_decide_eq_true (by first | (with_reducible assumption) | assumption)
                        have q236 : x11_4 < (t233.length : Int) := of_decide_eq_true (by first | (with_reducible assumption) | assumption)
                        obtain ⟨ad236, e236, hx236_0⟩ := Kd.at_int (Kd.R_reads' HO_10.out).2.2 x11_4 p236 q236
                        cases e236
                        replace p236 := eq_true p236
                        replace q236 := eq_true q236
                        have p237 : 0 ≤ (x11_4 : Int) := of_decide_eq_true (by first | (with_reducible assumption) | assumption)
                        have q237 : x11_4 < (t233.length : Int) := of_decide_eq_true (by first | (with_reducible assumption) | assumption)
                        obtain ⟨ad237, e237, hx237_0⟩ := Kd.at_int (Kd.R_reads' HO_10.out).2.2 x11_4 p237 q237
                        obtain rfl : ad236 = ad237 := (by injection e237)
                        replace p237 := eq_true p237
                        replace q237 := eq_true q237
                        have p238 : 0 ≤ ((rd t233 x11_4) : Int) := of_decide_eq_true (by first | (with_reducible assumption) | assumption)
                        have q238 : (rd t233 x11_4) < (x7_4.length : Int) := of_decide_eq_true (by first | (with_reducible assumption) | assumption)
                        obtain ⟨ad238, e238, hx238_0⟩ := Kd.at_bool (Kd.R_reads' HO_7.out).2.2 (rd t233 x11_4) p238 q238
                        (try rw [← Nbq24.out] at hx238_0)
                        (try rw [← Nbq35.out] at hx238_0)
                        obtain rfl : (⟨go18, 0, none⟩ : Addr) = ad238 := (by injection e238)
                        (first | simp only [add_plain] at hx238_0 | simp only [add_at] at hx238_0 | simp only [Addr.add, Nat.zero_add] at hx238_0 | skip)
                        replace p238 := eq_true p238
                        replace q238 := eq_true q238
                        have p239 : 0 ≤ (x11_4 : Int) := of_decide_eq_true (by first | (with_reducible assumption) | assumption)
                        have q239 : x11_4 < (t233.length : Int) := of_decide_eq_true (by first | (with_reducible assumption) | assumption)
                        obtain ⟨ad239, e239, hx239_0⟩ := Kd.at_int (Kd.R_reads' HO_10.out).2.2 x11_4 p239 q239
                        obtain rfl : ad236 = ad239 := (by injection e239)
                        replace p239 := eq_true p239
                        replace q239 := eq_true q239
                        have p38 : 0 ≤ ((rd t233 x11_4) : Int) := of_decide_eq_true (by first | (with_reducible assumption) | assumption)
                        have q38 : ((rd t233 x11_4) : Int) < ((x7_4.length : Int) : Int) := of_decide_eq_true (by first | (with_reducible assumption) | assumption)
                        obtain ⟨hx38_0, hf38_0⟩ := Kd.R_celln false HO_7.out ((rd t233 x11_4) : Int) p38 q38
                        replace p38 := eq_true p38
                        replace q38 := eq_true q38
                        have HP40 := Kd.R_putg HO_7.out ((rd t233 x11_4) : Int) true
                        go_wp2_with (first | ((with_reducible refine gate_store (t := 4) (p := 75) rfl ?_); refine store_event (t := 4) (p := 75) (v := ?vo_w41) (w1 := (wr.setCell ⟨go18, ((rd t233 x11_4) : Int).toNat, none⟩ (.bool true))) ?hg ?ho ?hn ?hr ?_; (case ho => rfl); (case hg => rfl); (case hn => rfl); (case hr => first | (go_simp; done) | (go_simp; rfl)); intro w41 hw; have hg : wr.grownBy w41 (some go18) := (by rw [hw]; exact HP40.2); have hp_ : Kd.R Kd.bool 4 w41 w.heap.size (fun _ => True) (.slice (some ⟨go18, 0, none⟩) x7_4.length co18) y240 := (by rw [hw, Ny240.out]; exact HP40.1); clear HP40; have n0_ := Aside0.mk (hp_); have n1_ := Aside0.mk (Kd.R_over' (v := (.slice (some ⟨go18, 0, none⟩) x7_4.length co18)) (by (with_reducible repeat (first | apply Kd.R_alloc | apply Kd.R_drewN | apply Kd.R_drew)); exact HO_10.out) (Kd.R_typed HO_7.out) (by decide) hg); have n2_ := Aside0.mk (blk_grown (g := gb227) (o := .cells #[.string a0_0, .bool a0_1, .slice A0_2 l0_2.length c0_2, .int .i64 a0_3, .slice A0_4 l0_4.length c0_4] 25 (0, 0)) (by (with_reducible repeat (first | refine blk_drewN ?_ _ | refine blk_drew ?_ | refine blk_alloc ?_ _)); exact BK227.out) hg (Kd.R_ne HO_7.out BK227.out (by decide))); have n3_ := Aside0.mk ((by rw [hw]; exact below_set (HB.out) GB18.out : Below w.heap.size w w41)); clear HO_7; clear HO_10; clear BK227; clear HB; have HO_7 := n0_; have HO_10 := n1_; have BK227 := n2_; have HB := n3_; clear n0_ n1_ n2_ n3_; clear hg hw hp_))
                        (try simp only [← hl7_4])
                        go_roundg k4
                        case measure => have := HJ5.out; have := HK2.out; have := HK3.out; have := HK4.out; omega
                        case rel => exact ⟨(y240), (true), (wrap64 (x11_4 + 1)), (by first | rfl | (simp; done) | (simp [*]; done)), (by first | rfl | (simp; done) | (simp [*]; done)), H', ⟨by have := HJ5.out; have := HK2.out; have := HK3.out; have := HK4.out; omega⟩, ⟨by (try simp only [hl7_2]); (try simp only [hl7_3]); (try simp only [hl7_4]); (with_reducible repeat (first | apply Kd.R_alloc | apply Kd.R_drewN | apply Kd.R_drew)); exact HO_7.out⟩, ⟨by (try simp only [hl7_2]); (try simp only [hl7_3]); (try simp only [hl7_4]); (with_reducible repeat (first | apply Kd.R_alloc | apply Kd.R_drewN | apply Kd.R_drew)); exact HO_10.out⟩, ⟨by (try simp only [hl7_2]); (try simp only [hl7_3]); (try simp only [hl7_4]); (with_reducible repeat (first | refine blk_drewN ?_ _ | refine blk_drew ?_ | refine blk_alloc ?_ _)); exact BK227.out⟩, ⟨by repeat (first | (with_reducible first | exact HB.out | apply below_alloc | apply pw_below_drewN | apply below_drew1 | refine below_set ?_ GE227.out) | exact HB.out)⟩⟩
                      ·rw [if_neg c34] at H
                       exact absurd H (by simp)
                     ·rw [if_neg c33] at H
                      exact absurd H (by simp)
                   ·rw [if_neg c30] at H
                    exact absurd H (by simp)
                  ·rw [if_neg c29] at H
                   have c29b0 : decide (x11_4 < (t233.length : Int)) = false := decide_eq_false c29
                   clear c29
                   have H' := Aside0.mk H
                   clear H
                   obtain ⟨Ao42, co42, eo42⟩ := Kd.R_slice HO_10.out
                   subst eo42
                   go_wp2
                   (try simp only [← hl7_3, ← hl7_4])
                   go_roundg k4
                   case measure => have := HJ5.out; have := HK2.out; have := HK3.out; have := HK4.out; omega
                   case rel => exact ⟨(x7_4), (x8_4), (wrap64 (x9_3 + 1)), (by first | rfl | (simp; done) | (simp [*]; done)), (by first | rfl | (simp; done) | (simp [*]; done)), H', ⟨by have := HJ5.out; have := HK2.out; have := HK3.out; have := HK4.out; omega⟩, ⟨by (try simp only [hl7_2]); (try simp only [hl7_3]); (try simp only [hl7_4]); (with_reducible repeat (first | apply Kd.R_alloc | apply Kd.R_drewN | apply Kd.R_drew)); exact HO_7.out⟩, ⟨by (try simp only [hl7_2]); (try simp only [hl7_3]); (try simp only [hl7_4]); (with_reducible repeat (first | refine blk_drewN ?_ _ | refine blk_drew ?_ | refine blk_alloc ?_ _)); exact BK227.out⟩, ⟨by repeat (first | (with_reducible first | exact HB.out | apply below_alloc | apply pw_below_drewN | apply below_drew1 | refine below_set ?_ GE227.out) | exact HB.out)⟩⟩
               ·replace c25 := Bool.eq_false_iff.mpr c25
                subst c25
                have H1 : (plnref3_from.l1 k3 a2 x7_3 x8_3 (wrap64 (x9_3 + 1)) a0_0 a0_1 l0_2 a0_3 l0_4) = some r := by rw [if_neg (show ¬ (false = true) by decide)] at H; exact H
                clear H; have H := H1; clear H1
                have H' := Aside0.mk H
                clear H
                have p232 : 0 ≤ (x9_3 : Int) := of_decide_eq_true (by first | (with_reducible assumption) | assumption)
                have q232 : x9_3 < (x7_3.length : Int) := of_decide_eq_true (by first | (with_reducible assumption) | assumption)
                obtain ⟨ad232, e232, hx232_0⟩ := Kd.at_bool (Kd.R_reads' HO_7.out).2.2 x9_3 p232 q232
                (try rw [← Nbq24.out] at hx232_0)
                obtain rfl : (⟨go18, 0, none⟩ : Addr) = ad232 := (by injection e232)
                (first | simp only [add_plain] at hx232_0 | simp only [add_at] at hx232_0 | simp only [Addr.add, Nat.zero_add] at hx232_0 | skip)
                replace p232 := eq_true p232
                replace q232 := eq_true q232
                go_wp2
                (try simp only [← hl7_3])
                go_roundg k3
                case measure => have := HJ5.out; have := HK2.out; have := HK3.out; omega
                case rel => exact ⟨(x7_3), (x8_3), (wrap64 (x9_3 + 1)), (by first | rfl | (simp; done) | (simp [*]; done)), (by first | rfl | (simp; done) | (simp [*]; done)), H', ⟨by have := HJ5.out; have := HK2.out; have := HK3.out; omega⟩, ⟨by (try simp only [hl7_2]); (try simp only [hl7_3]); (with_reducible repeat (first | apply Kd.R_alloc | apply Kd.R_drewN | apply Kd.R_drew)); exact HO_7.out⟩, ⟨by (try simp only [hl7_2]); (try simp only [hl7_3]); (with_reducible repeat (first | refine blk_drewN ?_ _ | refine blk_drew ?_ | refine blk_alloc ?_ _)); exact BK227.out⟩, ⟨by repeat (first | (with_reducible first | exact HB.out | apply below_alloc | apply pw_below_drewN | apply below_drew1 | refine below_set ?_ GE227.out) | exact HB.out)⟩⟩
              ·rw [if_neg c23] at H
               exact absurd H (by simp)
             ·rw [if_neg c22] at H
              have c22b0 : decide (x9_3 < (x7_3.length : Int)) = false := decide_eq_false c22
              clear c22
              have H' := Aside0.mk H
              clear H
              go_wp2
              (try simp only [← hl7_2, ← hl7_3])
              go_roundg k3
              case measure => have := HJ5.out; have := HK2.out; have := HK3.out; omega
              case rel => exact ⟨(x7_3), (x8_3), (by first | rfl | (simp; done) | (simp [*]; done)), H', ⟨by have := HJ5.out; have := HK2.out; have := HK3.out; omega⟩, ⟨by (try simp only [hl7_2]); (try simp only [hl7_3]); (with_reducible repeat (first | apply Kd.R_alloc | apply Kd.R_drewN | apply Kd.R_drew)); exact HO_7.out⟩, ⟨by (try simp only [hl7_2]); (try simp only [hl7_3]); (with_reducible repeat (first | refine blk_drewN ?_ _ | refine blk_drew ?_ | refine blk_alloc ?_ _)); exact BK227.out⟩, ⟨by repeat (first | (with_reducible first | exact HB.out | apply below_alloc | apply pw_below_drewN | apply below_drew1 | refine below_set ?_ GE227.out) | exact HB.out)⟩⟩
          ·replace c21 := Bool.eq_false_iff.mpr c21
           subst c21
           have H1 : (some x7_2) = some r := by rw [if_neg (show ¬ (false = true) by decide)] at H; exact H
           clear H; have H := H1; clear H1
           obtain rfl := Option.some.inj H
           go_wp2
           go_ret
           exact ⟨_, by first | rfl | (simp [errW_none, errW_some] <;> rfl) | (simp [*, errW_none, errW_some] <;> rfl), by (with_reducible repeat (first | apply Kd.R_alloc | apply Kd.R_drewN | apply Kd.R_drew)); exact HO_7.out, by repeat (first | (with_reducible first | exact HB.out | apply below_alloc | apply pw_below_drewN | apply below_drew1 | refine below_set ?_ GE227.out) | exact HB.out)⟩
       ·rw [if_neg c17] at H
        exact absurd H (by simp)
      ·rw [if_neg c16] at H
       exact absurd H (by simp)
  ·rw [if_neg c5] at H
   exact absurd H (by simp)
 ·rw [if_neg c4] at H
  exact absurd H (by simp)
end Go.Proofs.Ytkcimaibaicdcaa.P
