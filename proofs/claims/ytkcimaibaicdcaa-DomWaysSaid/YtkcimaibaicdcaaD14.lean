/- A part of the proof of the law of DomWays: lemmas and walks, out of this session's texts, with what the claim does not use struck out. -/
import Derived.Test.YtkcimaibaicdcaaD6
import Derived.Test.YtkcimaibaicdcaaD11
import Derived.Test.YtkcimaibaicdcaaD12
import Derived.Test.YtkcimaibaicdcaaD13
namespace Go.Proofs.Ytkcimaibaicdcaa.P
open Go.RowKit Go.Proofs.YtkcimaibaicdcaaW.PrintWords Go.Proofs.YtkcimaibaicdcaaW.PrintLast Go.Proofs.YtkcimaibaicdcaaW.PrintMore
attribute [local go_sem] max2_int min2_int max_two min_two max_three min_three max_four min_four   
set_option linter.unusedVariables false
set_option linter.unusedSimpArgs false
mutual
def dom_over.l0 : Nat → Int → List (List Int) → Int → Int → ByteArray → Bool → List Int → Int → List (S54) → Option ((List (List Bool)))
 | 0, _, _, _, _, _, _, _, _, _ => none
 | k + 1, x3, x4, x16, x17, x410000, x410001, x410002, x410003, x410004 => if x17 < x16 then ((flow_Next.f k x410000 x410001 x410002 x410003 x410004 x17).bind fun t413 => (if 0 ≤ x17 then (if x17 < (x4.length : Int) then (dom_over.l0 k x3 (x4.set (x17 : Int).toNat t413) x16 (wrap64 (x17 + 1)) x410000 x410001 x410002 x410003 x410004) else (none)) else (none))) else ((flow_Reach.f k x410000 x410001 x410002 x410003 x410004).bind fun t417 => (if 0 ≤ x3 then (if (x3 : Int).toNat ≤ 11728124029610 then (dom_over.l1 k x3 x4 t417 (List.replicate (x3 : Int).toNat []) x3 0) else (none)) else (none)))
def dom_over.l1 : Nat → Int → List (List Int) → List Bool → List (List Bool) → Int → Int → Option ((List (List Bool)))
 | 0, _, _, _, _, _, _ => none
 | k + 1, x3, x4, x6, x7, x31, x32 => if x32 < x31 then (if 0 ≤ x3 then (if (x3 : Int).toNat ≤ 281474976710656 then (if 0 ≤ x32 then (if x32 < (x7.length : Int) then ((some (x7.set (x32 : Int).toNat (List.replicate (x3 : Int).toNat false) : List (List Bool))).bind fun y426 => (if x32 < (x6.length : Int) then (if rdOf false x6 x32 = true then ((dom_without.f k x4 x32).bind fun t428 => (dom_over.l2 k x3 x4 x6 y426 x32 t428 x31 x32 x3 0)) else (dom_over.l1 k x3 x4 x6 y426 x31 (wrap64 (x32 + 1)))) else (none))) else (none)) else (none)) else (none)) else (none)) else (some x7)
def dom_over.l2 : Nat → Int → List (List Int) → List Bool → List (List Bool) → Int → List Bool → Int → Int → Int → Int → Option ((List (List Bool)))
 | 0, _, _, _, _, _, _, _, _, _, _ => none
 | k + 1, x3, x4, x6, x7, x8, x9, x31, x32, x48, x49 => if x49 < x48 then (if 0 ≤ x8 then (if x8 < (x7.length : Int) then (if 0 ≤ x49 then (if x49 < (x6.length : Int) then (if rdOf false x6 x49 = true then (if x49 < (x9.length : Int) then (if x49 < ((rd_L9 x7 x8).length : Int) then (dom_over.l2 k x3 x4 x6 (x7.set (x8 : Int).toNat ((rd_L9 x7 x8).set (x49 : Int).toNat (!(rdOf false x9 x49)))) x8 x9 x31 x32 x48 (wrap64 (x49 + 1))) else (none)) else (none)) else (if x49 < ((rd_L9 x7 x8).length : Int) then (dom_over.l2 k x3 x4 x6 (x7.set (x8 : Int).toNat ((rd_L9 x7 x8).set (x49 : Int).toNat false)) x8 x9 x31 x32 x48 (wrap64 (x49 + 1))) else (none))) else (none)) else (none)) else (none)) else (none)) else (dom_over.l1 k x3 x4 x6 x7 x31 (wrap64 (x32 + 1)))
end
def dom_over.f (k : Nat) (a0_0 : ByteArray) (a0_1 : Bool) (l0_2 : List Int) (a0_3 : Int) (l0_4 : List (S54)) : Option ((List (List Bool))) := if 0 ≤ (l0_4.length : Int) then (if ((l0_4.length : Int) : Int).toNat ≤ 11728124029610 then (dom_over.l0 k (l0_4.length : Int) (List.replicate ((l0_4.length : Int) : Int).toNat []) (l0_4.length : Int) 0 a0_0 a0_1 l0_2 a0_3 l0_4) else (none)) else (none)
theorem dom_over.mono_l : ∀ k, (∀ y0 y1 y2 y3 y4 y5 y6 y7 y8, LeO (dom_over.l0 k y0 y1 y2 y3 y4 y5 y6 y7 y8) (dom_over.l0 (k + 1) y0 y1 y2 y3 y4 y5 y6 y7 y8)) ∧ (∀ y0 y1 y2 y3 y4 y5, LeO (dom_over.l1 k y0 y1 y2 y3 y4 y5) (dom_over.l1 (k + 1) y0 y1 y2 y3 y4 y5)) ∧ (∀ y0 y1 y2 y3 y4 y5 y6 y7 y8 y9, LeO (dom_over.l2 k y0 y1 y2 y3 y4 y5 y6 y7 y8 y9) (dom_over.l2 (k + 1) y0 y1 y2 y3 y4 y5 y6 y7 y8 y9))
 | 0 => ⟨fun _ _ _ _ _ _ _ _ _ r h => by simp [dom_over.l0] at h, fun _ _ _ _ _ _ r h => by simp [dom_over.l1] at h, fun _ _ _ _ _ _ _ _ _ _ r h => by simp [dom_over.l2] at h⟩
 | k + 1 => by
  obtain ⟨ih0, ih1, ih2⟩ := dom_over.mono_l k
  refine ⟨?_, ?_, ?_⟩
  ·intro y0 y1 y2 y3 y4 y5 y6 y7 y8
   unfold dom_over.l0
   repeat' first
   | (with_reducible exact ih0 _ _ _ _ _ _ _ _ _)
   | (with_reducible exact ih1 _ _ _ _ _ _)
   | (with_reducible exact ih2 _ _ _ _ _ _ _ _ _ _)
   | (with_reducible exact dom_without.mono _ _ _)
   | (with_reducible exact flow_Next.mono _ _ _ _ _ _ _)
   | (with_reducible exact flow_Reach.mono _ _ _ _ _ _)
   | (with_reducible exact LeO.refl _)
   | (with_reducible exact LeO.none _)
   | (with_reducible refine LeO.ite ?_ ?_)
   | (with_reducible refine LeO.bind ?_ (fun _ => ?_))
   | exact ih0 _ _ _ _ _ _ _ _ _
   | exact ih1 _ _ _ _ _ _
   | exact ih2 _ _ _ _ _ _ _ _ _ _
   | exact dom_without.mono _ _ _
   | exact flow_Next.mono _ _ _ _ _ _ _
   | exact flow_Reach.mono _ _ _ _ _ _
   | exact LeO.none _
   | refine LeO.ite ?_ ?_
   | refine LeO.bind ?_ (fun _ => ?_)
  ·intro y0 y1 y2 y3 y4 y5
   unfold dom_over.l1
   repeat' first
   | (with_reducible exact ih0 _ _ _ _ _ _ _ _ _)
   | (with_reducible exact ih1 _ _ _ _ _ _)
   | (with_reducible exact ih2 _ _ _ _ _ _ _ _ _ _)
   | (with_reducible exact dom_without.mono _ _ _)
   | (with_reducible exact flow_Next.mono _ _ _ _ _ _ _)
   | (with_reducible exact flow_Reach.mono _ _ _ _ _ _)
   | (with_reducible exact LeO.refl _)
   | (with_reducible exact LeO.none _)
   | (with_reducible refine LeO.ite ?_ ?_)
   | (with_reducible refine LeO.bind ?_ (fun _ => ?_))
   | exact ih0 _ _ _ _ _ _ _ _ _
   | exact ih1 _ _ _ _ _ _
   | exact ih2 _ _ _ _ _ _ _ _ _ _
   | exact dom_without.mono _ _ _
   | exact flow_Next.mono _ _ _ _ _ _ _
   | exact flow_Reach.mono _ _ _ _ _ _
   | exact LeO.none _
   | refine LeO.ite ?_ ?_
   | refine LeO.bind ?_ (fun _ => ?_)
  ·intro y0 y1 y2 y3 y4 y5 y6 y7 y8 y9
   unfold dom_over.l2
   repeat' first
   | (with_reducible exact ih0 _ _ _ _ _ _ _ _ _)
   | (with_reducible exact ih1 _ _ _ _ _ _)
   | (with_reducible exact ih2 _ _ _ _ _ _ _ _ _ _)
   | (with_reducible exact dom_without.mono _ _ _)
   | (with_reducible exact flow_Next.mono _ _ _ _ _ _ _)
   | (with_reducible exact flow_Reach.mono _ _ _ _ _ _)
   | (with_reducible exact LeO.refl _)
   | (with_reducible exact LeO.none _)
   | (with_reducible refine LeO.ite ?_ ?_)
   | (with_reducible refine LeO.bind ?_ (fun _ => ?_))
   | exact ih0 _ _ _ _ _ _ _ _ _
   | exact ih1 _ _ _ _ _ _
   | exact ih2 _ _ _ _ _ _ _ _ _ _
   | exact dom_without.mono _ _ _
   | exact flow_Next.mono _ _ _ _ _ _ _
   | exact flow_Reach.mono _ _ _ _ _ _
   | exact LeO.none _
   | refine LeO.ite ?_ ?_
   | refine LeO.bind ?_ (fun _ => ?_)
theorem dom_over.mono : ∀ a0 a1 a2 a3 a4 k, LeO (dom_over.f k a0 a1 a2 a3 a4) (dom_over.f (k + 1) a0 a1 a2 a3 a4) := by
 intro a0 a1 a2 a3 a4 k
 obtain ⟨ih0, ih1, ih2⟩ := dom_over.mono_l k
 unfold dom_over.f
 repeat' first
   | (with_reducible exact ih0 _ _ _ _ _ _ _ _ _)
   | (with_reducible exact ih1 _ _ _ _ _ _)
   | (with_reducible exact ih2 _ _ _ _ _ _ _ _ _ _)
   | (with_reducible exact dom_without.mono _ _ _)
   | (with_reducible exact flow_Next.mono _ _ _ _ _ _ _)
   | (with_reducible exact flow_Reach.mono _ _ _ _ _ _)
   | (with_reducible exact LeO.refl _)
   | (with_reducible exact LeO.none _)
   | (with_reducible refine LeO.ite ?_ ?_)
   | (with_reducible refine LeO.bind ?_ (fun _ => ?_))
   | exact ih0 _ _ _ _ _ _ _ _ _
   | exact ih1 _ _ _ _ _ _
   | exact ih2 _ _ _ _ _ _ _ _ _ _
   | exact dom_without.mono _ _ _
   | exact flow_Next.mono _ _ _ _ _ _ _
   | exact flow_Reach.mono _ _ _ _ _ _
   | exact LeO.none _
   | refine LeO.ite ?_ ?_
   | refine LeO.bind ?_ (fun _ => ?_)
def dom_over.T19 : Bool × List (List Nat × List Nat) := (true, [([], []), ([], []), ([0, 1], [0, 1]), ([2], [2]), ([], []), ([], []), ([], []), ([5, 6], [5, 6]), ([7], [7]), ([8], [8]), ([9], [9]), ([9], [9]), ([10, 11, 9], [9, 10, 11]), ([12, 9], [9, 12]), ([13, 9], [9, 13]), ([9, 14], [9, 14]), ([3, 4, 0, 1, 2, 3, 4, 5, 6, 7, 8, 9, 10, 11, 12, 13, 14, 15], [3, 4]), ([16, 15, 9, 0, 1, 2, 3, 4, 5, 6, 7, 8, 9, 10, 11, 12, 13, 14, 15], [15, 16])])
def dom_over.B19 : List Nat := [0, 0, 3, 7, 0, 0, 0, 96, 224, 480, 992, 992, 4064, 8160, 16352, 32736, 65535, 131071]
theorem dom_over.tab19 : rtab .any (opsOf Try.f68 19) = dom_over.T19 := by kernel_rfl
theorem dom_over.bits19 : waitsOk dom_over.T19.2 dom_over.B19 = true := by kernel_rfl
set_option maxHeartbeats 8000000 in
set_option maxRecDepth 100000 in
theorem dom_over.calls (k : Nat) (a0_0 : ByteArray) (a0_1 : Bool) (A0_2 : Option Addr) (c0_2 : Nat) (l0_2 : List Int) (a0_3 : Int) (A0_4 : Option Addr) (c0_4 : Nat) (l0_4 : List (S54)) (r : List (List Bool)) (w : World) (hr0_2 : Kd.C (Kd.int .i64) w A0_2 l0_2.length l0_2) (hc0_2 : l0_2.length ≤ c0_2) (hr0_4 : Kd.C k54 w A0_4 l0_4.length l0_4) (hc0_4 : l0_4.length ≤ c0_4) (h : dom_over.f k a0_0 a0_1 l0_2 a0_3 l0_4 = some r) :
  Calls Try.prog 68 #[.agg #[.string a0_0, .bool a0_1, .slice A0_2 l0_2.length c0_2, .int .i64 a0_3, .slice A0_4 l0_4.length c0_4]] w fun e w' => ∃ v0_ : Value, e = .returned (v0_) ∧ Kd.S (Kd.slice 4 Kd.bool) 34 w' w.heap.size (fun _ => True) v0_ r ∧ Below w.heap.size w w' := by
 have hu25 := Try.underlying25
 have HR0_2 := Aside0.mk hr0_2
 have HC0_2 := Aside0.mk hc0_2
 clear hr0_2 hc0_2
 have HR0_4 := Aside0.mk hr0_4
 have HC0_4 := Aside0.mk hc0_4
 clear hr0_4 hc0_4; have HB := Aside0.mk (Below.refl w.heap.size w)
 have H : (if 0 ≤ (l0_4.length : Int) then (if ((l0_4.length : Int) : Int).toNat ≤ 11728124029610 then (dom_over.l0 k (l0_4.length : Int) (List.replicate ((l0_4.length : Int) : Int).toNat []) (l0_4.length : Int) 0 a0_0 a0_1 l0_2 a0_3 l0_4) else (none)) else (none)) = some r := h
 clear h
 by_cases c2 : 0 ≤ (l0_4.length : Int)
 ·rw [if_pos c2] at H
  have c2b0 := eq_true c2
  have c2b1 : decide (0 ≤ (l0_4.length : Int)) = true := decide_eq_true c2
  clear c2
  by_cases c3 : ((l0_4.length : Int) : Int).toNat ≤ 11728124029610
  ·rw [if_pos c3] at H
   have c3b0 := eq_true c3
   have c3b1 : decide (((l0_4.length : Int) : Int).toNat ≤ 11728124029610) = true := decide_eq_true c3
   clear c3
   obtain ⟨y410, hy410⟩ : ∃ y_ : List (List Int), y_ = (List.replicate ((l0_4.length : Int) : Int).toNat []) := ⟨_, rfl⟩
   replace H : (dom_over.l0 k (l0_4.length : Int) y410 (l0_4.length : Int) 0 a0_0 a0_1 l0_2 a0_3 l0_4) = some r := by first | (rw [hy410]; with_reducible exact H) | (have H2_ := (Option.bind_some _ _).symm.trans H; rw [hy410]; with_reducible exact H2_) | (have H2_ := (Option.bind_some _ _).symm.trans H; with_reducible exact H2_) | with_reducible exact H | (rw [hy410]; exact H) | exact H
   have Ny410 := Aside0.mk hy410
   clear hy410
   have H' := Aside0.mk H
   clear H
   go_enter Try.func68, Try.ntmps68
   go_wp2_with (first | ((with_reducible refine gate_dst (N := 1) rfl ?_); refine box_event ?hg (N := 1) ?hd (cs := #[.string a0_0, .bool a0_1, .slice A0_2 l0_2.length c0_2, .int .i64 a0_3, .slice A0_4 l0_4.length c0_4]) (t := 25) ?hr ?_; (case hd => rfl); (case hg => rfl); (case hr => first | (go_simp; done) | (go_simp; rfl)); intro gb409 hg w4 hbox hb; have n0_ := Aside0.mk (below_step (by repeat (first | (with_reducible first | exact HB.out | apply below_alloc | apply pw_below_drewN | apply below_drew1) | exact HB.out)) hb); have n1_ := Aside0.mk (hbox); have n2_ := Aside0.mk ((by rw [hg]; exact (below_size (by repeat (first | (with_reducible first | exact HB.out | apply below_alloc | apply pw_below_drewN | apply below_drew1) | exact HB.out))) : w.heap.size ≤ gb409)); have n3_ := Aside0.mk ((by rw [hg]; exact (below_size (by repeat (first | (with_reducible first | exact HB.out | apply below_alloc | apply pw_below_drewN | apply below_drew1) | exact HB.out))) : w.heap.size ≤ gb409)); clear HB; have HB := n0_; have BK409 := n1_; have GW409 := n2_; have GE409 := n3_; clear n0_ n1_ n2_ n3_; clear hb hbox hg; have hcz5_0 : w4.cell? ⟨gb409, 0, none⟩ = some (.string a0_0) := (blk_cell BK409.out 0).trans rfl; have hcz5_1 : w4.cell? ⟨gb409, 1, none⟩ = some (.bool a0_1) := (blk_cell BK409.out 1).trans rfl; have hcz5_2 : w4.cell? ⟨gb409, 2, none⟩ = some (.slice A0_2 l0_2.length c0_2) := (blk_cell BK409.out 2).trans rfl; have hcz5_3 : w4.cell? ⟨gb409, 3, none⟩ = some (.int .i64 a0_3) := (blk_cell BK409.out 3).trans rfl; have hcz5_4 : w4.cell? ⟨gb409, 4, none⟩ = some (.slice A0_4 l0_4.length c0_4) := (blk_cell BK409.out 4).trans rfl; have hfz5_0 := blk_frozen BK409.out 0; have hfz5_1 := blk_frozen BK409.out 1; have hfz5_2 := blk_frozen BK409.out 2; have hfz5_3 := blk_frozen BK409.out 3; have hfz5_4 := blk_frozen BK409.out 4) | ((with_reducible refine gate_dst (N := 15) rfl ?_); refine Kd.S_make (Kd.slice 3 (Kd.int .i64)) _ 22 rfl (N := 15) rfl 31 _ _ rfl (l0_4.length : Int) rfl rfl Try.underlying31 (.slice none 0 0) 24 info22 rfl (by decide) (by omega) [] (ok := fun _ => True) (okp := fun _ => True) ⟨_, rfl, Kd.R_nil _ _ _ _ _⟩ (fun _ hk => hk) trivial (of_decide_eq_true (by first | (with_reducible assumption) | assumption)) (Nat.le_trans (Nat.mul_le_mul_right _ (of_decide_eq_true (by first | (with_reducible assumption) | assumption) : (l0_4.length : Int).toNat ≤ 11728124029610)) (by omega)) (Below.refl _ _) (Nat.le_refl _) ?_; intro v411 w6 ho7 hb hg_ hnew_; clear hg_ hnew_; (first | rw [← Ny410.out] at ho7 | (simp only [Int.reduceToNat] at ho7; rw [← Ny410.out] at ho7)); have n0_ := Aside0.mk (Kd.S_lower ho7 (below_size (by repeat (first | (with_reducible first | exact HB.out | apply below_alloc | apply pw_below_drewN | apply below_drew1 | refine below_set ?_ GE409.out) | exact HB.out)))); have n1_ := Aside0.mk (blk_below (g := gb409) (o := .cells #[.string a0_0, .bool a0_1, .slice A0_2 l0_2.length c0_2, .int .i64 a0_3, .slice A0_4 l0_4.length c0_4] 25 (0, 0)) (by (with_reducible repeat (first | refine blk_drewN ?_ _ | refine blk_drew ?_ | refine blk_alloc ?_ _)); exact BK409.out) hb); have n2_ := Aside0.mk (below_step (by repeat (first | (with_reducible first | exact HB.out | apply below_alloc | apply pw_below_drewN | apply below_drew1 | refine below_set ?_ GE409.out) | exact HB.out)) hb); clear BK409; clear HB; have HO412 := n0_; have BK409 := n1_; have HB := n2_; clear n0_ n1_ n2_; clear hb ho7))
   go_loopg [17] k (fun kq v17 w' => ∃ (x4_1 : List (List Int)) (x17_1 : Int), v17 = .int .i64 x17_1 ∧ Aside0 (dom_over.l0 kq (l0_4.length : Int) x4_1 (l0_4.length : Int) x17_1 a0_0 a0_1 l0_2 a0_3 l0_4 = some r) ∧ Aside0 (kq ≤ k) ∧ Aside0 (Kd.S (Kd.slice 3 (Kd.int .i64)) 22 w' w.heap.size (fun _ => True) v411 x4_1) ∧ Aside0 (w'.heap[gb409]? = some (.cells #[.string a0_0, .bool a0_1, (.slice A0_2 l0_2.length c0_2), .int .i64 a0_3, (.slice A0_4 l0_4.length c0_4)] 25 (0, 0))) ∧ Aside0 (Below w.heap.size w w'))
   case atStart => exact ⟨(y410), (0), (by first | rfl | (simp; done) | (simp [*]; done)), H', ⟨Nat.le_refl _⟩, ⟨by (with_reducible repeat (first | apply Kd.S_alloc | apply Kd.S_drewN | apply Kd.S_drew)); exact HO412.out⟩, ⟨by (with_reducible repeat (first | refine blk_drewN ?_ _ | refine blk_drew ?_ | refine blk_alloc ?_ _)); exact BK409.out⟩, ⟨by repeat (first | (with_reducible first | exact HB.out | apply below_alloc | apply pw_below_drewN | apply below_drew1 | refine below_set ?_ GE409.out) | exact HB.out)⟩⟩
   case round =>
    clear H'
    try clear c2
    try clear c2b0
    try clear c2b1
    try clear p2
    try clear c3
    try clear c3b0
    try clear c3b1
    try clear c6
    try clear hcz5_0
    try clear hcz5_1
    try clear hcz5_2
    try clear hcz5_3
    try clear hcz5_4
    try clear hfz5_0
    try clear hfz5_1
    try clear hfz5_2
    try clear hfz5_3
    try clear hfz5_4
    obtain ⟨x4_1, x17_1, rfl, HA, HK1, HO_4, BK409, HB⟩ := hrel
    cases gk with
    | zero => exact absurd HA.out (by simp [dom_over.l0])
    | succ k1 =>
     have H := HA.out
     clear HA
     simp only [dom_over.l0] at H
     by_cases c8 : x17_1 < (l0_4.length : Int)
     ·rw [if_pos c8] at H
      have c8b0 : decide (x17_1 < (l0_4.length : Int)) = true := decide_eq_true c8
      clear c8
      replace H := Option.bind_eq_some_iff.mp H
      obtain ⟨t413, A90, H⟩ := H
      replace H : (if 0 ≤ x17_1 then (if x17_1 < (x4_1.length : Int) then (dom_over.l0 k1 (l0_4.length : Int) (x4_1.set (x17_1 : Int).toNat t413) (l0_4.length : Int) (wrap64 (x17_1 + 1)) a0_0 a0_1 l0_2 a0_3 l0_4) else (none)) else (none)) = some r := H
      have A9 := Aside0.mk A90
      clear A90
      by_cases c10 : 0 ≤ x17_1
      ·rw [if_pos c10] at H
       have c10b0 : decide (0 ≤ x17_1) = true := decide_eq_true c10
       clear c10
       by_cases c11 : x17_1 < (x4_1.length : Int)
       ·rw [if_pos c11] at H
        have c11b0 : decide (x17_1 < (x4_1.length : Int)) = true := decide_eq_true c11
        clear c11
        obtain ⟨y416, hy416⟩ : ∃ y_ : List (List Int), y_ = (x4_1.set (x17_1 : Int).toNat t413) := ⟨_, rfl⟩
        replace H : (dom_over.l0 k1 (l0_4.length : Int) y416 (l0_4.length : Int) (wrap64 (x17_1 + 1)) a0_0 a0_1 l0_2 a0_3 l0_4) = some r := by first | (rw [hy416]; with_reducible exact H) | (have H2_ := (Option.bind_some _ _).symm.trans H; rw [hy416]; with_reducible exact H2_) | (have H2_ := (Option.bind_some _ _).symm.trans H; with_reducible exact H2_) | with_reducible exact H | (rw [hy416]; exact H) | exact H
        have Ny416 := Aside0.mk hy416
        clear hy416
        have H' := Aside0.mk H
        clear H
        have hcz13_0 : wr.cell? ⟨gb409, 0, none⟩ = some (.string a0_0) := (blk_cell BK409.out 0).trans rfl
        have hcz13_1 : wr.cell? ⟨gb409, 1, none⟩ = some (.bool a0_1) := (blk_cell BK409.out 1).trans rfl
        have hcz13_2 : wr.cell? ⟨gb409, 2, none⟩ = some (.slice A0_2 l0_2.length c0_2) := (blk_cell BK409.out 2).trans rfl
        have hcz13_3 : wr.cell? ⟨gb409, 3, none⟩ = some (.int .i64 a0_3) := (blk_cell BK409.out 3).trans rfl
        have hcz13_4 : wr.cell? ⟨gb409, 4, none⟩ = some (.slice A0_4 l0_4.length c0_4) := (blk_cell BK409.out 4).trans rfl
        have hfz13_0 := blk_frozen BK409.out 0
        have hfz13_1 := blk_frozen BK409.out 1
        have hfz13_2 := blk_frozen BK409.out 2
        have hfz13_3 := blk_frozen BK409.out 3
        have hfz13_4 := blk_frozen BK409.out 4
        go_wp2_with (first | ((with_reducible refine gate_callee (f := 19) rfl ?_); refine goesL_ (some 24) rfl rfl Try.func19 (by kernel_rfl) rfl #[.agg #[.string a0_0, .bool a0_1, .slice A0_2 l0_2.length c0_2, .int .i64 a0_3, .slice A0_4 l0_4.length c0_4], .int .i64 x17_1] rfl (by (try simp only [List.map_toArray, List.map_cons, List.map_nil]); first | done | rfl | (simp only [List.length_drop, List.length_take]; rfl)) ?_; (with_reducible refine (flow_Next.calls k1 a0_0 a0_1 _ _ l0_2 a0_3 _ _ l0_4 x17_1 t413 _ ?side1 ?side2 ?side3 ?side4 A9.out).mono ?_); (case side1 => repeat (first | exact (Kd.C_below HR0_2.out HB.out) | (with_reducible refine Kd.C_alloc ?_ _) | (with_reducible refine Kd.C_drewN ?_ _) | (with_reducible refine Kd.C_drew ?_))); (case side2 => exact HC0_2.out); (case side3 => repeat (first | exact (Kd.C_below HR0_4.out HB.out) | (with_reducible refine Kd.C_alloc ?_ _) | (with_reducible refine Kd.C_drewN ?_ _) | (with_reducible refine Kd.C_drew ?_))); (case side4 => exact HC0_4.out); rintro e w14 ⟨v414, rfl, ho0, hb⟩; refine ⟨_, rfl, ?_⟩; have n0_ := Aside0.mk (Kd.S_elder' (by (with_reducible repeat (first | apply Kd.S_alloc | apply Kd.S_drewN | apply Kd.S_drew)); exact HO_4.out) (Kd.R_base ho0) hb); have n1_ := Aside0.mk (Kd.R_lower ho0 (below_size (by repeat (first | (with_reducible first | exact HB.out | apply below_alloc | apply pw_below_drewN | apply below_drew1 | refine below_set ?_ GE409.out) | exact HB.out)))); have n2_ := Aside0.mk (blk_below (g := gb409) (o := .cells #[.string a0_0, .bool a0_1, .slice A0_2 l0_2.length c0_2, .int .i64 a0_3, .slice A0_4 l0_4.length c0_4] 25 (0, 0)) (by (with_reducible repeat (first | refine blk_drewN ?_ _ | refine blk_drew ?_ | refine blk_alloc ?_ _)); exact BK409.out) hb); have n3_ := Aside0.mk (below_step (by repeat (first | (with_reducible first | exact HB.out | apply below_alloc | apply pw_below_drewN | apply below_drew1 | refine below_set ?_ GE409.out) | exact HB.out)) hb); clear HO_4; clear BK409; clear HB; have HO_4 := n0_; have HO415 := n1_; have BK409 := n2_; have HB := n3_; clear n0_ n1_ n2_ n3_; (try clear hb); (try clear hb2); (try clear hk); (try clear hi); (try clear ho0); have p12 : 0 ≤ (x17_1 : Int) := of_decide_eq_true (by first | (with_reducible assumption) | assumption); have q12 : (x17_1 : Int) < ((x4_1.length : Int) : Int) := of_decide_eq_true (by first | (with_reducible assumption) | assumption); obtain ⟨go12, co12, eo12, gb12, gl12, cl12, HG12⟩ := Kd.S_form HO_4.out (by omega); (first | cases eo12 | (injection eo12 with ea_ en_ ec_; (first | subst ea_ | (injection ea_ with ea_; subst ea_)); subst ec_; clear en_)); have GB12 := Aside0.mk gb12; have GG12 := Aside0.mk HG12; clear gb12 gl12 HG12; obtain ⟨_, ce12, hcl12, hM12, hcc12, hfr12, _, _⟩ := Kd.S_elem HO_4.out [] (x17_1 : Int) p12 q12; obtain ⟨ve12_0, rfl, ge12_0⟩ := (id hM12); have hx12_0 := hcc12 0 _ rfl; have hf12_0 := hfr12 0; (try simp only [show ((Kd.slice 3 (Kd.int .i64))).sz = 1 from rfl, Nat.mul_one, Nat.add_zero] at hx12_0); (try simp only [show ((Kd.slice 3 (Kd.int .i64))).sz = 1 from rfl, Nat.mul_one, Nat.add_zero] at hf12_0); clear hcl12 hcc12 hfr12 hM12; replace p12 := eq_true p12; replace q12 := eq_true q12; obtain ⟨Ao15, co15, eo15⟩ := Kd.R_slice HO415.out; subst eo15; have n_ := Aside0.mk (Kd.S_mono (ok' := (fun k_ => some k_ ≠ (.slice Ao15 t413.length co15 : Value).ownBlock)) HO_4.out (fun k_ hk => hk.2)); clear HO_4; have HO_4 := n_; clear n_; have HX16 := Aside0.mk (show Kd.S (Kd.slice 3 (Kd.int .i64)) 22 w14 w.heap.size (fun k_ => ((fun _ => True)) k_ ∧ ¬ ((fun k_ => some k_ = (.slice Ao15 t413.length co15 : Value).ownBlock)) k_) (.slice (some ⟨go12, 0, none⟩) x4_1.length co12) x4_1 from (by (with_reducible repeat (first | apply Kd.S_alloc | apply Kd.S_drewN | apply Kd.S_drew)); exact Kd.S_mono HO_4.out (fun k_ hk => ⟨trivial, fun e_ => hk e_⟩))); obtain ⟨oki16, ce16, hcl16, hM16, hcc16, hfr16, hoki16, hH16⟩ := Kd.S_elem HX16.out [] (x17_1 : Int) (of_decide_eq_true (by first | (with_reducible assumption) | assumption)) (by have h_ : (x17_1 : Int) < ((x4_1.length : Int) : Int) := of_decide_eq_true (by first | (with_reducible assumption) | assumption); first | exact h_ | (have e_ := (Kd.S_reads' HO_4.out).1; omega) | simpa using h_); obtain ⟨ve16_0, rfl, ge16_0⟩ := (id hM16); have HP16 := Kd.S_seg hH16 (of_decide_eq_true (by first | (with_reducible assumption) | assumption)) (by have h_ : (x17_1 : Int) < ((x4_1.length : Int) : Int) := of_decide_eq_true (by first | (with_reducible assumption) | assumption); first | exact h_ | (have e_ := (Kd.S_reads' HO_4.out).1; omega) | simpa using h_) (seg := [.slice Ao15 t413.length co15]) (j := 0) (show 1 ≤ 1 from by decide) (x' := t413) (Kd.M_row (Kd.R_mono (Kd.R_tight rfl (Kd.R_mono (ok' := fun k_ => ((fun _ => True)) k_ ∧ k_ ≠ go12) (Kd.R_apart' (HO415.out) (Kd.S_typed HO_4.out) (by decide)) (fun k_ hk => ⟨trivial, fun e_ => (hk.2) (by rw [e_]; rfl)⟩))) (fun _ h_ => Or.inr (h_)))) (fun _ hk => hk) (fun k_ hk_ => ((Kd.R_mono (ok' := fun k_ => ((fun _ => True)) k_ ∧ k_ ≠ go12) (Kd.R_apart' (HO415.out) (Kd.S_typed HO_4.out) (by decide)) (fun k_ hk => ⟨trivial, fun e_ => (hk.2) (by rw [e_]; rfl)⟩))).1 k_ hk_.symm); have hx16_0 := hcc16 0 _ rfl; (try simp only [show ((Kd.slice 3 (Kd.int .i64))).sz = 1 from rfl, Nat.mul_one, Nat.add_zero] at hx16_0); have hf16_0 := hfr16 0; (try simp only [show ((Kd.slice 3 (Kd.int .i64))).sz = 1 from rfl, Nat.mul_one, Nat.add_zero] at hf16_0); clear hcl16 hcc16 hfr16 hM16 hoki16 hH16; (try simp only [show ((Kd.slice 3 (Kd.int .i64))).sz = 1 from rfl, Nat.mul_one, Nat.add_zero] at HP16)) | ((with_reducible refine gate_store (t := 22) (p := 25) rfl ?_); refine store_event (t := 22) (p := 25) (v := ?vo_w17) (w1 := (w14.setCell ⟨go12, (x17_1 : Int).toNat, none⟩ (.slice Ao15 t413.length co15))) ?hg ?ho ?hn ?hr ?_; (case ho => rfl); (case hg => rfl); (case hn => rfl); (case hr => first | (go_simp; done) | (go_simp; rfl)); intro w17 hw; have hg : w14.grownBy w17 (some go12) := (by rw [hw]; exact HP16.2); have hp_ : Kd.S (Kd.slice 3 (Kd.int .i64)) 22 w17 w.heap.size (fun _ => True) (.slice (some ⟨go12, 0, none⟩) x4_1.length co12) y416 := (by rw [hw, Ny416.out]; exact HP16.1); clear HP16; have n0_ := Aside0.mk (hp_); have n1_ := Aside0.mk (blk_grown (g := gb409) (o := .cells #[.string a0_0, .bool a0_1, .slice A0_2 l0_2.length c0_2, .int .i64 a0_3, .slice A0_4 l0_4.length c0_4] 25 (0, 0)) (by (with_reducible repeat (first | refine blk_drewN ?_ _ | refine blk_drew ?_ | refine blk_alloc ?_ _)); exact BK409.out) hg (Kd.S_ne HO_4.out BK409.out (by decide))); have n2_ := Aside0.mk ((by rw [hw]; exact below_set (HB.out) GB12.out : Below w.heap.size w w17)); clear HO_4; clear BK409; clear HB; clear HO415; have HO_4 := n0_; have BK409 := n1_; have HB := n2_; clear n0_ n1_ n2_; clear hg hw hp_))
        go_roundg k1
        case measure => have := HK1.out; omega
        case rel => exact ⟨(y416), (wrap64 (x17_1 + 1)), (by first | rfl | (simp; done) | (simp [*]; done)), H', ⟨by have := HK1.out; omega⟩, ⟨by (with_reducible repeat (first | apply Kd.S_alloc | apply Kd.S_drewN | apply Kd.S_drew)); exact HO_4.out⟩, ⟨by (with_reducible repeat (first | refine blk_drewN ?_ _ | refine blk_drew ?_ | refine blk_alloc ?_ _)); exact BK409.out⟩, ⟨by repeat (first | (with_reducible first | exact HB.out | apply below_alloc | apply pw_below_drewN | apply below_drew1 | refine below_set ?_ GE409.out) | exact HB.out)⟩⟩
       ·rw [if_neg c11] at H
        exact absurd H (by simp)
      ·rw [if_neg c10] at H
       exact absurd H (by simp)
     ·rw [if_neg c8] at H
      have c8b0 : decide (x17_1 < (l0_4.length : Int)) = false := decide_eq_false c8
      clear c8
      replace H := Option.bind_eq_some_iff.mp H
      obtain ⟨t417, A180, H⟩ := H
      replace H : (if 0 ≤ (l0_4.length : Int) then (if ((l0_4.length : Int) : Int).toNat ≤ 11728124029610 then (dom_over.l1 k1 (l0_4.length : Int) x4_1 t417 (List.replicate ((l0_4.length : Int) : Int).toNat []) (l0_4.length : Int) 0) else (none)) else (none)) = some r := H
      have A18 := Aside0.mk A180
      clear A180
      by_cases c19 : 0 ≤ (l0_4.length : Int)
      ·rw [if_pos c19] at H
       have c19b0 := eq_true c19
       have c19b1 : decide (0 ≤ (l0_4.length : Int)) = true := decide_eq_true c19
       clear c19
       by_cases c20 : ((l0_4.length : Int) : Int).toNat ≤ 11728124029610
       ·rw [if_pos c20] at H
        have c20b0 := eq_true c20
        have c20b1 : decide (((l0_4.length : Int) : Int).toNat ≤ 11728124029610) = true := decide_eq_true c20
        clear c20
        obtain ⟨y420, hy420⟩ : ∃ y_ : List (List Bool), y_ = (List.replicate ((l0_4.length : Int) : Int).toNat []) := ⟨_, rfl⟩
        replace H : (dom_over.l1 k1 (l0_4.length : Int) x4_1 t417 y420 (l0_4.length : Int) 0) = some r := by first | (rw [hy420]; with_reducible exact H) | (have H2_ := (Option.bind_some _ _).symm.trans H; rw [hy420]; with_reducible exact H2_) | (have H2_ := (Option.bind_some _ _).symm.trans H; with_reducible exact H2_) | with_reducible exact H | (rw [hy420]; exact H) | exact H
        have Ny420 := Aside0.mk hy420
        clear hy420
        have H' := Aside0.mk H
        clear H
        have hcz21_0 : wr.cell? ⟨gb409, 0, none⟩ = some (.string a0_0) := (blk_cell BK409.out 0).trans rfl
        have hcz21_1 : wr.cell? ⟨gb409, 1, none⟩ = some (.bool a0_1) := (blk_cell BK409.out 1).trans rfl
        have hcz21_2 : wr.cell? ⟨gb409, 2, none⟩ = some (.slice A0_2 l0_2.length c0_2) := (blk_cell BK409.out 2).trans rfl
        have hcz21_3 : wr.cell? ⟨gb409, 3, none⟩ = some (.int .i64 a0_3) := (blk_cell BK409.out 3).trans rfl
        have hcz21_4 : wr.cell? ⟨gb409, 4, none⟩ = some (.slice A0_4 l0_4.length c0_4) := (blk_cell BK409.out 4).trans rfl
        have hfz21_0 := blk_frozen BK409.out 0
        have hfz21_1 := blk_frozen BK409.out 1
        have hfz21_2 := blk_frozen BK409.out 2
        have hfz21_3 := blk_frozen BK409.out 3
        have hfz21_4 := blk_frozen BK409.out 4
        go_wp2_with (first | ((with_reducible refine gate_callee (f := 25) rfl ?_); refine goesL_ (some 28) rfl rfl Try.func25 (by kernel_rfl) rfl #[.agg #[.string a0_0, .bool a0_1, .slice A0_2 l0_2.length c0_2, .int .i64 a0_3, .slice A0_4 l0_4.length c0_4]] rfl (by (try simp only [List.map_toArray, List.map_cons, List.map_nil]); first | done | rfl | (simp only [List.length_drop, List.length_take]; rfl)) ?_; (with_reducible refine (flow_Reach.calls k1 a0_0 a0_1 _ _ l0_2 a0_3 _ _ l0_4 t417 _ ?side1 ?side2 ?side3 ?side4 A18.out).mono ?_); (case side1 => repeat (first | exact (Kd.C_below HR0_2.out HB.out) | (with_reducible refine Kd.C_alloc ?_ _) | (with_reducible refine Kd.C_drewN ?_ _) | (with_reducible refine Kd.C_drew ?_))); (case side2 => exact HC0_2.out); (case side3 => repeat (first | exact (Kd.C_below HR0_4.out HB.out) | (with_reducible refine Kd.C_alloc ?_ _) | (with_reducible refine Kd.C_drewN ?_ _) | (with_reducible refine Kd.C_drew ?_))); (case side4 => exact HC0_4.out); rintro e w22 ⟨v418, rfl, ho0, hb⟩; refine ⟨_, rfl, ?_⟩; have n0_ := Aside0.mk (Kd.S_below (by (with_reducible repeat (first | apply Kd.S_alloc | apply Kd.S_drewN | apply Kd.S_drew)); exact HO_4.out) hb); have n1_ := Aside0.mk (Kd.R_lower ho0 (below_size (by repeat (first | (with_reducible first | exact HB.out | apply below_alloc | apply pw_below_drewN | apply below_drew1 | refine below_set ?_ GE409.out) | exact HB.out)))); have n2_ := Aside0.mk (blk_below (g := gb409) (o := .cells #[.string a0_0, .bool a0_1, .slice A0_2 l0_2.length c0_2, .int .i64 a0_3, .slice A0_4 l0_4.length c0_4] 25 (0, 0)) (by (with_reducible repeat (first | refine blk_drewN ?_ _ | refine blk_drew ?_ | refine blk_alloc ?_ _)); exact BK409.out) hb); have n3_ := Aside0.mk (below_step (by repeat (first | (with_reducible first | exact HB.out | apply below_alloc | apply pw_below_drewN | apply below_drew1 | refine below_set ?_ GE409.out) | exact HB.out)) hb); clear HO_4; clear BK409; clear HB; have HO_4 := n0_; have HO419 := n1_; have BK409 := n2_; have HB := n3_; clear n0_ n1_ n2_ n3_; (try clear hb); (try clear hb2); (try clear hk); (try clear hi); (try clear ho0)) | ((with_reducible refine gate_dst (N := 30) rfl ?_); refine Kd.S_make (Kd.slice 4 Kd.bool) _ 34 rfl (N := 30) rfl 41 _ _ rfl (l0_4.length : Int) rfl rfl Try.underlying41 (.slice none 0 0) 24 info34 rfl (by decide) (by omega) [] (ok := fun _ => True) (okp := fun _ => True) ⟨_, rfl, Kd.R_nil _ _ _ _ _⟩ (fun _ hk => hk) trivial (of_decide_eq_true (by first | (with_reducible assumption) | assumption)) (Nat.le_trans (Nat.mul_le_mul_right _ (of_decide_eq_true (by first | (with_reducible assumption) | assumption) : (l0_4.length : Int).toNat ≤ 11728124029610)) (by omega)) (Below.refl _ _) (Nat.le_refl _) ?_; intro v421 w23 ho24 hb hg_ hnew_; clear hg_ hnew_; (first | rw [← Ny420.out] at ho24 | (simp only [Int.reduceToNat] at ho24; rw [← Ny420.out] at ho24)); have n0_ := Aside0.mk (Kd.S_below (by (with_reducible repeat (first | apply Kd.S_alloc | apply Kd.S_drewN | apply Kd.S_drew)); exact HO_4.out) hb); have n1_ := Aside0.mk (Kd.R_below (by (with_reducible repeat (first | apply Kd.R_alloc | apply Kd.R_drewN | apply Kd.R_drew)); exact HO419.out) hb); have n2_ := Aside0.mk (Kd.S_lower (Kd.S_new' ho24 (Kd.R_lt (by (with_reducible repeat (first | apply Kd.R_alloc | apply Kd.R_drewN | apply Kd.R_drew)); exact HO419.out))) (below_size (by repeat (first | (with_reducible first | exact HB.out | apply below_alloc | apply pw_below_drewN | apply below_drew1 | refine below_set ?_ GE409.out) | exact HB.out)))); have n3_ := Aside0.mk (blk_below (g := gb409) (o := .cells #[.string a0_0, .bool a0_1, .slice A0_2 l0_2.length c0_2, .int .i64 a0_3, .slice A0_4 l0_4.length c0_4] 25 (0, 0)) (by (with_reducible repeat (first | refine blk_drewN ?_ _ | refine blk_drew ?_ | refine blk_alloc ?_ _)); exact BK409.out) hb); have n4_ := Aside0.mk (below_step (by repeat (first | (with_reducible first | exact HB.out | apply below_alloc | apply pw_below_drewN | apply below_drew1 | refine below_set ?_ GE409.out) | exact HB.out)) hb); clear HO_4; clear HO419; clear BK409; clear HB; have HO_4 := n0_; have HO419 := n1_; have HO422 := n2_; have BK409 := n3_; have HB := n4_; clear n0_ n1_ n2_ n3_ n4_; clear hb ho24))
        go_loopg [32] k1 (fun kq v32 w' => ∃ (x6_2 : List Bool) (x7_2 : List (List Bool)) (x32_2 : Int), v32 = .int .i64 x32_2 ∧ Aside0 (dom_over.l1 kq (l0_4.length : Int) x4_1 x6_2 x7_2 (l0_4.length : Int) x32_2 = some r) ∧ Aside0 (kq ≤ k1) ∧ Aside0 (Kd.S (Kd.slice 3 (Kd.int .i64)) 22 w' w.heap.size (fun _ => True) v411 x4_1) ∧ Aside0 (Kd.R Kd.bool 4 w' w.heap.size (fun _ => True) v418 x6_2) ∧ Aside0 (Kd.S (Kd.slice 4 Kd.bool) 34 w' w.heap.size (fun k_ => some k_ ≠ (v418 : Value).ownBlock) v421 x7_2) ∧ Aside0 (w'.heap[gb409]? = some (.cells #[.string a0_0, .bool a0_1, (.slice A0_2 l0_2.length c0_2), .int .i64 a0_3, (.slice A0_4 l0_4.length c0_4)] 25 (0, 0))) ∧ Aside0 (Below w.heap.size w w'))
        case atStart => exact ⟨(t417), (y420), (0), (by first | rfl | (simp; done) | (simp [*]; done)), H', ⟨Nat.le_refl _⟩, ⟨by (with_reducible repeat (first | apply Kd.S_alloc | apply Kd.S_drewN | apply Kd.S_drew)); exact HO_4.out⟩, ⟨by (with_reducible repeat (first | apply Kd.R_alloc | apply Kd.R_drewN | apply Kd.R_drew)); exact HO419.out⟩, ⟨by (with_reducible repeat (first | apply Kd.S_alloc | apply Kd.S_drewN | apply Kd.S_drew)); exact Kd.S_mono HO422.out (fun _ hk => hk.2)⟩, ⟨by (with_reducible repeat (first | refine blk_drewN ?_ _ | refine blk_drew ?_ | refine blk_alloc ?_ _)); exact BK409.out⟩, ⟨by repeat (first | (with_reducible first | exact HB.out | apply below_alloc | apply pw_below_drewN | apply below_drew1 | refine below_set ?_ GE409.out) | exact HB.out)⟩⟩
        case round =>
         clear H'
         try clear c1
         try clear p1
         try clear q1
         try clear hx1
         try clear hf1
         try clear c2
         try clear c2b0
         try clear c2b1
         try clear p2
         try clear c3
         try clear c3b0
         try clear c3b1
         try clear c6
         try clear p6
         try clear c8
         try clear c8b0
         try clear c10
         try clear c10b0
         try clear c11
         try clear c11b0
         try clear c12
         try clear p12
         try clear q12
         try clear hx12
         try clear hf12
         try clear c16
         try clear hx16
         try clear hf16
         try clear c19
         try clear c19b0
         try clear c19b1
         try clear c20
         try clear c20b0
         try clear c20b1
         try clear hcz13_0
         try clear hcz13_1
         try clear hcz13_2
         try clear hcz13_3
         try clear hcz13_4
         try clear hcz21_0
         try clear hcz21_1
         try clear hcz21_2
         try clear hcz21_3
         try clear hcz21_4
         try clear hcz5_0
         try clear hcz5_1
         try clear hcz5_2
         try clear hcz5_3
         try clear hcz5_4
         try clear hfz13_0
         try clear hfz13_1
         try clear hfz13_2
         try clear hfz13_3
         try clear hfz13_4
         try clear hfz21_0
         try clear hfz21_1
         try clear hfz21_2
         try clear hfz21_3
         try clear hfz21_4
         try clear hfz5_0
         try clear hfz5_1
         try clear hfz5_2
         try clear hfz5_3
         try clear hfz5_4
         try clear hx12_0
         try clear hx16_0
         try clear p12
         try clear p2
         try clear q12
         obtain ⟨x6_2, x7_2, x32_2, rfl, HA, HK2, HO_4, HO_6, HO_7, BK409, HB⟩ := hrel
         cases gk with
         | zero => exact absurd HA.out (by simp [dom_over.l1])
         | succ k2 =>
          have H := HA.out
          clear HA
          simp only [dom_over.l1] at H
          by_cases c25 : x32_2 < (l0_4.length : Int)
          ·rw [if_pos c25] at H
           have c25b0 : decide (x32_2 < (l0_4.length : Int)) = true := decide_eq_true c25
           clear c25
           by_cases c26 : 0 ≤ (l0_4.length : Int)
           ·rw [if_pos c26] at H
            have c26b0 := eq_true c26
            have c26b1 : decide (0 ≤ (l0_4.length : Int)) = true := decide_eq_true c26
            clear c26
            by_cases c27 : ((l0_4.length : Int) : Int).toNat ≤ 281474976710656
            ·rw [if_pos c27] at H
             have c27b0 := eq_true c27
             have c27b1 : decide (((l0_4.length : Int) : Int).toNat ≤ 281474976710656) = true := decide_eq_true c27
             clear c27
             obtain ⟨y423, hy423⟩ : ∃ y_ : List Bool, y_ = (List.replicate ((l0_4.length : Int) : Int).toNat false) := ⟨_, rfl⟩
             replace H : (if 0 ≤ x32_2 then (if x32_2 < (x7_2.length : Int) then ((some (x7_2.set (x32_2 : Int).toNat y423 : List (List Bool))).bind fun y426 => (if x32_2 < (x6_2.length : Int) then (if rdOf false x6_2 x32_2 = true then ((dom_without.f k2 x4_1 x32_2).bind fun t428 => (dom_over.l2 k2 (l0_4.length : Int) x4_1 x6_2 y426 x32_2 t428 (l0_4.length : Int) x32_2 (l0_4.length : Int) 0)) else (dom_over.l1 k2 (l0_4.length : Int) x4_1 x6_2 y426 (l0_4.length : Int) (wrap64 (x32_2 + 1)))) else (none))) else (none)) else (none)) = some r := by first | (rw [hy423]; with_reducible exact H) | (have H2_ := (Option.bind_some _ _).symm.trans H; rw [hy423]; with_reducible exact H2_) | (have H2_ := (Option.bind_some _ _).symm.trans H; with_reducible exact H2_) | with_reducible exact H | (rw [hy423]; exact H) | exact H
             have Ny423 := Aside0.mk hy423
             clear hy423
             by_cases c28 : 0 ≤ x32_2
             ·rw [if_pos c28] at H
              have c28b0 : decide (0 ≤ x32_2) = true := decide_eq_true c28
              clear c28
              by_cases c29 : x32_2 < (x7_2.length : Int)
              ·rw [if_pos c29] at H
               have c29b0 : decide (x32_2 < (x7_2.length : Int)) = true := decide_eq_true c29
               clear c29
               obtain ⟨y426, hy426⟩ : ∃ y_ : List (List Bool), y_ = (x7_2.set (x32_2 : Int).toNat y423) := ⟨_, rfl⟩
               replace H : (if x32_2 < (x6_2.length : Int) then (if rdOf false x6_2 x32_2 = true then ((dom_without.f k2 x4_1 x32_2).bind fun t428 => (dom_over.l2 k2 (l0_4.length : Int) x4_1 x6_2 y426 x32_2 t428 (l0_4.length : Int) x32_2 (l0_4.length : Int) 0)) else (dom_over.l1 k2 (l0_4.length : Int) x4_1 x6_2 y426 (l0_4.length : Int) (wrap64 (x32_2 + 1)))) else (none)) = some r := by first | (rw [hy426]; with_reducible exact H) | (have H2_ := (Option.bind_some _ _).symm.trans H; rw [hy426]; with_reducible exact H2_) | (have H2_ := (Option.bind_some _ _).symm.trans H; with_reducible exact H2_) | with_reducible exact H | (rw [hy426]; exact H) | exact H
               have Ny426 := Aside0.mk hy426
               clear hy426
               by_cases c31 : x32_2 < (x6_2.length : Int)
               ·rw [if_pos c31] at H
                have c31b0 : decide (x32_2 < (x6_2.length : Int)) = true := decide_eq_true c31
                clear c31
                obtain ⟨bq32, hbq32⟩ : ∃ b_ : Bool, b_ = (rdOf false x6_2 x32_2) := ⟨_, rfl⟩
                replace H : (if bq32 = true then ((dom_without.f k2 x4_1 x32_2).bind fun t428 => (dom_over.l2 k2 (l0_4.length : Int) x4_1 x6_2 y426 x32_2 t428 (l0_4.length : Int) x32_2 (l0_4.length : Int) 0)) else (dom_over.l1 k2 (l0_4.length : Int) x4_1 x6_2 y426 (l0_4.length : Int) (wrap64 (x32_2 + 1)))) = some r := by rw [← hbq32] at H; exact H
                have Nbq32 := Aside0.mk hbq32
                clear hbq32
                by_cases c33 : bq32 = true
                ·subst c33
                 have H1 : ((dom_without.f k2 x4_1 x32_2).bind fun t428 => (dom_over.l2 k2 (l0_4.length : Int) x4_1 x6_2 y426 x32_2 t428 (l0_4.length : Int) x32_2 (l0_4.length : Int) 0)) = some r := by rw [if_pos rfl] at H; exact H
                 clear H; have H := H1; clear H1
                 replace H := Option.bind_eq_some_iff.mp H
                 obtain ⟨t428, A340, H⟩ := H
                 replace H : (dom_over.l2 k2 (l0_4.length : Int) x4_1 x6_2 y426 x32_2 t428 (l0_4.length : Int) x32_2 (l0_4.length : Int) 0) = some r := H
                 have A34 := Aside0.mk A340
                 clear A340
                 have H' := Aside0.mk H
                 clear H
                 go_wp2_with (first | ((with_reducible refine gate_dst (N := 38) rfl ?_); refine Kd.R_make Kd.bool _ 4 rfl (N := 38) rfl 34 _ _ rfl (l0_4.length : Int) rfl rfl Try.underlying34 (.bool false) 1 info4 rfl (by decide) (by omega) false (ok := fun _ => True) (okp := fun _ => True) rfl (fun _ hk => hk) trivial (of_decide_eq_true (by first | (with_reducible assumption) | assumption)) (Nat.le_trans (Nat.mul_le_mul_right _ (of_decide_eq_true (by first | (with_reducible assumption) | assumption) : (l0_4.length : Int).toNat ≤ 281474976710656)) (by omega)) (Below.refl _ _) (Nat.le_refl _) ?_; intro v424 w35 ho36 hb hg_ hnew_; clear hg_ hnew_; (first | rw [← Ny423.out] at ho36 | (simp only [Int.reduceToNat] at ho36; rw [← Ny423.out] at ho36)); have n0_ := Aside0.mk (Kd.S_below (by (with_reducible repeat (first | apply Kd.S_alloc | apply Kd.S_drewN | apply Kd.S_drew)); exact HO_4.out) hb); have n1_ := Aside0.mk (Kd.R_elder' (by (with_reducible repeat (first | apply Kd.R_alloc | apply Kd.R_drewN | apply Kd.R_drew)); exact HO_6.out) (Kd.R_base ho36) hb); have n2_ := Aside0.mk (Kd.S_elder' (by (with_reducible repeat (first | apply Kd.S_alloc | apply Kd.S_drewN | apply Kd.S_drew)); exact HO_7.out) (Kd.R_base ho36) hb); have n3_ := Aside0.mk (Kd.R_lower (Kd.R_new' ho36 (Kd.R_lt (by (with_reducible repeat (first | apply Kd.R_alloc | apply Kd.R_drewN | apply Kd.R_drew)); exact HO_6.out))) (below_size (by repeat (first | (with_reducible first | exact HB.out | apply below_alloc | apply pw_below_drewN | apply below_drew1 | refine below_set ?_ GE409.out) | exact HB.out)))); have n4_ := Aside0.mk (blk_below (g := gb409) (o := .cells #[.string a0_0, .bool a0_1, .slice A0_2 l0_2.length c0_2, .int .i64 a0_3, .slice A0_4 l0_4.length c0_4] 25 (0, 0)) (by (with_reducible repeat (first | refine blk_drewN ?_ _ | refine blk_drew ?_ | refine blk_alloc ?_ _)); exact BK409.out) hb); have n5_ := Aside0.mk (below_step (by repeat (first | (with_reducible first | exact HB.out | apply below_alloc | apply pw_below_drewN | apply below_drew1 | refine below_set ?_ GE409.out) | exact HB.out)) hb); clear HO_4; clear HO_6; clear HO_7; clear BK409; clear HB; have HO_4 := n0_; have HO_6 := n1_; have HO_7 := n2_; have HO425 := n3_; have BK409 := n4_; have HB := n5_; clear n0_ n1_ n2_ n3_ n4_ n5_; clear hb ho36; have p30 : 0 ≤ (x32_2 : Int) := of_decide_eq_true (by first | (with_reducible assumption) | assumption); have q30 : (x32_2 : Int) < ((x7_2.length : Int) : Int) := of_decide_eq_true (by first | (with_reducible assumption) | assumption); obtain ⟨go30, co30, eo30, gb30, gl30, cl30, HG30⟩ := Kd.S_form HO_7.out (by omega); (first | cases eo30 | (injection eo30 with ea_ en_ ec_; (first | subst ea_ | (injection ea_ with ea_; subst ea_)); subst ec_; clear en_)); have GB30 := Aside0.mk gb30; have GG30 := Aside0.mk HG30; clear gb30 gl30 HG30; obtain ⟨_, ce30, hcl30, hM30, hcc30, hfr30, _, _⟩ := Kd.S_elem HO_7.out [] (x32_2 : Int) p30 q30; obtain ⟨ve30_0, rfl, ge30_0⟩ := (id hM30); have hx30_0 := hcc30 0 _ rfl; have hf30_0 := hfr30 0; (try simp only [show ((Kd.slice 4 Kd.bool)).sz = 1 from rfl, Nat.mul_one, Nat.add_zero] at hx30_0); (try simp only [show ((Kd.slice 4 Kd.bool)).sz = 1 from rfl, Nat.mul_one, Nat.add_zero] at hf30_0); clear hcl30 hcc30 hfr30 hM30; replace p30 := eq_true p30; replace q30 := eq_true q30; obtain ⟨Ao37, co37, eo37⟩ := Kd.R_slice HO425.out; subst eo37; have HX38 := Aside0.mk (show Kd.S (Kd.slice 4 Kd.bool) 34 w35 w.heap.size (fun k_ => ((fun k_ => some k_ ≠ (v418 : Value).ownBlock)) k_ ∧ ¬ ((fun k_ => some k_ = (.slice Ao37 y423.length co37 : Value).ownBlock)) k_) (.slice (some ⟨go30, 0, none⟩) x7_2.length co30) x7_2 from (by (with_reducible repeat (first | apply Kd.S_alloc | apply Kd.S_drewN | apply Kd.S_drew)); exact Kd.S_mono HO_7.out (fun k_ hk => ⟨hk.1, fun e_ => hk.2 e_⟩))); obtain ⟨oki38, ce38, hcl38, hM38, hcc38, hfr38, hoki38, hH38⟩ := Kd.S_elem HX38.out [] (x32_2 : Int) (of_decide_eq_true (by first | (with_reducible assumption) | assumption)) (by have h_ : (x32_2 : Int) < ((x7_2.length : Int) : Int) := of_decide_eq_true (by first | (with_reducible assumption) | assumption); first | exact h_ | (have e_ := (Kd.S_reads' HO_7.out).1; omega) | simpa using h_); obtain ⟨ve38_0, rfl, ge38_0⟩ := (id hM38); have HP38 := Kd.S_seg hH38 (of_decide_eq_true (by first | (with_reducible assumption) | assumption)) (by have h_ : (x32_2 : Int) < ((x7_2.length : Int) : Int) := of_decide_eq_true (by first | (with_reducible assumption) | assumption); first | exact h_ | (have e_ := (Kd.S_reads' HO_7.out).1; omega) | simpa using h_) (seg := [.slice Ao37 y423.length co37]) (j := 0) (show 1 ≤ 1 from by decide) (x' := y423) (Kd.M_row (Kd.R_mono (Kd.R_tight rfl (Kd.R_mono (ok' := fun k_ => ((fun k_ => some k_ ≠ (v418 : Value).ownBlock)) k_ ∧ k_ ≠ go30) (Kd.R_apart' (HO425.out) (Kd.S_typed HO_7.out) (by decide)) (fun k_ hk => ⟨hk.1.2, fun e_ => (hk.2) (by rw [e_]; rfl)⟩))) (fun _ h_ => Or.inr (h_)))) (fun _ hk => hk) (fun k_ hk_ => ((Kd.R_mono (ok' := fun k_ => ((fun k_ => some k_ ≠ (v418 : Value).ownBlock)) k_ ∧ k_ ≠ go30) (Kd.R_apart' (HO425.out) (Kd.S_typed HO_7.out) (by decide)) (fun k_ hk => ⟨hk.1.2, fun e_ => (hk.2) (by rw [e_]; rfl)⟩))).1 k_ hk_.symm); have hx38_0 := hcc38 0 _ rfl; (try simp only [show ((Kd.slice 4 Kd.bool)).sz = 1 from rfl, Nat.mul_one, Nat.add_zero] at hx38_0); have hf38_0 := hfr38 0; (try simp only [show ((Kd.slice 4 Kd.bool)).sz = 1 from rfl, Nat.mul_one, Nat.add_zero] at hf38_0); clear hcl38 hcc38 hfr38 hM38 hoki38 hH38; (try simp only [show ((Kd.slice 4 Kd.bool)).sz = 1 from rfl, Nat.mul_one, Nat.add_zero] at HP38)) | ((with_reducible refine gate_store (t := 34) (p := 39) rfl ?_); refine store_event (t := 34) (p := 39) (v := ?vo_w39) (w1 := (w35.setCell ⟨go30, (x32_2 : Int).toNat, none⟩ (.slice Ao37 y423.length co37))) ?hg ?ho ?hn ?hr ?_; (case ho => rfl); (case hg => rfl); (case hn => rfl); (case hr => first | (go_simp; done) | (go_simp; rfl)); intro w39 hw; have hg : w35.grownBy w39 (some go30) := (by rw [hw]; exact HP38.2); have hp_ : Kd.S (Kd.slice 4 Kd.bool) 34 w39 w.heap.size (fun k_ => some k_ ≠ (v418 : Value).ownBlock) (.slice (some ⟨go30, 0, none⟩) x7_2.length co30) y426 := (by rw [hw, Ny426.out]; exact HP38.1); clear HP38; have n0_ := Aside0.mk (Kd.S_over' (v := (.slice (some ⟨go30, 0, none⟩) x7_2.length co30)) (by (with_reducible repeat (first | apply Kd.S_alloc | apply Kd.S_drewN | apply Kd.S_drew)); exact HO_4.out) (Kd.S_typed HO_7.out) (by decide) hg); have n1_ := Aside0.mk (Kd.R_over' (v := (.slice (some ⟨go30, 0, none⟩) x7_2.length co30)) (by (with_reducible repeat (first | apply Kd.R_alloc | apply Kd.R_drewN | apply Kd.R_drew)); exact HO_6.out) (Kd.S_typed HO_7.out) (by decide) hg); have n2_ := Aside0.mk (hp_); have n3_ := Aside0.mk (blk_grown (g := gb409) (o := .cells #[.string a0_0, .bool a0_1, .slice A0_2 l0_2.length c0_2, .int .i64 a0_3, .slice A0_4 l0_4.length c0_4] 25 (0, 0)) (by (with_reducible repeat (first | refine blk_drewN ?_ _ | refine blk_drew ?_ | refine blk_alloc ?_ _)); exact BK409.out) hg (Kd.S_ne HO_7.out BK409.out (by decide))); have n4_ := Aside0.mk ((by rw [hw]; exact below_set (HB.out) GB30.out : Below w.heap.size w w39)); clear HO_4; clear HO_6; clear HO_7; clear BK409; clear HB; clear HO425; have HO_4 := n0_; have HO_6 := n1_; have HO_7 := n2_; have BK409 := n3_; have HB := n4_; clear n0_ n1_ n2_ n3_ n4_; clear hg hw hp_; obtain ⟨Ao40, co40, eo40⟩ := Kd.R_slice HO_6.out; subst eo40; have p427 : 0 ≤ (x32_2 : Int) := of_decide_eq_true (by first | (with_reducible assumption) | assumption); have q427 : x32_2 < (x6_2.length : Int) := of_decide_eq_true (by first | (with_reducible assumption) | assumption); obtain ⟨ad427, e427, hx427_0⟩ := Kd.at_bool (Kd.R_reads' HO_6.out).2.2 x32_2 p427 q427; (try rw [← Nbq32.out] at hx427_0); cases e427; replace p427 := eq_true p427; replace q427 := eq_true q427; obtain ⟨Ao41, co41, eo41⟩ := Kd.S_slice HO_4.out; subst eo41) | ((with_reducible refine gate_callee (f := 98) rfl ?_); refine goesL_ (some 47) rfl rfl Try.func98 (by kernel_rfl) rfl #[.slice Ao41 x4_1.length co41, .int .i64 x32_2] rfl (by (try simp only [List.map_toArray, List.map_cons, List.map_nil]); first | done | rfl | (simp only [List.length_drop, List.length_take]; rfl)) ?_; (with_reducible refine (dom_without.calls k2 _ _ x4_1 x32_2 t428 _ ?side1 ?side2 A34.out).mono ?_); (case side1 => repeat (first | exact (Kd.S_reads' HO_4.out).2.2 | (with_reducible refine Kd.C_alloc ?_ _) | (with_reducible refine Kd.C_drewN ?_ _) | (with_reducible refine Kd.C_drew ?_))); (case side2 => exact (Kd.S_reads' HO_4.out).2.1); rintro e w42 ⟨v429, rfl, ho0, hb⟩; refine ⟨_, rfl, ?_⟩; have n0_ := Aside0.mk (Kd.S_below (by (with_reducible repeat (first | apply Kd.S_alloc | apply Kd.S_drewN | apply Kd.S_drew)); exact HO_4.out) hb); have n1_ := Aside0.mk (Kd.R_elder' (by (with_reducible repeat (first | apply Kd.R_alloc | apply Kd.R_drewN | apply Kd.R_drew)); exact HO_6.out) (Kd.R_base ho0) hb); have n2_ := Aside0.mk (Kd.S_elder' (by (with_reducible repeat (first | apply Kd.S_alloc | apply Kd.S_drewN | apply Kd.S_drew)); exact HO_7.out) (Kd.R_base ho0) hb); have n3_ := Aside0.mk (Kd.R_lower (Kd.R_new' ho0 (Kd.R_lt (by (with_reducible repeat (first | apply Kd.R_alloc | apply Kd.R_drewN | apply Kd.R_drew)); exact HO_6.out))) (below_size (by repeat (first | (with_reducible first | exact HB.out | apply below_alloc | apply pw_below_drewN | apply below_drew1 | refine below_set ?_ GE409.out) | exact HB.out)))); have n4_ := Aside0.mk (blk_below (g := gb409) (o := .cells #[.string a0_0, .bool a0_1, .slice A0_2 l0_2.length c0_2, .int .i64 a0_3, .slice A0_4 l0_4.length c0_4] 25 (0, 0)) (by (with_reducible repeat (first | refine blk_drewN ?_ _ | refine blk_drew ?_ | refine blk_alloc ?_ _)); exact BK409.out) hb); have n5_ := Aside0.mk (below_step (by repeat (first | (with_reducible first | exact HB.out | apply below_alloc | apply pw_below_drewN | apply below_drew1 | refine below_set ?_ GE409.out) | exact HB.out)) hb); clear HO_4; clear HO_6; clear HO_7; clear BK409; clear HB; have HO_4 := n0_; have HO_6 := n1_; have HO_7 := n2_; have HO430 := n3_; have BK409 := n4_; have HB := n5_; clear n0_ n1_ n2_ n3_ n4_ n5_; (try clear hb); (try clear hb2); (try clear hk); (try clear hi); (try clear ho0)))
                 go_loopg [49] k2 (fun kq v49 w' => ∃ (x6_3 : List Bool) (x7_3 : List (List Bool)) (x9_3 : List Bool) (x49_3 : Int), v49 = .int .i64 x49_3 ∧ Aside0 (dom_over.l2 kq (l0_4.length : Int) x4_1 x6_3 x7_3 x32_2 x9_3 (l0_4.length : Int) x32_2 (l0_4.length : Int) x49_3 = some r) ∧ Aside0 (kq ≤ k2) ∧ Aside0 (Kd.S (Kd.slice 3 (Kd.int .i64)) 22 w' w.heap.size (fun _ => True) (.slice Ao41 x4_1.length co41) x4_1) ∧ Aside0 (Kd.R Kd.bool 4 w' w.heap.size (fun k_ => some k_ ≠ (v429 : Value).ownBlock) (.slice (some ad427) x6_2.length co40) x6_3) ∧ Aside0 (Kd.S (Kd.slice 4 Kd.bool) 34 w' w.heap.size (fun k_ => some k_ ≠ ((.slice (some ad427) x6_2.length co40) : Value).ownBlock ∧ some k_ ≠ (v429 : Value).ownBlock) (.slice (some ⟨go30, 0, none⟩) x7_2.length co30) x7_3) ∧ Aside0 (Kd.R Kd.bool 4 w' w.heap.size (fun k_ => some k_ ≠ ((.slice (some ad427) x6_2.length co40) : Value).ownBlock) v429 x9_3) ∧ Aside0 (w'.heap[gb409]? = some (.cells #[.string a0_0, .bool a0_1, (.slice A0_2 l0_2.length c0_2), .int .i64 a0_3, (.slice A0_4 l0_4.length c0_4)] 25 (0, 0))) ∧ Aside0 (Below w.heap.size w w'))
                 case atStart => exact ⟨(x6_2), (y426), (t428), (0), (by first | rfl | (simp; done) | (simp [*]; done)), H', ⟨Nat.le_refl _⟩, ⟨by (with_reducible repeat (first | apply Kd.S_alloc | apply Kd.S_drewN | apply Kd.S_drew)); exact HO_4.out⟩, ⟨by (with_reducible repeat (first | apply Kd.R_alloc | apply Kd.R_drewN | apply Kd.R_drew)); exact Kd.R_mono HO_6.out (fun _ hk => hk.2)⟩, ⟨by (with_reducible repeat (first | apply Kd.S_alloc | apply Kd.S_drewN | apply Kd.S_drew)); exact HO_7.out⟩, ⟨by (with_reducible repeat (first | apply Kd.R_alloc | apply Kd.R_drewN | apply Kd.R_drew)); exact Kd.R_mono HO430.out (fun _ hk => hk.2)⟩, ⟨by (with_reducible repeat (first | refine blk_drewN ?_ _ | refine blk_drew ?_ | refine blk_alloc ?_ _)); exact BK409.out⟩, ⟨by repeat (first | (with_reducible first | exact HB.out | apply below_alloc | apply pw_below_drewN | apply below_drew1 | refine below_set ?_ GE409.out) | exact HB.out)⟩⟩
                 case round =>
                  clear H'
                  try clear c1
                  try clear p1
                  try clear q1
                  try clear hx1
                  try clear hf1
                  try clear c2
                  try clear c2b0
                  try clear c2b1
                  try clear p2
                  try clear c3
                  try clear c3b0
                  try clear c3b1
                  try clear p3
                  try clear q3
                  try clear hx3
                  try clear hf3
                  try clear p4
                  try clear q4
                  try clear hx4
                  try clear c6
                  try clear p6
                  try clear c8
                  try clear c8b0
                  try clear c9
                  try clear c10
                  try clear c10b0
                  try clear c11
                  try clear c11b0
                  try clear c12
                  try clear p12
                  try clear q12
                  try clear hx12
                  try clear hf12
                  try clear c16
                  try clear hx16
                  try clear hf16
                  try clear c19
                  try clear c19b0
                  try clear c19b1
                  try clear c20
                  try clear c20b0
                  try clear c20b1
                  try clear c25
                  try clear c25b0
                  try clear c26
                  try clear c26b0
                  try clear c26b1
                  try clear c27
                  try clear c27b0
                  try clear c27b1
                  try clear c28
                  try clear c28b0
                  try clear c29
                  try clear c29b0
                  try clear c30
                  try clear p30
                  try clear q30
                  try clear hx30
                  try clear hf30
                  try clear c31
                  try clear c31b0
                  try clear q32
                  try clear c33
                  try clear c38
                  try clear hx38
                  try clear hf38
                  try clear p42
                  try clear q42
                  try clear hx42
                  try clear hcz13_0
                  try clear hcz13_1
                  try clear hcz13_2
                  try clear hcz13_3
                  try clear hcz13_4
                  try clear hcz21_0
                  try clear hcz21_1
                  try clear hcz21_2
                  try clear hcz21_3
                  try clear hcz21_4
                  try clear hcz5_0
                  try clear hcz5_1
                  try clear hcz5_2
                  try clear hcz5_3
                  try clear hcz5_4
                  try clear hfz13_0
                  try clear hfz13_1
                  try clear hfz13_2
                  try clear hfz13_3
                  try clear hfz13_4
                  try clear hfz21_0
                  try clear hfz21_1
                  try clear hfz21_2
                  try clear hfz21_3
                  try clear hfz21_4
                  try clear hfz5_0
                  try clear hfz5_1
                  try clear hfz5_2
                  try clear hfz5_3
                  try clear hfz5_4
                  try clear hx12_0
                  try clear hx16_0
                  try clear hx30_0
                  try clear hx38_0
                  try clear hx427_0
                  try clear p1
                  try clear p12
                  try clear p2
                  try clear p30
                  try clear p427
                  try clear p6
                  try clear q1
                  try clear q12
                  try clear q30
                  try clear q427
                  obtain ⟨x6_3, x7_3, x9_3, x49_3, rfl, HA, HK3, HO_4, HO_6, HO_7, HO_9, BK409, HB⟩ := hrel
                  have hl6_3 := (Kd.R_reads' HO_6.out).1
                  rw [hl6_3] at HO_6
                  (try simp only [hl6_3])
                  (try simp only [hl6_3] at BK409)
                  (try simp only [hl6_3] at HO_4)
                  (try simp only [hl6_3] at HO_7)
                  (try simp only [hl6_3] at HO_9)
                  have hl7_3 := (Kd.S_reads' HO_7.out).1
                  rw [hl7_3] at HO_7
                  (try simp only [hl7_3])
                  (try simp only [hl7_3] at BK409)
                  (try simp only [hl7_3] at HO_4)
                  (try simp only [hl7_3] at HO_6)
                  (try simp only [hl7_3] at HO_9)
                  cases gk with
                  | zero => exact absurd HA.out (by simp [dom_over.l2])
                  | succ k3 =>
                   have H := HA.out
                   clear HA
                   simp only [dom_over.l2] at H
                   by_cases c43 : x49_3 < (l0_4.length : Int)
                   ·rw [if_pos c43] at H
                    have c43b0 : decide (x49_3 < (l0_4.length : Int)) = true := decide_eq_true c43
                    clear c43
                    by_cases c44 : 0 ≤ x32_2
                    ·rw [if_pos c44] at H
                     have c44b0 : decide (0 ≤ x32_2) = true := decide_eq_true c44
                     clear c44
                     by_cases c45 : x32_2 < (x7_3.length : Int)
                     ·rw [if_pos c45] at H
                      have c45b0 : decide (x32_2 < (x7_3.length : Int)) = true := decide_eq_true c45
                      clear c45
                      by_cases c46 : 0 ≤ x49_3
                      ·rw [if_pos c46] at H
                       have c46b0 : decide (0 ≤ x49_3) = true := decide_eq_true c46
                       clear c46
                       by_cases c47 : x49_3 < (x6_3.length : Int)
                       ·rw [if_pos c47] at H
                        have c47b0 : decide (x49_3 < (x6_3.length : Int)) = true := decide_eq_true c47
                        clear c47
                        obtain ⟨bq48, hbq48⟩ : ∃ b_ : Bool, b_ = (rdOf false x6_3 x49_3) := ⟨_, rfl⟩
                        replace H : (if bq48 = true then (if x49_3 < (x9_3.length : Int) then (if x49_3 < ((rd_L9 x7_3 x32_2).length : Int) then (dom_over.l2 k3 (l0_4.length : Int) x4_1 x6_3 (x7_3.set (x32_2 : Int).toNat ((rd_L9 x7_3 x32_2).set (x49_3 : Int).toNat (!(rdOf false x9_3 x49_3)))) x32_2 x9_3 (l0_4.length : Int) x32_2 (l0_4.length : Int) (wrap64 (x49_3 + 1))) else (none)) else (none)) else (if x49_3 < ((rd_L9 x7_3 x32_2).length : Int) then (dom_over.l2 k3 (l0_4.length : Int) x4_1 x6_3 (x7_3.set (x32_2 : Int).toNat ((rd_L9 x7_3 x32_2).set (x49_3 : Int).toNat false)) x32_2 x9_3 (l0_4.length : Int) x32_2 (l0_4.length : Int) (wrap64 (x49_3 + 1))) else (none))) = some r := by rw [← hbq48] at H; exact H
                        have Nbq48 := Aside0.mk hbq48
                        clear hbq48
                        (try rw [← Nbq48.out] at hx427_0)
                        by_cases c49 : bq48 = true
                        ·subst c49
                         have H1 : (if x49_3 < (x9_3.length : Int) then (if x49_3 < ((rd_L9 x7_3 x32_2).length : Int) then (dom_over.l2 k3 (l0_4.length : Int) x4_1 x6_3 (x7_3.set (x32_2 : Int).toNat ((rd_L9 x7_3 x32_2).set (x49_3 : Int).toNat (!(rdOf false x9_3 x49_3)))) x32_2 x9_3 (l0_4.length : Int) x32_2 (l0_4.length : Int) (wrap64 (x49_3 + 1))) else (none)) else (none)) = some r := by rw [if_pos rfl] at H; exact H
                         clear H; have H := H1; clear H1
                         by_cases c50 : x49_3 < (x9_3.length : Int)
                         ·rw [if_pos c50] at H
                          have c50b0 : decide (x49_3 < (x9_3.length : Int)) = true := decide_eq_true c50
                          clear c50
                          by_cases c51 : x49_3 < ((rd_L9 x7_3 x32_2).length : Int)
                          ·rw [if_pos c51] at H
                           have c51b0 : decide (x49_3 < ((rd_L9 x7_3 x32_2).length : Int)) = true := decide_eq_true c51
                           clear c51
                           obtain ⟨y434, hy434⟩ : ∃ y_ : List Bool, y_ = ((rd_L9 x7_3 x32_2).set (x49_3 : Int).toNat (!(rdOf false x9_3 x49_3))) := ⟨_, rfl⟩
                           replace H : (dom_over.l2 k3 (l0_4.length : Int) x4_1 x6_3 (x7_3.set (x32_2 : Int).toNat y434) x32_2 x9_3 (l0_4.length : Int) x32_2 (l0_4.length : Int) (wrap64 (x49_3 + 1))) = some r := by first | (rw [hy434]; with_reducible exact H) | (have H2_ := (Option.bind_some _ _).symm.trans H; rw [hy434]; with_reducible exact H2_) | (have H2_ := (Option.bind_some _ _).symm.trans H; with_reducible exact H2_) | with_reducible exact H | (rw [hy434]; exact H) | exact H
                           have Ny434 := Aside0.mk hy434
                           clear hy434
                           obtain ⟨y436, hy436⟩ : ∃ y_ : List (List Bool), y_ = (x7_3.set (x32_2 : Int).toNat y434) := ⟨_, rfl⟩
                           replace H : (dom_over.l2 k3 (l0_4.length : Int) x4_1 x6_3 y436 x32_2 x9_3 (l0_4.length : Int) x32_2 (l0_4.length : Int) (wrap64 (x49_3 + 1))) = some r := by first | (rw [hy436]; with_reducible exact H) | (have H2_ := (Option.bind_some _ _).symm.trans H; rw [hy436]; with_reducible exact H2_) | (have H2_ := (Option.bind_some _ _).symm.trans H; with_reducible exact H2_) | with_reducible exact H | (rw [hy436]; exact H) | exact H
                           have Ny436 := Aside0.mk hy436
                           clear hy436
                           have H' := Aside0.mk H
                           clear H
                           try go_wp2
                           have n0_ := Aside0.mk (Kd.S_drew HO_4.out); have n1_ := Aside0.mk (Kd.R_drew HO_6.out); have n2_ := Aside0.mk (Kd.S_drew HO_7.out); have n3_ := Aside0.mk (Kd.R_drew HO_9.out); have n4_ := Aside0.mk (blk_drew BK409.out); have n5_ := Aside0.mk (below_drew1 HB.out); clear HO_4 HO_6 HO_7 HO_9 BK409 HB; have HO_4 := n0_; have HO_6 := n1_; have HO_7 := n2_; have HO_9 := n3_; have BK409 := n4_; have HB := n5_; clear n0_ n1_ n2_ n3_ n4_ n5_
                           have p431 : 0 ≤ (x32_2 : Int) := of_decide_eq_true (by first | (with_reducible assumption) | assumption)
                           have q431 : x32_2 < (x7_3.length : Int) := of_decide_eq_true (by first | (with_reducible assumption) | assumption)
                           obtain ⟨ad431, A431_0, c431_0, e431, hx431_0, hl431_0, hi431_0⟩ := at_L9 (Kd.S_reads' HO_7.out).2.2 x32_2 p431 q431
                           obtain rfl : (⟨go30, 0, none⟩ : Addr) = ad431 := (by injection e431)
                           obtain ⟨ce431, hce431, hMe431, hcc431⟩ := Kd.S_get HO_7.out [] x32_2 p431 (by first | exact q431 | exact of_decide_eq_true (by first | (with_reducible assumption) | assumption) | (have e_ := (Kd.S_reads' HO_7.out).1; omega))
                           obtain ⟨ve431_0, rfl, ge431_0⟩ := hMe431
                           have hv431_0 := hcc431 0 _ rfl
                           rw [Nat.add_zero, show ((Kd.slice 4 Kd.bool)).sz = 1 from rfl, Nat.mul_one] at hv431_0
                           replace hv431_0 := Option.some.inj (hv431_0.symm.trans hx431_0)
                           rw [hv431_0] at ge431_0
                           have HL431_0 := Aside0.mk (show Kd.R Kd.bool 4 _ _ _ _ (rd_L9 x7_3 x32_2) from ge431_0); clear hv431_0 ge431_0
                           have HX431_0 := Aside0.mk hx431_0
                           clear hcc431 hce431
                           (first | simp only [add_plain] at hx431_0 | simp only [add_at] at hx431_0 | simp only [Addr.add, Nat.zero_add] at hx431_0 | skip)
                           have HR431_0 := Aside0.mk hi431_0
                           have HC431_0 := Aside0.mk hl431_0
                           clear hi431_0 hl431_0
                           replace p431 := eq_true p431
                           replace q431 := eq_true q431
                           have p432 : 0 ≤ (x49_3 : Int) := of_decide_eq_true (by first | (with_reducible assumption) | assumption)
                           have q432 : x49_3 < (x6_3.length : Int) := of_decide_eq_true (by first | (with_reducible assumption) | assumption)
                           obtain ⟨ad432, e432, hx432_0⟩ := Kd.at_bool (Kd.R_reads' HO_6.out).2.2 x49_3 p432 q432
                           (try rw [← Nbq32.out] at hx432_0)
                           (try rw [← Nbq48.out] at hx432_0)
                           obtain rfl : ad427 = ad432 := (by injection e432)
                           replace p432 := eq_true p432
                           replace q432 := eq_true q432
                           obtain ⟨Ao54, co54, eo54⟩ := Kd.R_slice HO_9.out
                           (first | subst eo54 | (injection eo54 with f1_ f2_ f3_; have f4_ := f1_.symm; have f5_ := f3_.symm; clear f1_ f2_ f3_; subst f4_; subst f5_))
                           have p433 : 0 ≤ (x49_3 : Int) := of_decide_eq_true (by first | (with_reducible assumption) | assumption)
                           have q433 : x49_3 < (x9_3.length : Int) := of_decide_eq_true (by first | (with_reducible assumption) | assumption)
                           obtain ⟨ad433, e433, hx433_0⟩ := Kd.at_bool (Kd.R_reads' HO_9.out).2.2 x49_3 p433 q433
                           (try rw [← Nbq32.out] at hx433_0)
                           (try rw [← Nbq48.out] at hx433_0)
                           cases e433
                           replace p433 := eq_true p433
                           replace q433 := eq_true q433
                           have p52 : 0 ≤ (x49_3 : Int) := of_decide_eq_true (by first | (with_reducible assumption) | assumption)
                           have q52 : (x49_3 : Int) < (((rd_L9 x7_3 x32_2).length : Int) : Int) := of_decide_eq_true (by first | (with_reducible assumption) | assumption)
                           obtain ⟨go52, co52, eo52, gb52, gl52, cl52, HG52⟩ := Kd.R_form HL431_0.out (by omega)
                           (first | cases eo52 | (injection eo52 with ea_ en_ ec_; (first | subst ea_ | (injection ea_ with ea_; subst ea_)); subst ec_; clear en_))
                           have GB52 := Aside0.mk gb52
                           have GG52 := Aside0.mk HG52
                           clear gb52 gl52 HG52
                           obtain ⟨hx52_0, hf52_0⟩ := Kd.R_celln false HL431_0.out (x49_3 : Int) p52 q52
                           replace p52 := eq_true p52
                           replace q52 := eq_true q52
                           have hq55 : (x32_2 : Int) < (x7_3.length : Int) := (by have h_ : (x32_2 : Int) < ((x7_3.length : Int) : Int) := of_decide_eq_true (by first | (with_reducible assumption) | assumption); first | exact h_ | (have e_ := (Kd.S_reads' HO_7.out).1; omega) | simpa only [List.length_set, List.length_set] using h_)
                           obtain ⟨oki55, ce55, hcl55, hM55, hcc55, hok55, hbk55⟩ := Kd.S_borrow HO_7.out [] (x32_2 : Int) (of_decide_eq_true (by first | (with_reducible assumption) | assumption)) hq55
                           obtain ⟨ve55_0, rfl, ge55_0⟩ := hM55
                           have hv55 := hcc55 0 _ rfl
                           rw [Nat.add_zero, show ((Kd.slice 4 Kd.bool)).sz = 1 from rfl, Nat.mul_one] at hv55
                           replace hv55 := Option.some.inj (hv55.symm.trans HX431_0.out)
                           subst hv55
                           clear hcc55 hcl55
                           replace ge55_0 := (show Kd.R Kd.bool 4 _ _ _ _ (rd_L9 x7_3 x32_2) from ge55_0)
                           have HP55 := Kd.R_putg ge55_0 (x49_3 : Int) (!(rdOf false x9_3 x49_3))
                           rw [← Ny434.out] at HP55
                           have HS55 := hbk55 HP55.2 (fun k_ e_ => by injection e_ with e_; subst e_; exact ge55_0.1 _ rfl) (x' := y434) (Kd.M_row HP55.1)
                           rw [← Ny436.out] at HS55
                           have HQ55 := Aside0.mk HS55
                           clear HP55 HS55 hbk55 hok55
                           refine start_ (n := 18) (S := fun w' => w'.cell? ⟨go30, (x32_2).toNat, none⟩ = some (.slice (some ⟨go52, 0, none⟩) (rd_L9 x7_3 x32_2).length c431_0) ∧ w'.cell? (ad427.add (x49_3).toNat) = some (.bool true) ∧ w'.cell? (ad433.add (x49_3).toNat) = some (.bool (rdOf false x9_3 x49_3))) (ds := [17]) #[false, false, false, false, false, false, false, false, false, false, false, false, false, false, false, false, false, false] (by kernel_rfl) rfl rfl ⟨hx431_0, hx432_0, hx433_0⟩ (fun hHeld => ?_); refine with_tabW dom_over.tab19 dom_over.bits19 (fun HT_ HW_ => ?_)
                           generalize wr.drew = w53 at HO_4 HO_6 HO_7 HO_9 BK409 HB GG52 HL431_0 HQ55 HR431_0 HX431_0 hf52_0 hx431_0 hx432_0 hx433_0 hx52_0 hHeld ⊢
                           refine pure_ (i := 0) (N := some 52) (v := ?_) (a' := ?_) #[true, false, false, false, false, false, false, false, false, false, false, false, false, false, false, false, false, false] rfl rfl (any_of HT_.out (by kernel_rfl)) (fun _ _ _ h => h) (Or.inl ⟨by rfl, ?_⟩) ?_ ?_
                           rotate_left
                           ·intro w'
                            go_simp
                            with_reducible rfl
                           rotate_left
                           ·simp only [Act.put, List.setIfInBounds_toArray, List.set_cons_zero, List.set_cons_succ, i64_w, i32_w]; rfl
                           refine pure_ (i := 1) (N := some 53) (v := ?_) (a' := ?_) #[true, true, false, false, false, false, false, false, false, false, false, false, false, false, false, false, false, false] rfl rfl (any_of HT_.out (by kernel_rfl)) (fun _ _ _ h => h) (Or.inl ⟨by rfl, ?_⟩) ?_ ?_
                           rotate_left
                           ·intro w'
                            go_simp
                            with_reducible rfl
                           rotate_left
                           ·simp only [Act.put, List.setIfInBounds_toArray, List.set_cons_zero, List.set_cons_succ, i64_w, i32_w]; rfl
                           refine pure_ (i := 2) (N := some 54) (v := ?_) (a' := ?_) #[true, true, true, false, false, false, false, false, false, false, false, false, false, false, false, false, false, false] rfl rfl (any_of HT_.out (by kernel_rfl)) (fun _ _ _ h => h) (Or.inl ⟨by rfl, ?_⟩) ?_ ?_
                           rotate_left
                           ·intro w'
                            go_simp
                            with_reducible rfl
                           rotate_left
                           ·simp only [Act.put, List.setIfInBounds_toArray, List.set_cons_zero, List.set_cons_succ, i64_w, i32_w]; rfl
                           refine pure_ (i := 4) (N := some 56) (v := ?_) (a' := ?_) #[true, true, true, false, true, false, false, false, false, false, false, false, false, false, false, false, false, false] rfl rfl (any_of HT_.out (by kernel_rfl)) (fun _ _ _ h => h) (Or.inl ⟨by rfl, ?_⟩) ?_ ?_
                           rotate_left
                           ·intro w'
                            go_simp
                            with_reducible rfl
                           rotate_left
                           ·simp only [Act.put, List.setIfInBounds_toArray, List.set_cons_zero, List.set_cons_succ, i64_w, i32_w]; rfl
                           refine pure_ (i := 5) (N := some 57) (v := ?_) (a' := ?_) #[true, true, true, false, true, true, false, false, false, false, false, false, false, false, false, false, false, false] rfl rfl (any_of HT_.out (by kernel_rfl)) (fun _ _ _ h => h) (Or.inl ⟨by rfl, ?_⟩) ?_ ?_
                           rotate_left
                           ·intro w'
                            go_simp
                            with_reducible rfl
                           rotate_left
                           ·simp only [Act.put, List.setIfInBounds_toArray, List.set_cons_zero, List.set_cons_succ, i64_w, i32_w]; rfl
                           refine pure_ (i := 6) (N := some 58) (v := ?_) (a' := ?_) #[true, true, true, false, true, true, true, false, false, false, false, false, false, false, false, false, false, false] rfl rfl (any_of HT_.out (by kernel_rfl)) (fun _ _ _ h => h) (Or.inl ⟨by rfl, ?_⟩) ?_ ?_
                           rotate_left
                           ·intro w'
                            go_simp
                            with_reducible rfl
                           rotate_left
                           ·simp only [Act.put, List.setIfInBounds_toArray, List.set_cons_zero, List.set_cons_succ, i64_w, i32_w]; rfl
                           refine pure_ (i := 7) (N := some 59) (v := ?_) (a' := ?_) #[true, true, true, false, true, true, true, true, false, false, false, false, false, false, false, false, false, false] rfl rfl (any_of HT_.out (by kernel_rfl)) (fun _ _ _ h => h) (Or.inl ⟨by rfl, ?_⟩) ?_ ?_
                           rotate_left
                           ·intro w'
                            go_simp
                            with_reducible rfl
                           rotate_left
                           ·simp only [Act.put, List.setIfInBounds_toArray, List.set_cons_zero, List.set_cons_succ, i64_w, i32_w]; rfl
                           refine take_ (i := 3) (N := some 55) (v := ?_) (a' := ?_) #[true, true, true, true, true, true, true, true, false, false, false, false, false, false, false, false, false, false] rfl rfl (take_ofW HT_.out HW_.out (by kernel_rfl)) (fun _ _ _ h => h) (Or.inl ⟨by rfl, ?_⟩) hHeld ?_ ?_
                           rotate_left
                           ·rintro w' ⟨s0, s1, s2⟩
                            go_simp
                            with_reducible rfl
                           rotate_left
                           ·simp only [Act.put, List.setIfInBounds_toArray, List.set_cons_zero, List.set_cons_succ, i64_w, i32_w]; rfl
                           refine take_ (i := 8) (N := some 60) (v := ?_) (a' := ?_) #[true, true, true, true, true, true, true, true, true, false, false, false, false, false, false, false, false, false] rfl rfl (take_ofW HT_.out HW_.out (by kernel_rfl)) (fun _ _ _ h => h) (Or.inl ⟨by rfl, ?_⟩) hHeld ?_ ?_
                           rotate_left
                           ·rintro w' ⟨s0, s1, s2⟩
                            go_simp
                            with_reducible rfl
                           rotate_left
                           ·simp only [Act.put, List.setIfInBounds_toArray, List.set_cons_zero, List.set_cons_succ, i64_w, i32_w]; rfl
                           refine pure_ (i := 9) (N := some 61) (v := ?_) (a' := ?_) #[true, true, true, true, true, true, true, true, true, true, false, false, false, false, false, false, false, false] rfl rfl (any_of HT_.out (by kernel_rfl)) (fun _ _ _ h => h) (Or.inl ⟨by rfl, ?_⟩) ?_ ?_
                           rotate_left
                           ·intro w'
                            go_simp
                            with_reducible rfl
                           rotate_left
                           ·simp only [Act.put, List.setIfInBounds_toArray, List.set_cons_zero, List.set_cons_succ, i64_w, i32_w]; rfl
                           refine pure_ (i := 10) (N := some 62) (v := ?_) (a' := ?_) #[true, true, true, true, true, true, true, true, true, true, true, false, false, false, false, false, false, false] rfl rfl (any_of HT_.out (by kernel_rfl)) (fun _ _ _ h => h) (Or.inl ⟨by rfl, ?_⟩) ?_ ?_
                           rotate_left
                           ·intro w'
                            go_simp
                            with_reducible rfl
                           rotate_left
                           ·simp only [Act.put, List.setIfInBounds_toArray, List.set_cons_zero, List.set_cons_succ, i64_w, i32_w]; rfl
                           refine pure_ (i := 11) (N := some 63) (v := ?_) (a' := ?_) #[true, true, true, true, true, true, true, true, true, true, true, true, false, false, false, false, false, false] rfl rfl (any_of HT_.out (by kernel_rfl)) (fun _ _ _ h => h) (Or.inl ⟨by rfl, ?_⟩) ?_ ?_
                           rotate_left
                           ·intro w'
                            go_simp
                            with_reducible rfl
                           rotate_left
                           ·simp only [Act.put, List.setIfInBounds_toArray, List.set_cons_zero, List.set_cons_succ, i64_w, i32_w]; rfl
                           refine pure_ (i := 12) (N := some 64) (v := ?_) (a' := ?_) #[true, true, true, true, true, true, true, true, true, true, true, true, true, false, false, false, false, false] rfl rfl (any_of HT_.out (by kernel_rfl)) (fun _ _ _ h => h) (Or.inl ⟨by rfl, ?_⟩) ?_ ?_
                           rotate_left
                           ·intro w'
                            go_simp
                            with_reducible rfl
                           rotate_left
                           ·simp only [Act.put, List.setIfInBounds_toArray, List.set_cons_zero, List.set_cons_succ, i64_w, i32_w]; rfl
                           refine take_ (i := 13) (N := some 65) (v := ?_) (a' := ?_) #[true, true, true, true, true, true, true, true, true, true, true, true, true, true, false, false, false, false] rfl rfl (take_ofW HT_.out HW_.out (by kernel_rfl)) (fun _ _ _ h => h) (Or.inl ⟨by rfl, ?_⟩) hHeld ?_ ?_
                           rotate_left
                           ·rintro w' ⟨s0, s1, s2⟩
                            go_simp
                            with_reducible rfl
                           rotate_left
                           ·simp only [Act.put, List.setIfInBounds_toArray, List.set_cons_zero, List.set_cons_succ, i64_w, i32_w]; rfl
                           refine pure_ (i := 14) (N := some 66) (v := ?_) (a' := ?_) #[true, true, true, true, true, true, true, true, true, true, true, true, true, true, true, false, false, false] rfl rfl (any_of HT_.out (by kernel_rfl)) (fun _ _ _ h => h) (Or.inl ⟨by rfl, ?_⟩) ?_ ?_
                           rotate_left
                           ·intro w'
                            go_simp
                            with_reducible rfl
                           rotate_left
                           ·simp only [Act.put, List.setIfInBounds_toArray, List.set_cons_zero, List.set_cons_succ, i64_w, i32_w]; rfl
                           refine pure_ (i := 15) (N := some 67) (v := ?_) (a' := ?_) #[true, true, true, true, true, true, true, true, true, true, true, true, true, true, true, true, false, false] rfl rfl (any_of HT_.out (by kernel_rfl)) (fun _ _ _ h => h) (Or.inl ⟨by rfl, ?_⟩) ?_ ?_
                           rotate_left
                           ·intro w'
                            go_simp
                            with_reducible rfl
                           rotate_left
                           ·simp only [Act.put, List.setIfInBounds_toArray, List.set_cons_zero, List.set_cons_succ, i64_w, i32_w]; rfl
                           refine pure_ (i := 16) (N := some 68) (v := ?_) (a' := ?_) #[true, true, true, true, true, true, true, true, true, true, true, true, true, true, true, true, true, false] rfl rfl (any_of HT_.out (by kernel_rfl)) (fun _ _ _ h => h) (Or.inl ⟨by rfl, ?_⟩) ?_ ?_
                           rotate_left
                           ·intro w'
                            go_simp
                            with_reducible rfl
                           rotate_left
                           ·simp only [Act.put, List.setIfInBounds_toArray, List.set_cons_zero, List.set_cons_succ, i64_w, i32_w]; rfl
                           refine last_ (i := 17) (N := none) #[true, true, true, true, true, true, true, true, true, true, true, true, true, true, true, true, true, true] rfl rfl (one_of HT_.out (by kernel_rfl)) (by decide) (fun K hK => ?_)
                           refine skip_ (w1 := ?_) (by rfl) rfl ?_ ?_
                           rotate_left
                           ·go_simp
                            rfl
                           refine hK.out _ _ ?_
                           clear hK K
                           refine done_ (done_of HT_.out (by kernel_rfl)) ?_
                           try go_wp2
                           (try simp only [← hl6_3, ← hl7_3])
                           go_roundg k3
                           case measure => have := HK1.out; have := HK2.out; have := HK3.out; omega
                           case rel => exact ⟨(x6_3), (y436), (x9_3), (wrap64 (x49_3 + 1)), (by first | rfl | (simp; done) | (simp [*]; done)), H', ⟨by have := HK1.out; have := HK2.out; have := HK3.out; omega⟩, ⟨by (try simp only [hl6_3]); (try simp only [hl7_3]); (with_reducible repeat (first | apply Kd.S_alloc | apply Kd.S_drewN | apply Kd.S_drew)); exact Kd.S_mono (Kd.S_far (p := ⟨go52, (x49_3 : Int).toNat, none⟩) (Kd.S_types HO_4.out GG52.out (by decide)) (fun _ hk => hk.2) (.bool (!(rdOf false x9_3 x49_3)))) (fun _ hk => trivial)⟩, ⟨by (try simp only [hl6_3]); (try simp only [hl7_3]); (with_reducible repeat (first | apply Kd.R_alloc | apply Kd.R_drewN | apply Kd.R_drew)); exact Kd.R_mono (Kd.R_far (p := ⟨go52, (x49_3 : Int).toNat, none⟩) (Kd.R_far1 HO_6.out rfl ((HL431_0.out.1 _ rfl).1.1)) (fun _ hk => hk.2) (.bool (!(rdOf false x9_3 x49_3)))) (fun _ hk => hk.1)⟩, ⟨by (try simp only [hl6_3]); (try simp only [hl7_3]); (with_reducible repeat (first | apply Kd.S_alloc | apply Kd.S_drewN | apply Kd.S_drew)); exact HQ55.out⟩, ⟨by (try simp only [hl6_3]); (try simp only [hl7_3]); (with_reducible repeat (first | apply Kd.R_alloc | apply Kd.R_drewN | apply Kd.R_drew)); exact Kd.R_mono (Kd.R_far (p := ⟨go52, (x49_3 : Int).toNat, none⟩) (Kd.R_far1 HO_9.out rfl ((HL431_0.out.1 _ rfl).1.2)) (fun _ hk => hk.2) (.bool (!(rdOf false x9_3 x49_3)))) (fun _ hk => hk.1)⟩, ⟨by (try simp only [hl6_3]); (try simp only [hl7_3]); (with_reducible repeat (first | refine blk_drewN ?_ _ | refine blk_drew ?_ | refine blk_alloc ?_ _)); refine blk_far ?_ (by have h_ := Kd.R_ne HL431_0.out BK409.out (by decide); intro e_; exact h_ (by rw [e_]; rfl)) _; (with_reducible repeat (first | refine blk_drewN ?_ _ | refine blk_drew ?_ | refine blk_alloc ?_ _)); exact BK409.out⟩, ⟨by repeat (first | (with_reducible first | exact HB.out | apply below_alloc | apply pw_below_drewN | apply below_drew1 | refine below_set ?_ GB52.out | refine below_set ?_ GE409.out) | exact HB.out)⟩⟩
                          ·rw [if_neg c51] at H
                           exact absurd H (by simp)
                         ·rw [if_neg c50] at H
                          exact absurd H (by simp)
                        ·replace c49 := Bool.eq_false_iff.mpr c49
                         subst c49
                         have H1 : (if x49_3 < ((rd_L9 x7_3 x32_2).length : Int) then (dom_over.l2 k3 (l0_4.length : Int) x4_1 x6_3 (x7_3.set (x32_2 : Int).toNat ((rd_L9 x7_3 x32_2).set (x49_3 : Int).toNat false)) x32_2 x9_3 (l0_4.length : Int) x32_2 (l0_4.length : Int) (wrap64 (x49_3 + 1))) else (none)) = some r := by rw [if_neg (show ¬ (false = true) by decide)] at H; exact H
                         clear H; have H := H1; clear H1
                         by_cases c57 : x49_3 < ((rd_L9 x7_3 x32_2).length : Int)
                         ·rw [if_pos c57] at H
                          have c57b0 : decide (x49_3 < ((rd_L9 x7_3 x32_2).length : Int)) = true := decide_eq_true c57
                          clear c57
                          obtain ⟨y437, hy437⟩ : ∃ y_ : List Bool, y_ = ((rd_L9 x7_3 x32_2).set (x49_3 : Int).toNat false) := ⟨_, rfl⟩
                          replace H : (dom_over.l2 k3 (l0_4.length : Int) x4_1 x6_3 (x7_3.set (x32_2 : Int).toNat y437) x32_2 x9_3 (l0_4.length : Int) x32_2 (l0_4.length : Int) (wrap64 (x49_3 + 1))) = some r := by first | (rw [hy437]; with_reducible exact H) | (have H2_ := (Option.bind_some _ _).symm.trans H; rw [hy437]; with_reducible exact H2_) | (have H2_ := (Option.bind_some _ _).symm.trans H; with_reducible exact H2_) | with_reducible exact H | (rw [hy437]; exact H) | exact H
                          have Ny437 := Aside0.mk hy437
                          clear hy437
                          obtain ⟨y439, hy439⟩ : ∃ y_ : List (List Bool), y_ = (x7_3.set (x32_2 : Int).toNat y437) := ⟨_, rfl⟩
                          replace H : (dom_over.l2 k3 (l0_4.length : Int) x4_1 x6_3 y439 x32_2 x9_3 (l0_4.length : Int) x32_2 (l0_4.length : Int) (wrap64 (x49_3 + 1))) = some r := by first | (rw [hy439]; with_reducible exact H) | (have H2_ := (Option.bind_some _ _).symm.trans H; rw [hy439]; with_reducible exact H2_) | (have H2_ := (Option.bind_some _ _).symm.trans H; with_reducible exact H2_) | with_reducible exact H | (rw [hy439]; exact H) | exact H
                          have Ny439 := Aside0.mk hy439
                          clear hy439
                          have H' := Aside0.mk H
                          clear H
                          try go_wp2
                          have n0_ := Aside0.mk (Kd.S_drew HO_4.out); have n1_ := Aside0.mk (Kd.R_drew HO_6.out); have n2_ := Aside0.mk (Kd.S_drew HO_7.out); have n3_ := Aside0.mk (Kd.R_drew HO_9.out); have n4_ := Aside0.mk (blk_drew BK409.out); have n5_ := Aside0.mk (below_drew1 HB.out); clear HO_4 HO_6 HO_7 HO_9 BK409 HB; have HO_4 := n0_; have HO_6 := n1_; have HO_7 := n2_; have HO_9 := n3_; have BK409 := n4_; have HB := n5_; clear n0_ n1_ n2_ n3_ n4_ n5_
                          have p431 : 0 ≤ (x32_2 : Int) := of_decide_eq_true (by first | (with_reducible assumption) | assumption)
                          have q431 : x32_2 < (x7_3.length : Int) := of_decide_eq_true (by first | (with_reducible assumption) | assumption)
                          obtain ⟨ad431, A431_0, c431_0, e431, hx431_0, hl431_0, hi431_0⟩ := at_L9 (Kd.S_reads' HO_7.out).2.2 x32_2 p431 q431
                          obtain rfl : (⟨go30, 0, none⟩ : Addr) = ad431 := (by injection e431)
                          obtain ⟨ce431, hce431, hMe431, hcc431⟩ := Kd.S_get HO_7.out [] x32_2 p431 (by first | exact q431 | exact of_decide_eq_true (by first | (with_reducible assumption) | assumption) | (have e_ := (Kd.S_reads' HO_7.out).1; omega))
                          obtain ⟨ve431_0, rfl, ge431_0⟩ := hMe431
                          have hv431_0 := hcc431 0 _ rfl
                          rw [Nat.add_zero, show ((Kd.slice 4 Kd.bool)).sz = 1 from rfl, Nat.mul_one] at hv431_0
                          replace hv431_0 := Option.some.inj (hv431_0.symm.trans hx431_0)
                          rw [hv431_0] at ge431_0
                          have HL431_0 := Aside0.mk (show Kd.R Kd.bool 4 _ _ _ _ (rd_L9 x7_3 x32_2) from ge431_0); clear hv431_0 ge431_0
                          have HX431_0 := Aside0.mk hx431_0
                          clear hcc431 hce431
                          (first | simp only [add_plain] at hx431_0 | simp only [add_at] at hx431_0 | simp only [Addr.add, Nat.zero_add] at hx431_0 | skip)
                          have HR431_0 := Aside0.mk hi431_0
                          have HC431_0 := Aside0.mk hl431_0
                          clear hi431_0 hl431_0
                          replace p431 := eq_true p431
                          replace q431 := eq_true q431
                          have p432 : 0 ≤ (x49_3 : Int) := of_decide_eq_true (by first | (with_reducible assumption) | assumption)
                          have q432 : x49_3 < (x6_3.length : Int) := of_decide_eq_true (by first | (with_reducible assumption) | assumption)
                          obtain ⟨ad432, e432, hx432_0⟩ := Kd.at_bool (Kd.R_reads' HO_6.out).2.2 x49_3 p432 q432
                          (try rw [← Nbq32.out] at hx432_0)
                          (try rw [← Nbq48.out] at hx432_0)
                          obtain rfl : ad427 = ad432 := (by injection e432)
                          replace p432 := eq_true p432
                          replace q432 := eq_true q432
                          have p58 : 0 ≤ (x49_3 : Int) := of_decide_eq_true (by first | (with_reducible assumption) | assumption)
                          have q58 : (x49_3 : Int) < (((rd_L9 x7_3 x32_2).length : Int) : Int) := of_decide_eq_true (by first | (with_reducible assumption) | assumption)
                          obtain ⟨go58, co58, eo58, gb58, gl58, cl58, HG58⟩ := Kd.R_form HL431_0.out (by omega)
                          (first | cases eo58 | (injection eo58 with ea_ en_ ec_; (first | subst ea_ | (injection ea_ with ea_; subst ea_)); subst ec_; clear en_))
                          have GB58 := Aside0.mk gb58
                          have GG58 := Aside0.mk HG58
                          clear gb58 gl58 HG58
                          obtain ⟨hx58_0, hf58_0⟩ := Kd.R_celln false HL431_0.out (x49_3 : Int) p58 q58
                          replace p58 := eq_true p58
                          replace q58 := eq_true q58
                          have hq60 : (x32_2 : Int) < (x7_3.length : Int) := (by have h_ : (x32_2 : Int) < ((x7_3.length : Int) : Int) := of_decide_eq_true (by first | (with_reducible assumption) | assumption); first | exact h_ | (have e_ := (Kd.S_reads' HO_7.out).1; omega) | simpa only [List.length_set, List.length_set] using h_)
                          obtain ⟨oki60, ce60, hcl60, hM60, hcc60, hok60, hbk60⟩ := Kd.S_borrow HO_7.out [] (x32_2 : Int) (of_decide_eq_true (by first | (with_reducible assumption) | assumption)) hq60
                          obtain ⟨ve60_0, rfl, ge60_0⟩ := hM60
                          have hv60 := hcc60 0 _ rfl
                          rw [Nat.add_zero, show ((Kd.slice 4 Kd.bool)).sz = 1 from rfl, Nat.mul_one] at hv60
                          replace hv60 := Option.some.inj (hv60.symm.trans HX431_0.out)
                          subst hv60
                          clear hcc60 hcl60
                          replace ge60_0 := (show Kd.R Kd.bool 4 _ _ _ _ (rd_L9 x7_3 x32_2) from ge60_0)
                          have HP60 := Kd.R_putg ge60_0 (x49_3 : Int) false
                          rw [← Ny437.out] at HP60
                          have HS60 := hbk60 HP60.2 (fun k_ e_ => by injection e_ with e_; subst e_; exact ge60_0.1 _ rfl) (x' := y437) (Kd.M_row HP60.1)
                          rw [← Ny439.out] at HS60
                          have HQ60 := Aside0.mk HS60
                          clear HP60 HS60 hbk60 hok60
                          refine start_ (n := 18) (S := fun w' => w'.cell? ⟨go30, (x32_2).toNat, none⟩ = some (.slice (some ⟨go58, 0, none⟩) (rd_L9 x7_3 x32_2).length c431_0) ∧ w'.cell? (ad427.add (x49_3).toNat) = some (.bool false)) (ds := [17]) #[false, false, false, false, false, false, false, false, false, false, false, false, false, false, false, false, false, false] (by kernel_rfl) rfl rfl ⟨hx431_0, hx432_0⟩ (fun hHeld => ?_); refine with_tabW dom_over.tab19 dom_over.bits19 (fun HT_ HW_ => ?_)
                          generalize wr.drew = w59 at HO_4 HO_6 HO_7 HO_9 BK409 HB GG58 HL431_0 HQ60 HR431_0 HX431_0 hf58_0 hx431_0 hx432_0 hx58_0 hHeld ⊢
                          refine pure_ (i := 0) (N := some 52) (v := ?_) (a' := ?_) #[true, false, false, false, false, false, false, false, false, false, false, false, false, false, false, false, false, false] rfl rfl (any_of HT_.out (by kernel_rfl)) (fun _ _ _ h => h) (Or.inl ⟨by rfl, ?_⟩) ?_ ?_
                          rotate_left
                          ·intro w'
                           go_simp
                           with_reducible rfl
                          rotate_left
                          ·simp only [Act.put, List.setIfInBounds_toArray, List.set_cons_zero, List.set_cons_succ, i64_w, i32_w]; rfl
                          refine pure_ (i := 1) (N := some 53) (v := ?_) (a' := ?_) #[true, true, false, false, false, false, false, false, false, false, false, false, false, false, false, false, false, false] rfl rfl (any_of HT_.out (by kernel_rfl)) (fun _ _ _ h => h) (Or.inl ⟨by rfl, ?_⟩) ?_ ?_
                          rotate_left
                          ·intro w'
                           go_simp
                           with_reducible rfl
                          rotate_left
                          ·simp only [Act.put, List.setIfInBounds_toArray, List.set_cons_zero, List.set_cons_succ, i64_w, i32_w]; rfl
                          refine pure_ (i := 2) (N := some 54) (v := ?_) (a' := ?_) #[true, true, true, false, false, false, false, false, false, false, false, false, false, false, false, false, false, false] rfl rfl (any_of HT_.out (by kernel_rfl)) (fun _ _ _ h => h) (Or.inl ⟨by rfl, ?_⟩) ?_ ?_
                          rotate_left
                          ·intro w'
                           go_simp
                           with_reducible rfl
                          rotate_left
                          ·simp only [Act.put, List.setIfInBounds_toArray, List.set_cons_zero, List.set_cons_succ, i64_w, i32_w]; rfl
                          refine pure_ (i := 4) (N := some 56) (v := ?_) (a' := ?_) #[true, true, true, false, true, false, false, false, false, false, false, false, false, false, false, false, false, false] rfl rfl (any_of HT_.out (by kernel_rfl)) (fun _ _ _ h => h) (Or.inl ⟨by rfl, ?_⟩) ?_ ?_
                          rotate_left
                          ·intro w'
                           go_simp
                           with_reducible rfl
                          rotate_left
                          ·simp only [Act.put, List.setIfInBounds_toArray, List.set_cons_zero, List.set_cons_succ, i64_w, i32_w]; rfl
                          refine pure_ (i := 5) (N := some 57) (v := ?_) (a' := ?_) #[true, true, true, false, true, true, false, false, false, false, false, false, false, false, false, false, false, false] rfl rfl (any_of HT_.out (by kernel_rfl)) (fun _ _ _ h => h) (Or.inl ⟨by rfl, ?_⟩) ?_ ?_
                          rotate_left
                          ·intro w'
                           go_simp
                           with_reducible rfl
                          rotate_left
                          ·simp only [Act.put, List.setIfInBounds_toArray, List.set_cons_zero, List.set_cons_succ, i64_w, i32_w]; rfl
                          refine pure_ (i := 6) (N := some 58) (v := ?_) (a' := ?_) #[true, true, true, false, true, true, true, false, false, false, false, false, false, false, false, false, false, false] rfl rfl (any_of HT_.out (by kernel_rfl)) (fun _ _ _ h => h) (Or.inl ⟨by rfl, ?_⟩) ?_ ?_
                          rotate_left
                          ·intro w'
                           go_simp
                           with_reducible rfl
                          rotate_left
                          ·simp only [Act.put, List.setIfInBounds_toArray, List.set_cons_zero, List.set_cons_succ, i64_w, i32_w]; rfl
                          refine pure_ (i := 7) (N := some 59) (v := ?_) (a' := ?_) #[true, true, true, false, true, true, true, true, false, false, false, false, false, false, false, false, false, false] rfl rfl (any_of HT_.out (by kernel_rfl)) (fun _ _ _ h => h) (Or.inl ⟨by rfl, ?_⟩) ?_ ?_
                          rotate_left
                          ·intro w'
                           go_simp
                           with_reducible rfl
                          rotate_left
                          ·simp only [Act.put, List.setIfInBounds_toArray, List.set_cons_zero, List.set_cons_succ, i64_w, i32_w]; rfl
                          refine take_ (i := 3) (N := some 55) (v := ?_) (a' := ?_) #[true, true, true, true, true, true, true, true, false, false, false, false, false, false, false, false, false, false] rfl rfl (take_ofW HT_.out HW_.out (by kernel_rfl)) (fun _ _ _ h => h) (Or.inl ⟨by rfl, ?_⟩) hHeld ?_ ?_
                          rotate_left
                          ·rintro w' ⟨s0, s1⟩
                           go_simp
                           with_reducible rfl
                          rotate_left
                          ·simp only [Act.put, List.setIfInBounds_toArray, List.set_cons_zero, List.set_cons_succ, i64_w, i32_w]; rfl
                          refine take_ (i := 8) (N := some 60) (v := ?_) (a' := ?_) #[true, true, true, true, true, true, true, true, true, false, false, false, false, false, false, false, false, false] rfl rfl (take_ofW HT_.out HW_.out (by kernel_rfl)) (fun _ _ _ h => h) (Or.inl ⟨by rfl, ?_⟩) hHeld ?_ ?_
                          rotate_left
                          ·rintro w' ⟨s0, s1⟩
                           go_simp
                           with_reducible rfl
                          rotate_left
                          ·simp only [Act.put, List.setIfInBounds_toArray, List.set_cons_zero, List.set_cons_succ, i64_w, i32_w]; rfl
                          refine pure_ (i := 9) (N := some 61) (v := ?_) (a' := ?_) #[true, true, true, true, true, true, true, true, true, true, false, false, false, false, false, false, false, false] rfl rfl (any_of HT_.out (by kernel_rfl)) (fun _ _ _ h => h) (Or.inl ⟨by rfl, ?_⟩) ?_ ?_
                          rotate_left
                          ·intro w'
                           go_simp
                           with_reducible rfl
                          rotate_left
                          ·simp only [Act.put, List.setIfInBounds_toArray, List.set_cons_zero, List.set_cons_succ, i64_w, i32_w]; rfl
                          refine pure_ (i := 10) (N := some 62) (v := undef) (a' := ?_) #[true, true, true, true, true, true, true, true, true, true, true, false, false, false, false, false, false, false] rfl rfl (any_of HT_.out (by kernel_rfl)) (fun _ _ _ h => h) (Or.inr ⟨by rfl, rfl⟩) ?_ ?_
                          rotate_left
                          ·simp only [Act.put, List.setIfInBounds_toArray, List.set_cons_zero, List.set_cons_succ, i64_w, i32_w]; rfl
                          refine pure_ (i := 11) (N := some 63) (v := undef) (a' := ?_) #[true, true, true, true, true, true, true, true, true, true, true, true, false, false, false, false, false, false] rfl rfl (any_of HT_.out (by kernel_rfl)) (fun _ _ _ h => h) (Or.inr ⟨by rfl, rfl⟩) ?_ ?_
                          rotate_left
                          ·simp only [Act.put, List.setIfInBounds_toArray, List.set_cons_zero, List.set_cons_succ, i64_w, i32_w]; rfl
                          refine pure_ (i := 12) (N := some 64) (v := undef) (a' := ?_) #[true, true, true, true, true, true, true, true, true, true, true, true, true, false, false, false, false, false] rfl rfl (any_of HT_.out (by kernel_rfl)) (fun _ _ _ h => h) (Or.inr ⟨by rfl, rfl⟩) ?_ ?_
                          rotate_left
                          ·simp only [Act.put, List.setIfInBounds_toArray, List.set_cons_zero, List.set_cons_succ, i64_w, i32_w]; rfl
                          refine pure_ (i := 13) (N := some 65) (v := undef) (a' := ?_) #[true, true, true, true, true, true, true, true, true, true, true, true, true, true, false, false, false, false] rfl rfl (any_of HT_.out (by kernel_rfl)) (fun _ _ _ h => h) (Or.inr ⟨by rfl, rfl⟩) ?_ ?_
                          rotate_left
                          ·simp only [Act.put, List.setIfInBounds_toArray, List.set_cons_zero, List.set_cons_succ, i64_w, i32_w]; rfl
                          refine pure_ (i := 14) (N := some 66) (v := undef) (a' := ?_) #[true, true, true, true, true, true, true, true, true, true, true, true, true, true, true, false, false, false] rfl rfl (any_of HT_.out (by kernel_rfl)) (fun _ _ _ h => h) (Or.inr ⟨by rfl, rfl⟩) ?_ ?_
                          rotate_left
                          ·simp only [Act.put, List.setIfInBounds_toArray, List.set_cons_zero, List.set_cons_succ, i64_w, i32_w]; rfl
                          refine pure_ (i := 15) (N := some 67) (v := ?_) (a' := ?_) #[true, true, true, true, true, true, true, true, true, true, true, true, true, true, true, true, false, false] rfl rfl (any_of HT_.out (by kernel_rfl)) (fun _ _ _ h => h) (Or.inl ⟨by rfl, ?_⟩) ?_ ?_
                          rotate_left
                          ·intro w'
                           go_simp
                           with_reducible rfl
                          rotate_left
                          ·simp only [Act.put, List.setIfInBounds_toArray, List.set_cons_zero, List.set_cons_succ, i64_w, i32_w]; rfl
                          refine pure_ (i := 16) (N := some 68) (v := ?_) (a' := ?_) #[true, true, true, true, true, true, true, true, true, true, true, true, true, true, true, true, true, false] rfl rfl (any_of HT_.out (by kernel_rfl)) (fun _ _ _ h => h) (Or.inl ⟨by rfl, ?_⟩) ?_ ?_
                          rotate_left
                          ·intro w'
                           go_simp
                           with_reducible rfl
                          rotate_left
                          ·simp only [Act.put, List.setIfInBounds_toArray, List.set_cons_zero, List.set_cons_succ, i64_w, i32_w]; rfl
                          refine last_ (i := 17) (N := none) #[true, true, true, true, true, true, true, true, true, true, true, true, true, true, true, true, true, true] rfl rfl (one_of HT_.out (by kernel_rfl)) (by decide) (fun K hK => ?_)
                          refine skip_ (w1 := ?_) (by rfl) rfl ?_ ?_
                          rotate_left
                          ·go_simp
                           rfl
                          refine hK.out _ _ ?_
                          clear hK K
                          refine done_ (done_of HT_.out (by kernel_rfl)) ?_
                          try go_wp2
                          (try simp only [← hl6_3, ← hl7_3])
                          go_roundg k3
                          case measure => have := HK1.out; have := HK2.out; have := HK3.out; omega
                          case rel => exact ⟨(x6_3), (y439), (x9_3), (wrap64 (x49_3 + 1)), (by first | rfl | (simp; done) | (simp [*]; done)), H', ⟨by have := HK1.out; have := HK2.out; have := HK3.out; omega⟩, ⟨by (try simp only [hl6_3]); (try simp only [hl7_3]); (with_reducible repeat (first | apply Kd.S_alloc | apply Kd.S_drewN | apply Kd.S_drew)); exact Kd.S_mono (Kd.S_far (p := ⟨go58, (x49_3 : Int).toNat, none⟩) (Kd.S_types HO_4.out GG58.out (by decide)) (fun _ hk => hk.2) (.bool false)) (fun _ hk => trivial)⟩, ⟨by (try simp only [hl6_3]); (try simp only [hl7_3]); (with_reducible repeat (first | apply Kd.R_alloc | apply Kd.R_drewN | apply Kd.R_drew)); exact Kd.R_mono (Kd.R_far (p := ⟨go58, (x49_3 : Int).toNat, none⟩) (Kd.R_far1 HO_6.out rfl ((HL431_0.out.1 _ rfl).1.1)) (fun _ hk => hk.2) (.bool false)) (fun _ hk => hk.1)⟩, ⟨by (try simp only [hl6_3]); (try simp only [hl7_3]); (with_reducible repeat (first | apply Kd.S_alloc | apply Kd.S_drewN | apply Kd.S_drew)); exact HQ60.out⟩, ⟨by (try simp only [hl6_3]); (try simp only [hl7_3]); (with_reducible repeat (first | apply Kd.R_alloc | apply Kd.R_drewN | apply Kd.R_drew)); exact Kd.R_mono (Kd.R_far (p := ⟨go58, (x49_3 : Int).toNat, none⟩) (Kd.R_far1 HO_9.out rfl ((HL431_0.out.1 _ rfl).1.2)) (fun _ hk => hk.2) (.bool false)) (fun _ hk => hk.1)⟩, ⟨by (try simp only [hl6_3]); (try simp only [hl7_3]); (with_reducible repeat (first | refine blk_drewN ?_ _ | refine blk_drew ?_ | refine blk_alloc ?_ _)); refine blk_far ?_ (by have h_ := Kd.R_ne HL431_0.out BK409.out (by decide); intro e_; exact h_ (by rw [e_]; rfl)) _; (with_reducible repeat (first | refine blk_drewN ?_ _ | refine blk_drew ?_ | refine blk_alloc ?_ _)); exact BK409.out⟩, ⟨by repeat (first | (with_reducible first | exact HB.out | apply below_alloc | apply pw_below_drewN | apply below_drew1 | refine below_set ?_ GB58.out | refine below_set ?_ GE409.out) | exact HB.out)⟩⟩
                         ·rw [if_neg c57] at H
                          exact absurd H (by simp)
                       ·rw [if_neg c47] at H
                        exact absurd H (by simp)
                      ·rw [if_neg c46] at H
                       exact absurd H (by simp)
                     ·rw [if_neg c45] at H
                      exact absurd H (by simp)
                    ·rw [if_neg c44] at H
                     exact absurd H (by simp)
                   ·rw [if_neg c43] at H
                    have c43b0 : decide (x49_3 < (l0_4.length : Int)) = false := decide_eq_false c43
                    clear c43
                    have H' := Aside0.mk H
                    clear H
                    go_wp2
                    (try simp only [← hl6_3, ← hl7_3])
                    go_roundg k3
                    case measure => have := HK1.out; have := HK2.out; have := HK3.out; omega
                    case rel => exact ⟨(x6_3), (x7_3), (wrap64 (x32_2 + 1)), (by first | rfl | (simp; done) | (simp [*]; done)), H', ⟨by have := HK1.out; have := HK2.out; have := HK3.out; omega⟩, ⟨by (try simp only [hl6_3]); (try simp only [hl7_3]); (with_reducible repeat (first | apply Kd.S_alloc | apply Kd.S_drewN | apply Kd.S_drew)); exact HO_4.out⟩, ⟨by (try simp only [hl6_3]); (try simp only [hl7_3]); (with_reducible repeat (first | apply Kd.R_alloc | apply Kd.R_drewN | apply Kd.R_drew)); exact Kd.R_mono HO_6.out (fun _ hk => trivial)⟩, ⟨by (try simp only [hl6_3]); (try simp only [hl7_3]); (with_reducible repeat (first | apply Kd.S_alloc | apply Kd.S_drewN | apply Kd.S_drew)); exact Kd.S_mono HO_7.out (fun _ hk => hk.1)⟩, ⟨by (try simp only [hl6_3]); (try simp only [hl7_3]); (with_reducible repeat (first | refine blk_drewN ?_ _ | refine blk_drew ?_ | refine blk_alloc ?_ _)); exact BK409.out⟩, ⟨by repeat (first | (with_reducible first | exact HB.out | apply below_alloc | apply pw_below_drewN | apply below_drew1 | refine below_set ?_ GE409.out) | exact HB.out)⟩⟩
                ·replace c33 := Bool.eq_false_iff.mpr c33
                 subst c33
                 have H1 : (dom_over.l1 k2 (l0_4.length : Int) x4_1 x6_2 y426 (l0_4.length : Int) (wrap64 (x32_2 + 1))) = some r := by rw [if_neg (show ¬ (false = true) by decide)] at H; exact H
                 clear H; have H := H1; clear H1
                 have H' := Aside0.mk H
                 clear H
                 go_wp2_with (first | ((with_reducible refine gate_dst (N := 38) rfl ?_); refine Kd.R_make Kd.bool _ 4 rfl (N := 38) rfl 34 _ _ rfl (l0_4.length : Int) rfl rfl Try.underlying34 (.bool false) 1 info4 rfl (by decide) (by omega) false (ok := fun _ => True) (okp := fun _ => True) rfl (fun _ hk => hk) trivial (of_decide_eq_true (by first | (with_reducible assumption) | assumption)) (Nat.le_trans (Nat.mul_le_mul_right _ (of_decide_eq_true (by first | (with_reducible assumption) | assumption) : (l0_4.length : Int).toNat ≤ 281474976710656)) (by omega)) (Below.refl _ _) (Nat.le_refl _) ?_; intro v424 w62 ho63 hb hg_ hnew_; clear hg_ hnew_; (first | rw [← Ny423.out] at ho63 | (simp only [Int.reduceToNat] at ho63; rw [← Ny423.out] at ho63)); have n0_ := Aside0.mk (Kd.S_below (by (with_reducible repeat (first | apply Kd.S_alloc | apply Kd.S_drewN | apply Kd.S_drew)); exact HO_4.out) hb); have n1_ := Aside0.mk (Kd.R_elder' (by (with_reducible repeat (first | apply Kd.R_alloc | apply Kd.R_drewN | apply Kd.R_drew)); exact HO_6.out) (Kd.R_base ho63) hb); have n2_ := Aside0.mk (Kd.S_elder' (by (with_reducible repeat (first | apply Kd.S_alloc | apply Kd.S_drewN | apply Kd.S_drew)); exact HO_7.out) (Kd.R_base ho63) hb); have n3_ := Aside0.mk (Kd.R_lower (Kd.R_new' ho63 (Kd.R_lt (by (with_reducible repeat (first | apply Kd.R_alloc | apply Kd.R_drewN | apply Kd.R_drew)); exact HO_6.out))) (below_size (by repeat (first | (with_reducible first | exact HB.out | apply below_alloc | apply pw_below_drewN | apply below_drew1 | refine below_set ?_ GE409.out) | exact HB.out)))); have n4_ := Aside0.mk (blk_below (g := gb409) (o := .cells #[.string a0_0, .bool a0_1, .slice A0_2 l0_2.length c0_2, .int .i64 a0_3, .slice A0_4 l0_4.length c0_4] 25 (0, 0)) (by (with_reducible repeat (first | refine blk_drewN ?_ _ | refine blk_drew ?_ | refine blk_alloc ?_ _)); exact BK409.out) hb); have n5_ := Aside0.mk (below_step (by repeat (first | (with_reducible first | exact HB.out | apply below_alloc | apply pw_below_drewN | apply below_drew1 | refine below_set ?_ GE409.out) | exact HB.out)) hb); clear HO_4; clear HO_6; clear HO_7; clear BK409; clear HB; have HO_4 := n0_; have HO_6 := n1_; have HO_7 := n2_; have HO425 := n3_; have BK409 := n4_; have HB := n5_; clear n0_ n1_ n2_ n3_ n4_ n5_; clear hb ho63; have p30 : 0 ≤ (x32_2 : Int) := of_decide_eq_true (by first | (with_reducible assumption) | assumption); have q30 : (x32_2 : Int) < ((x7_2.length : Int) : Int) := of_decide_eq_true (by first | (with_reducible assumption) | assumption); obtain ⟨go30, co30, eo30, gb30, gl30, cl30, HG30⟩ := Kd.S_form HO_7.out (by omega); (first | cases eo30 | (injection eo30 with ea_ en_ ec_; (first | subst ea_ | (injection ea_ with ea_; subst ea_)); subst ec_; clear en_)); have GB30 := Aside0.mk gb30; have GG30 := Aside0.mk HG30; clear gb30 gl30 HG30; obtain ⟨_, ce30, hcl30, hM30, hcc30, hfr30, _, _⟩ := Kd.S_elem HO_7.out [] (x32_2 : Int) p30 q30; obtain ⟨ve30_0, rfl, ge30_0⟩ := (id hM30); have hx30_0 := hcc30 0 _ rfl; have hf30_0 := hfr30 0; (try simp only [show ((Kd.slice 4 Kd.bool)).sz = 1 from rfl, Nat.mul_one, Nat.add_zero] at hx30_0); (try simp only [show ((Kd.slice 4 Kd.bool)).sz = 1 from rfl, Nat.mul_one, Nat.add_zero] at hf30_0); clear hcl30 hcc30 hfr30 hM30; replace p30 := eq_true p30; replace q30 := eq_true q30; obtain ⟨Ao64, co64, eo64⟩ := Kd.R_slice HO425.out; subst eo64; have HX65 := Aside0.mk (show Kd.S (Kd.slice 4 Kd.bool) 34 w62 w.heap.size (fun k_ => ((fun k_ => some k_ ≠ (v418 : Value).ownBlock)) k_ ∧ ¬ ((fun k_ => some k_ = (.slice Ao64 y423.length co64 : Value).ownBlock)) k_) (.slice (some ⟨go30, 0, none⟩) x7_2.length co30) x7_2 from (by (with_reducible repeat (first | apply Kd.S_alloc | apply Kd.S_drewN | apply Kd.S_drew)); exact Kd.S_mono HO_7.out (fun k_ hk => ⟨hk.1, fun e_ => hk.2 e_⟩))); obtain ⟨oki65, ce65, hcl65, hM65, hcc65, hfr65, hoki65, hH65⟩ := Kd.S_elem HX65.out [] (x32_2 : Int) (of_decide_eq_true (by first | (with_reducible assumption) | assumption)) (by have h_ : (x32_2 : Int) < ((x7_2.length : Int) : Int) := of_decide_eq_true (by first | (with_reducible assumption) | assumption); first | exact h_ | (have e_ := (Kd.S_reads' HO_7.out).1; omega) | simpa using h_); obtain ⟨ve65_0, rfl, ge65_0⟩ := (id hM65); have HP65 := Kd.S_seg hH65 (of_decide_eq_true (by first | (with_reducible assumption) | assumption)) (by have h_ : (x32_2 : Int) < ((x7_2.length : Int) : Int) := of_decide_eq_true (by first | (with_reducible assumption) | assumption); first | exact h_ | (have e_ := (Kd.S_reads' HO_7.out).1; omega) | simpa using h_) (seg := [.slice Ao64 y423.length co64]) (j := 0) (show 1 ≤ 1 from by decide) (x' := y423) (Kd.M_row (Kd.R_mono (Kd.R_tight rfl (Kd.R_mono (ok' := fun k_ => ((fun k_ => some k_ ≠ (v418 : Value).ownBlock)) k_ ∧ k_ ≠ go30) (Kd.R_apart' (HO425.out) (Kd.S_typed HO_7.out) (by decide)) (fun k_ hk => ⟨hk.1.2, fun e_ => (hk.2) (by rw [e_]; rfl)⟩))) (fun _ h_ => Or.inr (h_)))) (fun _ hk => hk) (fun k_ hk_ => ((Kd.R_mono (ok' := fun k_ => ((fun k_ => some k_ ≠ (v418 : Value).ownBlock)) k_ ∧ k_ ≠ go30) (Kd.R_apart' (HO425.out) (Kd.S_typed HO_7.out) (by decide)) (fun k_ hk => ⟨hk.1.2, fun e_ => (hk.2) (by rw [e_]; rfl)⟩))).1 k_ hk_.symm); have hx65_0 := hcc65 0 _ rfl; (try simp only [show ((Kd.slice 4 Kd.bool)).sz = 1 from rfl, Nat.mul_one, Nat.add_zero] at hx65_0); have hf65_0 := hfr65 0; (try simp only [show ((Kd.slice 4 Kd.bool)).sz = 1 from rfl, Nat.mul_one, Nat.add_zero] at hf65_0); clear hcl65 hcc65 hfr65 hM65 hoki65 hH65; (try simp only [show ((Kd.slice 4 Kd.bool)).sz = 1 from rfl, Nat.mul_one, Nat.add_zero] at HP65)) | ((with_reducible refine gate_store (t := 34) (p := 39) rfl ?_); refine store_event (t := 34) (p := 39) (v := ?vo_w66) (w1 := (w62.setCell ⟨go30, (x32_2 : Int).toNat, none⟩ (.slice Ao64 y423.length co64))) ?hg ?ho ?hn ?hr ?_; (case ho => rfl); (case hg => rfl); (case hn => rfl); (case hr => first | (go_simp; done) | (go_simp; rfl)); intro w66 hw; have hg : w62.grownBy w66 (some go30) := (by rw [hw]; exact HP65.2); have hp_ : Kd.S (Kd.slice 4 Kd.bool) 34 w66 w.heap.size (fun k_ => some k_ ≠ (v418 : Value).ownBlock) (.slice (some ⟨go30, 0, none⟩) x7_2.length co30) y426 := (by rw [hw, Ny426.out]; exact HP65.1); clear HP65; have n0_ := Aside0.mk (Kd.S_over' (v := (.slice (some ⟨go30, 0, none⟩) x7_2.length co30)) (by (with_reducible repeat (first | apply Kd.S_alloc | apply Kd.S_drewN | apply Kd.S_drew)); exact HO_4.out) (Kd.S_typed HO_7.out) (by decide) hg); have n1_ := Aside0.mk (Kd.R_over' (v := (.slice (some ⟨go30, 0, none⟩) x7_2.length co30)) (by (with_reducible repeat (first | apply Kd.R_alloc | apply Kd.R_drewN | apply Kd.R_drew)); exact HO_6.out) (Kd.S_typed HO_7.out) (by decide) hg); have n2_ := Aside0.mk (hp_); have n3_ := Aside0.mk (blk_grown (g := gb409) (o := .cells #[.string a0_0, .bool a0_1, .slice A0_2 l0_2.length c0_2, .int .i64 a0_3, .slice A0_4 l0_4.length c0_4] 25 (0, 0)) (by (with_reducible repeat (first | refine blk_drewN ?_ _ | refine blk_drew ?_ | refine blk_alloc ?_ _)); exact BK409.out) hg (Kd.S_ne HO_7.out BK409.out (by decide))); have n4_ := Aside0.mk ((by rw [hw]; exact below_set (HB.out) GB30.out : Below w.heap.size w w66)); clear HO_4; clear HO_6; clear HO_7; clear BK409; clear HB; clear HO425; have HO_4 := n0_; have HO_6 := n1_; have HO_7 := n2_; have BK409 := n3_; have HB := n4_; clear n0_ n1_ n2_ n3_ n4_; clear hg hw hp_; obtain ⟨Ao67, co67, eo67⟩ := Kd.R_slice HO_6.out; subst eo67; have p427 : 0 ≤ (x32_2 : Int) := of_decide_eq_true (by first | (with_reducible assumption) | assumption); have q427 : x32_2 < (x6_2.length : Int) := of_decide_eq_true (by first | (with_reducible assumption) | assumption); obtain ⟨ad427, e427, hx427_0⟩ := Kd.at_bool (Kd.R_reads' HO_6.out).2.2 x32_2 p427 q427; (try rw [← Nbq32.out] at hx427_0); cases e427; replace p427 := eq_true p427; replace q427 := eq_true q427))
                 go_roundg k2
                 case measure => have := HK1.out; have := HK2.out; omega
                 case rel => exact ⟨(x6_2), (y426), (wrap64 (x32_2 + 1)), (by first | rfl | (simp; done) | (simp [*]; done)), H', ⟨by have := HK1.out; have := HK2.out; omega⟩, ⟨by (with_reducible repeat (first | apply Kd.S_alloc | apply Kd.S_drewN | apply Kd.S_drew)); exact HO_4.out⟩, ⟨by (with_reducible repeat (first | apply Kd.R_alloc | apply Kd.R_drewN | apply Kd.R_drew)); exact Kd.R_mono HO_6.out (fun _ hk => trivial)⟩, ⟨by (with_reducible repeat (first | apply Kd.S_alloc | apply Kd.S_drewN | apply Kd.S_drew)); exact HO_7.out⟩, ⟨by (with_reducible repeat (first | refine blk_drewN ?_ _ | refine blk_drew ?_ | refine blk_alloc ?_ _)); exact BK409.out⟩, ⟨by repeat (first | (with_reducible first | exact HB.out | apply below_alloc | apply pw_below_drewN | apply below_drew1 | refine below_set ?_ GE409.out) | exact HB.out)⟩⟩
               ·rw [if_neg c31] at H
                exact absurd H (by simp)
              ·rw [if_neg c29] at H
               exact absurd H (by simp)
             ·rw [if_neg c28] at H
              exact absurd H (by simp)
            ·rw [if_neg c27] at H
             exact absurd H (by simp)
           ·rw [if_neg c26] at H
            exact absurd H (by simp)
          ·rw [if_neg c25] at H
           have c25b0 : decide (x32_2 < (l0_4.length : Int)) = false := decide_eq_false c25
           clear c25
           obtain rfl := Option.some.inj H
           go_wp2
           go_ret
           exact ⟨_, by first | rfl | (simp [errW_none, errW_some] <;> rfl) | (simp [*, errW_none, errW_some] <;> rfl), by (with_reducible repeat (first | apply Kd.S_alloc | apply Kd.S_drewN | apply Kd.S_drew)); exact Kd.S_mono HO_7.out (fun _ hk => trivial), by repeat (first | (with_reducible first | exact HB.out | apply below_alloc | apply pw_below_drewN | apply below_drew1 | refine below_set ?_ GE409.out) | exact HB.out)⟩
       ·rw [if_neg c20] at H
        exact absurd H (by simp)
      ·rw [if_neg c19] at H
       exact absurd H (by simp)
  ·rw [if_neg c3] at H
   exact absurd H (by simp)
 ·rw [if_neg c2] at H
  exact absurd H (by simp)
end Go.Proofs.Ytkcimaibaicdcaa.P
