/- A part of the proof of the law of FlowOrders: lemmas and walks, out of this session's texts, with what the claim does not use struck out. -/
import Derived.Test.YtkcimaibaicdcaaO6
import Derived.Test.YtkcimaibaicdcaaO15
section
namespace Go.Proofs.Ytkcimaibaicdcaa.P
open Go.RowKit Go.Proofs.YtkcimaibaicdcaaW.PrintWords Go.Proofs.YtkcimaibaicdcaaW.PrintLast Go.Proofs.YtkcimaibaicdcaaW.PrintMore
attribute [local go_sem] max2_int min2_int max_two min_two max_three min_three max_four min_four   
set_option linter.unusedVariables false
set_option linter.unusedSimpArgs false
mutual
def plnref3_Prev.l0 : Nat → List (List Int) → Int → ByteArray → Bool → List Int → Int → List (S54) → Option ((List (List Int)))
 | 0, _, _, _, _, _, _, _ => none
 | k + 1, x3, x4, x212000, x212001, x212002, x212003, x212004 => if x4 < (x212004.length : Int) then ((plnref3_Next.f k x212000 x212001 x212002 x212003 x212004 x4).bind fun t215 => (plnref3_Prev.l1 k x3 x4 t215 0 x212000 x212001 x212002 x212003 x212004)) else (some x3)
def plnref3_Prev.l1 : Nat → List (List Int) → Int → List Int → Int → ByteArray → Bool → List Int → Int → List (S54) → Option ((List (List Int)))
 | 0, _, _, _, _, _, _, _, _, _ => none
 | k + 1, x3, x4, x5, x6, x212000, x212001, x212002, x212003, x212004 => if x6 < (x5.length : Int) then (if 0 ≤ x6 then (if 0 ≤ (rd x5 x6) then (if (rd x5 x6) < (x3.length : Int) then (if (rd_L1 x3 (rd x5 x6)).length < 17592186044416 then (plnref3_Prev.l1 k (x3.set ((rd x5 x6) : Int).toNat ((rd_L1 x3 (rd x5 x6)) ++ [x4])) x4 x5 (wrap64 (x6 + 1)) x212000 x212001 x212002 x212003 x212004) else (none)) else (none)) else (none)) else (none)) else (plnref3_Prev.l0 k x3 (wrap64 (x4 + 1)) x212000 x212001 x212002 x212003 x212004)
end
def plnref3_Prev.f (k : Nat) (a0_0 : ByteArray) (a0_1 : Bool) (l0_2 : List Int) (a0_3 : Int) (l0_4 : List (S54)) : Option ((List (List Int))) := if 0 ≤ (l0_4.length : Int) then (if ((l0_4.length : Int) : Int).toNat ≤ 11728124029610 then (plnref3_Prev.l0 k (List.replicate ((l0_4.length : Int) : Int).toNat []) 0 a0_0 a0_1 l0_2 a0_3 l0_4) else (none)) else (none)
theorem plnref3_Prev.mono_l : ∀ k, (∀ y0 y1 y2 y3 y4 y5 y6, LeO (plnref3_Prev.l0 k y0 y1 y2 y3 y4 y5 y6) (plnref3_Prev.l0 (k + 1) y0 y1 y2 y3 y4 y5 y6)) ∧ (∀ y0 y1 y2 y3 y4 y5 y6 y7 y8, LeO (plnref3_Prev.l1 k y0 y1 y2 y3 y4 y5 y6 y7 y8) (plnref3_Prev.l1 (k + 1) y0 y1 y2 y3 y4 y5 y6 y7 y8))
 | 0 => ⟨fun _ _ _ _ _ _ _ r h => by simp [plnref3_Prev.l0] at h, fun _ _ _ _ _ _ _ _ _ r h => by simp [plnref3_Prev.l1] at h⟩
 | k + 1 => by
  obtain ⟨ih0, ih1⟩ := plnref3_Prev.mono_l k
  refine ⟨?_, ?_⟩
  ·intro y0 y1 y2 y3 y4 y5 y6
   unfold plnref3_Prev.l0
   repeat' first
   | (with_reducible exact ih0 _ _ _ _ _ _ _)
   | (with_reducible exact ih1 _ _ _ _ _ _ _ _ _)
   | (with_reducible exact plnref3_Next.mono _ _ _ _ _ _ _)
   | (with_reducible exact LeO.refl _)
   | (with_reducible exact LeO.none _)
   | (with_reducible refine LeO.ite ?_ ?_)
   | (with_reducible refine LeO.bind ?_ (fun _ => ?_))
   | exact ih0 _ _ _ _ _ _ _
   | exact ih1 _ _ _ _ _ _ _ _ _
   | exact plnref3_Next.mono _ _ _ _ _ _ _
   | exact LeO.none _
   | refine LeO.ite ?_ ?_
   | refine LeO.bind ?_ (fun _ => ?_)
  ·intro y0 y1 y2 y3 y4 y5 y6 y7 y8
   unfold plnref3_Prev.l1
   repeat' first
   | (with_reducible exact ih0 _ _ _ _ _ _ _)
   | (with_reducible exact ih1 _ _ _ _ _ _ _ _ _)
   | (with_reducible exact plnref3_Next.mono _ _ _ _ _ _ _)
   | (with_reducible exact LeO.refl _)
   | (with_reducible exact LeO.none _)
   | (with_reducible refine LeO.ite ?_ ?_)
   | (with_reducible refine LeO.bind ?_ (fun _ => ?_))
   | exact ih0 _ _ _ _ _ _ _
   | exact ih1 _ _ _ _ _ _ _ _ _
   | exact plnref3_Next.mono _ _ _ _ _ _ _
   | exact LeO.none _
   | refine LeO.ite ?_ ?_
   | refine LeO.bind ?_ (fun _ => ?_)
theorem plnref3_Prev.mono : ∀ a0 a1 a2 a3 a4 k, LeO (plnref3_Prev.f k a0 a1 a2 a3 a4) (plnref3_Prev.f (k + 1) a0 a1 a2 a3 a4) := by
 intro a0 a1 a2 a3 a4 k
 obtain ⟨ih0, ih1⟩ := plnref3_Prev.mono_l k
 unfold plnref3_Prev.f
 repeat' first
   | (with_reducible exact ih0 _ _ _ _ _ _ _)
   | (with_reducible exact ih1 _ _ _ _ _ _ _ _ _)
   | (with_reducible exact plnref3_Next.mono _ _ _ _ _ _ _)
   | (with_reducible exact LeO.refl _)
   | (with_reducible exact LeO.none _)
   | (with_reducible refine LeO.ite ?_ ?_)
   | (with_reducible refine LeO.bind ?_ (fun _ => ?_))
   | exact ih0 _ _ _ _ _ _ _
   | exact ih1 _ _ _ _ _ _ _ _ _
   | exact plnref3_Next.mono _ _ _ _ _ _ _
   | exact LeO.none _
   | refine LeO.ite ?_ ?_
   | refine LeO.bind ?_ (fun _ => ?_)
def plnref3_Prev.T9 : Bool × List (List Nat × List Nat) := (true, [([], []), ([], []), ([], []), ([1, 2], [1, 2]), ([3], [3]), ([], []), ([], []), ([], []), ([6, 7], [6, 7]), ([8], [8]), ([5, 9], [5, 9]), ([10], [10]), ([], []), ([12], [12]), ([11, 13], [11, 13]), ([0, 4, 0, 1, 2, 3, 4, 5, 6, 7, 8, 9, 10, 11, 12, 13, 14], [0, 4]), ([15, 14, 14, 0, 1, 2, 3, 4, 5, 6, 7, 8, 9, 10, 11, 12, 13, 14], [14, 15])])
def plnref3_Prev.B9 : List Nat := [0, 0, 0, 6, 14, 0, 0, 0, 192, 448, 992, 2016, 0, 4096, 16352, 32767, 65535]
theorem plnref3_Prev.tab9 : rtab .any (opsOf Try.f23 9) = plnref3_Prev.T9 := by kernel_rfl
theorem plnref3_Prev.bits9 : waitsOk plnref3_Prev.T9.2 plnref3_Prev.B9 = true := by kernel_rfl
set_option maxHeartbeats 8000000 in
set_option maxRecDepth 100000 in
theorem plnref3_Prev.calls (k : Nat) (a0_0 : ByteArray) (a0_1 : Bool) (A0_2 : Option Addr) (c0_2 : Nat) (l0_2 : List Int) (a0_3 : Int) (A0_4 : Option Addr) (c0_4 : Nat) (l0_4 : List (S54)) (r : List (List Int)) (w : World) (hr0_2 : Kd.C (Kd.int .i64) w A0_2 l0_2.length l0_2) (hc0_2 : l0_2.length ≤ c0_2) (hr0_4 : Kd.C k54 w A0_4 l0_4.length l0_4) (hc0_4 : l0_4.length ≤ c0_4) (h : plnref3_Prev.f k a0_0 a0_1 l0_2 a0_3 l0_4 = some r) :
  Calls Try.prog 23 #[.agg #[.string a0_0, .bool a0_1, .slice A0_2 l0_2.length c0_2, .int .i64 a0_3, .slice A0_4 l0_4.length c0_4]] w fun e w' => ∃ v0_ : Value, e = .returned (v0_) ∧ Kd.S (Kd.slice 3 (Kd.int .i64)) 22 w' w.heap.size (fun _ => True) v0_ r ∧ Below w.heap.size w w' := by
 have hu25 := Try.underlying25
 have HR0_2 := Aside0.mk hr0_2
 have HC0_2 := Aside0.mk hc0_2
 clear hr0_2 hc0_2
 have HR0_4 := Aside0.mk hr0_4
 have HC0_4 := Aside0.mk hc0_4
 clear hr0_4 hc0_4; have HB := Aside0.mk (Below.refl w.heap.size w)
 have H : (if 0 ≤ (l0_4.length : Int) then (if ((l0_4.length : Int) : Int).toNat ≤ 11728124029610 then (plnref3_Prev.l0 k (List.replicate ((l0_4.length : Int) : Int).toNat []) 0 a0_0 a0_1 l0_2 a0_3 l0_4) else (none)) else (none)) = some r := h
 clear h
 by_cases c2 : 0 ≤ (l0_4.length : Int)
 ·rw [if_pos c2] at H
  have c2b0 := eq_true c2
  have c2b1 : decide (0 ≤ (l0_4.length : Int)) = true := decide_eq_true c2
  clear c2
  by_cases c3 : ((l0_4.length : Int) : Int).toNat ≤ 11728124029610
  ·rw [if_pos c3] at H
   have c3b0 := eq_true c3
   have c3b1 : decide (((l0_4.length : Int) : Int).toNat ≤ 11728124029610) = true := decide_eq_true c3
   clear c3
   obtain ⟨y212, hy212⟩ : ∃ y_ : List (List Int), y_ = (List.replicate ((l0_4.length : Int) : Int).toNat []) := ⟨_, rfl⟩
   replace H : (plnref3_Prev.l0 k y212 0 a0_0 a0_1 l0_2 a0_3 l0_4) = some r := by first | (rw [hy212]; with_reducible exact H) | (have H2_ := (Option.bind_some _ _).symm.trans H; rw [hy212]; with_reducible exact H2_) | (have H2_ := (Option.bind_some _ _).symm.trans H; with_reducible exact H2_) | with_reducible exact H | (rw [hy212]; exact H) | exact H
   have Ny212 := Aside0.mk hy212
   clear hy212
   have H' := Aside0.mk H
   clear H
   go_enter Try.func23, Try.ntmps23
   go_wp2_with (first | ((with_reducible refine gate_dst (N := 1) rfl ?_); refine box_event ?hg (N := 1) ?hd (cs := #[.string a0_0, .bool a0_1, .slice A0_2 l0_2.length c0_2, .int .i64 a0_3, .slice A0_4 l0_4.length c0_4]) (t := 25) ?hr ?_; (case hd => rfl); (case hg => rfl); (case hr => first | (go_simp; done) | (go_simp; rfl)); intro gb211 hg w4 hbox hb; have n0_ := Aside0.mk (below_step (by repeat (first | (with_reducible first | exact HB.out | apply below_alloc | apply pw_below_drewN | apply below_drew1) | exact HB.out)) hb); have n1_ := Aside0.mk (hbox); have n2_ := Aside0.mk ((by rw [hg]; exact (below_size (by repeat (first | (with_reducible first | exact HB.out | apply below_alloc | apply pw_below_drewN | apply below_drew1) | exact HB.out))) : w.heap.size ≤ gb211)); have n3_ := Aside0.mk ((by rw [hg]; exact (below_size (by repeat (first | (with_reducible first | exact HB.out | apply below_alloc | apply pw_below_drewN | apply below_drew1) | exact HB.out))) : w.heap.size ≤ gb211)); clear HB; have HB := n0_; have BK211 := n1_; have GW211 := n2_; have GE211 := n3_; clear n0_ n1_ n2_ n3_; clear hb hbox hg; have hcz5_0 : w4.cell? ⟨gb211, 0, none⟩ = some (.string a0_0) := (blk_cell BK211.out 0).trans rfl; have hcz5_1 : w4.cell? ⟨gb211, 1, none⟩ = some (.bool a0_1) := (blk_cell BK211.out 1).trans rfl; have hcz5_2 : w4.cell? ⟨gb211, 2, none⟩ = some (.slice A0_2 l0_2.length c0_2) := (blk_cell BK211.out 2).trans rfl; have hcz5_3 : w4.cell? ⟨gb211, 3, none⟩ = some (.int .i64 a0_3) := (blk_cell BK211.out 3).trans rfl; have hcz5_4 : w4.cell? ⟨gb211, 4, none⟩ = some (.slice A0_4 l0_4.length c0_4) := (blk_cell BK211.out 4).trans rfl; have hfz5_0 := blk_frozen BK211.out 0; have hfz5_1 := blk_frozen BK211.out 1; have hfz5_2 := blk_frozen BK211.out 2; have hfz5_3 := blk_frozen BK211.out 3; have hfz5_4 := blk_frozen BK211.out 4) | ((with_reducible refine gate_dst (N := 10) rfl ?_); refine Kd.S_make (Kd.slice 3 (Kd.int .i64)) _ 22 rfl (N := 10) rfl 31 _ _ rfl (l0_4.length : Int) rfl rfl Try.underlying31 (.slice none 0 0) 24 info22 rfl (by decide) (by omega) [] (ok := fun _ => True) (okp := fun _ => True) ⟨_, rfl, Kd.R_nil _ _ _ _ _⟩ (fun _ hk => hk) trivial (of_decide_eq_true (by first | (with_reducible assumption) | assumption)) (Nat.le_trans (Nat.mul_le_mul_right _ (of_decide_eq_true (by first | (with_reducible assumption) | assumption) : (l0_4.length : Int).toNat ≤ 11728124029610)) (by omega)) (Below.refl _ _) (Nat.le_refl _) ?_; intro v213 w6 ho7 hb hg_ hnew_; clear hg_ hnew_; (first | rw [← Ny212.out] at ho7 | (simp only [Int.reduceToNat] at ho7; rw [← Ny212.out] at ho7)); have n0_ := Aside0.mk (Kd.S_lower ho7 (below_size (by repeat (first | (with_reducible first | exact HB.out | apply below_alloc | apply pw_below_drewN | apply below_drew1 | refine below_set ?_ GE211.out) | exact HB.out)))); have n1_ := Aside0.mk (blk_below (g := gb211) (o := .cells #[.string a0_0, .bool a0_1, .slice A0_2 l0_2.length c0_2, .int .i64 a0_3, .slice A0_4 l0_4.length c0_4] 25 (0, 0)) (by (with_reducible repeat (first | refine blk_drewN ?_ _ | refine blk_drew ?_ | refine blk_alloc ?_ _)); exact BK211.out) hb); have n2_ := Aside0.mk (below_step (by repeat (first | (with_reducible first | exact HB.out | apply below_alloc | apply pw_below_drewN | apply below_drew1 | refine below_set ?_ GE211.out) | exact HB.out)) hb); clear BK211; clear HB; have HO214 := n0_; have BK211 := n1_; have HB := n2_; clear n0_ n1_ n2_; clear hb ho7))
   go_loopg [4] k (fun kq v4 w' => ∃ (x3_1 : List (List Int)) (x4_1 : Int), v4 = .int .i64 x4_1 ∧ Aside0 (plnref3_Prev.l0 kq x3_1 x4_1 a0_0 a0_1 l0_2 a0_3 l0_4 = some r) ∧ Aside0 (kq ≤ k) ∧ Aside0 (Kd.S (Kd.slice 3 (Kd.int .i64)) 22 w' w.heap.size (fun _ => True) v213 x3_1) ∧ Aside0 (w'.heap[gb211]? = some (.cells #[.string a0_0, .bool a0_1, (.slice A0_2 l0_2.length c0_2), .int .i64 a0_3, (.slice A0_4 l0_4.length c0_4)] 25 (0, 0))) ∧ Aside0 (Below w.heap.size w w'))
   case atStart => exact ⟨(y212), (0), (by first | rfl | (simp; done) | (simp [*]; done)), H', ⟨Nat.le_refl _⟩, ⟨by (with_reducible repeat (first | apply Kd.S_alloc | apply Kd.S_drewN | apply Kd.S_drew)); exact HO214.out⟩, ⟨by (with_reducible repeat (first | refine blk_drewN ?_ _ | refine blk_drew ?_ | refine blk_alloc ?_ _)); exact BK211.out⟩, ⟨by repeat (first | (with_reducible first | exact HB.out | apply below_alloc | apply pw_below_drewN | apply below_drew1 | refine below_set ?_ GE211.out) | exact HB.out)⟩⟩
   case round =>
    clear H'
    try clear c2
    try clear c2b0
    try clear c2b1
    try clear p2
    try clear c3
    try clear c3b0
    try clear c3b1
    try clear hcz5_0
    try clear hcz5_1
    try clear hcz5_2
    try clear hcz5_3
    try clear hcz5_4
    try clear hfz5_0
    try clear hfz5_1
    try clear hfz5_2
    try clear hfz5_3
    try clear hfz5_4
    obtain ⟨x3_1, x4_1, rfl, HA, HK1, HO_3, BK211, HB⟩ := hrel
    cases gk with
    | zero => exact absurd HA.out (by simp [plnref3_Prev.l0])
    | succ k1 =>
     have H := HA.out
     clear HA
     simp only [plnref3_Prev.l0] at H
     by_cases c8 : x4_1 < (l0_4.length : Int)
     ·rw [if_pos c8] at H
      have c8b0 : decide (x4_1 < (l0_4.length : Int)) = true := decide_eq_true c8
      clear c8
      replace H := Option.bind_eq_some_iff.mp H
      obtain ⟨t215, A90, H⟩ := H
      replace H : (plnref3_Prev.l1 k1 x3_1 x4_1 t215 0 a0_0 a0_1 l0_2 a0_3 l0_4) = some r := H
      have A9 := Aside0.mk A90
      clear A90
      have H' := Aside0.mk H
      clear H
      have hcz10_0 : wr.cell? ⟨gb211, 0, none⟩ = some (.string a0_0) := (blk_cell BK211.out 0).trans rfl
      have hcz10_1 : wr.cell? ⟨gb211, 1, none⟩ = some (.bool a0_1) := (blk_cell BK211.out 1).trans rfl
      have hcz10_2 : wr.cell? ⟨gb211, 2, none⟩ = some (.slice A0_2 l0_2.length c0_2) := (blk_cell BK211.out 2).trans rfl
      have hcz10_3 : wr.cell? ⟨gb211, 3, none⟩ = some (.int .i64 a0_3) := (blk_cell BK211.out 3).trans rfl
      have hcz10_4 : wr.cell? ⟨gb211, 4, none⟩ = some (.slice A0_4 l0_4.length c0_4) := (blk_cell BK211.out 4).trans rfl
      have hfz10_0 := blk_frozen BK211.out 0
      have hfz10_1 := blk_frozen BK211.out 1
      have hfz10_2 := blk_frozen BK211.out 2
      have hfz10_3 := blk_frozen BK211.out 3
      have hfz10_4 := blk_frozen BK211.out 4
      go_wp2_with (first | ((with_reducible refine gate_callee (f := 20) rfl ?_); refine goesL_ (some 20) rfl rfl Try.func20 (by kernel_rfl) rfl #[.agg #[.string a0_0, .bool a0_1, .slice A0_2 l0_2.length c0_2, .int .i64 a0_3, .slice A0_4 l0_4.length c0_4], .int .i64 x4_1] rfl (by (try simp only [List.map_toArray, List.map_cons, List.map_nil]); first | done | rfl | (simp only [List.length_drop, List.length_take]; rfl)) ?_; (with_reducible refine (plnref3_Next.calls k1 a0_0 a0_1 _ _ l0_2 a0_3 _ _ l0_4 x4_1 t215 _ ?side1 ?side2 ?side3 ?side4 A9.out).mono ?_); (case side1 => repeat (first | exact (Kd.C_below HR0_2.out HB.out) | (with_reducible refine Kd.C_alloc ?_ _) | (with_reducible refine Kd.C_drewN ?_ _) | (with_reducible refine Kd.C_drew ?_))); (case side2 => exact HC0_2.out); (case side3 => repeat (first | exact (Kd.C_below HR0_4.out HB.out) | (with_reducible refine Kd.C_alloc ?_ _) | (with_reducible refine Kd.C_drewN ?_ _) | (with_reducible refine Kd.C_drew ?_))); (case side4 => exact HC0_4.out); rintro e w11 ⟨v216, rfl, ho0, hb⟩; refine ⟨_, rfl, ?_⟩; have n0_ := Aside0.mk (Kd.S_elder' (by (with_reducible repeat (first | apply Kd.S_alloc | apply Kd.S_drewN | apply Kd.S_drew)); exact HO_3.out) (Kd.R_base ho0) hb); have n1_ := Aside0.mk (Kd.R_lower ho0 (below_size (by repeat (first | (with_reducible first | exact HB.out | apply below_alloc | apply pw_below_drewN | apply below_drew1 | refine below_set ?_ GE211.out) | exact HB.out)))); have n2_ := Aside0.mk (blk_below (g := gb211) (o := .cells #[.string a0_0, .bool a0_1, .slice A0_2 l0_2.length c0_2, .int .i64 a0_3, .slice A0_4 l0_4.length c0_4] 25 (0, 0)) (by (with_reducible repeat (first | refine blk_drewN ?_ _ | refine blk_drew ?_ | refine blk_alloc ?_ _)); exact BK211.out) hb); have n3_ := Aside0.mk (below_step (by repeat (first | (with_reducible first | exact HB.out | apply below_alloc | apply pw_below_drewN | apply below_drew1 | refine below_set ?_ GE211.out) | exact HB.out)) hb); clear HO_3; clear BK211; clear HB; have HO_3 := n0_; have HO217 := n1_; have BK211 := n2_; have HB := n3_; clear n0_ n1_ n2_ n3_; (try clear hb); (try clear hb2); (try clear hk); (try clear hi); (try clear ho0)))
      go_loopg [6] k1 (fun kq v6 w' => ∃ (x3_2 : List (List Int)) (x6_2 : Int), v6 = .int .i64 x6_2 ∧ Aside0 (plnref3_Prev.l1 kq x3_2 x4_1 t215 x6_2 a0_0 a0_1 l0_2 a0_3 l0_4 = some r) ∧ Aside0 (kq ≤ k1) ∧ Aside0 (Kd.S (Kd.slice 3 (Kd.int .i64)) 22 w' w.heap.size (fun k_ => some k_ ≠ (v216 : Value).ownBlock) v213 x3_2) ∧ Aside0 (Kd.R (Kd.int .i64) 3 w' w.heap.size (fun _ => True) v216 t215) ∧ Aside0 (w'.heap[gb211]? = some (.cells #[.string a0_0, .bool a0_1, (.slice A0_2 l0_2.length c0_2), .int .i64 a0_3, (.slice A0_4 l0_4.length c0_4)] 25 (0, 0))) ∧ Aside0 (Below w.heap.size w w'))
      case atStart => exact ⟨(x3_1), (0), (by first | rfl | (simp; done) | (simp [*]; done)), H', ⟨Nat.le_refl _⟩, ⟨by (with_reducible repeat (first | apply Kd.S_alloc | apply Kd.S_drewN | apply Kd.S_drew)); exact Kd.S_mono HO_3.out (fun _ hk => hk.2)⟩, ⟨by (with_reducible repeat (first | apply Kd.R_alloc | apply Kd.R_drewN | apply Kd.R_drew)); exact HO217.out⟩, ⟨by (with_reducible repeat (first | refine blk_drewN ?_ _ | refine blk_drew ?_ | refine blk_alloc ?_ _)); exact BK211.out⟩, ⟨by repeat (first | (with_reducible first | exact HB.out | apply below_alloc | apply pw_below_drewN | apply below_drew1 | refine below_set ?_ GE211.out) | exact HB.out)⟩⟩
      case round =>
       clear H'
       try clear c2
       try clear c2b0
       try clear c2b1
       try clear p2
       try clear c3
       try clear c3b0
       try clear c3b1
       try clear c8
       try clear c8b0
       try clear hcz10_0
       try clear hcz10_1
       try clear hcz10_2
       try clear hcz10_3
       try clear hcz10_4
       try clear hcz5_0
       try clear hcz5_1
       try clear hcz5_2
       try clear hcz5_3
       try clear hcz5_4
       try clear hfz10_0
       try clear hfz10_1
       try clear hfz10_2
       try clear hfz10_3
       try clear hfz10_4
       try clear hfz5_0
       try clear hfz5_1
       try clear hfz5_2
       try clear hfz5_3
       try clear hfz5_4
       try clear p2
       obtain ⟨x3_2, x6_2, rfl, HA, HK2, HO_3, HO_5, BK211, HB⟩ := hrel
       cases gk with
       | zero => exact absurd HA.out (by simp [plnref3_Prev.l1])
       | succ k2 =>
        have H := HA.out
        clear HA
        simp only [plnref3_Prev.l1] at H
        by_cases c12 : x6_2 < (t215.length : Int)
        ·rw [if_pos c12] at H
         have c12b0 : decide (x6_2 < (t215.length : Int)) = true := decide_eq_true c12
         clear c12
         by_cases c13 : 0 ≤ x6_2
         ·rw [if_pos c13] at H
          have c13b0 : decide (0 ≤ x6_2) = true := decide_eq_true c13
          clear c13
          by_cases c14 : 0 ≤ (rd t215 x6_2)
          ·rw [if_pos c14] at H
           have c14b0 : decide (0 ≤ (rd t215 x6_2)) = true := decide_eq_true c14
           clear c14
           by_cases c15 : (rd t215 x6_2) < (x3_2.length : Int)
           ·rw [if_pos c15] at H
            have c15b0 : decide ((rd t215 x6_2) < (x3_2.length : Int)) = true := decide_eq_true c15
            clear c15
            by_cases c16 : (rd_L1 x3_2 (rd t215 x6_2)).length < 17592186044416
            ·rw [if_pos c16] at H
             have LMc16 := Aside0.mk c16
             clear c16
             obtain ⟨y221, hy221⟩ : ∃ y_ : List Int, y_ = ((rd_L1 x3_2 (rd t215 x6_2)) ++ [x4_1]) := ⟨_, rfl⟩
             replace H : (plnref3_Prev.l1 k2 (x3_2.set ((rd t215 x6_2) : Int).toNat y221) x4_1 t215 (wrap64 (x6_2 + 1)) a0_0 a0_1 l0_2 a0_3 l0_4) = some r := by first | (rw [hy221]; with_reducible exact H) | (have H2_ := (Option.bind_some _ _).symm.trans H; rw [hy221]; with_reducible exact H2_) | (have H2_ := (Option.bind_some _ _).symm.trans H; with_reducible exact H2_) | with_reducible exact H | (rw [hy221]; exact H) | exact H
             have Ny221 := Aside0.mk hy221
             clear hy221
             obtain ⟨y224, hy224⟩ : ∃ y_ : List (List Int), y_ = (x3_2.set ((rd t215 x6_2) : Int).toNat y221) := ⟨_, rfl⟩
             replace H : (plnref3_Prev.l1 k2 y224 x4_1 t215 (wrap64 (x6_2 + 1)) a0_0 a0_1 l0_2 a0_3 l0_4) = some r := by first | (rw [hy224]; with_reducible exact H) | (have H2_ := (Option.bind_some _ _).symm.trans H; rw [hy224]; with_reducible exact H2_) | (have H2_ := (Option.bind_some _ _).symm.trans H; with_reducible exact H2_) | with_reducible exact H | (rw [hy224]; exact H) | exact H
             have Ny224 := Aside0.mk hy224
             clear hy224
             have H' := Aside0.mk H
             clear H
             obtain ⟨Ao18, co18, eo18⟩ := Kd.R_slice HO_5.out
             subst eo18
             try go_wp2
             have n0_ := Aside0.mk (Kd.S_drew HO_3.out); have n1_ := Aside0.mk (Kd.R_drew HO_5.out); have n2_ := Aside0.mk (blk_drew BK211.out); have n3_ := Aside0.mk (below_drew1 HB.out); clear HO_3 HO_5 BK211 HB; have HO_3 := n0_; have HO_5 := n1_; have BK211 := n2_; have HB := n3_; clear n0_ n1_ n2_ n3_
             have p218 : 0 ≤ (x6_2 : Int) := of_decide_eq_true (by first | (with_reducible assumption) | assumption)
             have q218 : x6_2 < (t215.length : Int) := of_decide_eq_true (by first | (with_reducible assumption) | assumption)
             obtain ⟨ad218, e218, hx218_0⟩ := Kd.at_int (Kd.R_reads' HO_5.out).2.2 x6_2 p218 q218
             cases e218
             replace p218 := eq_true p218
             replace q218 := eq_true q218
             have p219 : 0 ≤ (x6_2 : Int) := of_decide_eq_true (by first | (with_reducible assumption) | assumption)
             have q219 : x6_2 < (t215.length : Int) := of_decide_eq_true (by first | (with_reducible assumption) | assumption)
             obtain ⟨ad219, e219, hx219_0⟩ := Kd.at_int (Kd.R_reads' HO_5.out).2.2 x6_2 p219 q219
             obtain rfl : ad218 = ad219 := (by injection e219)
             replace p219 := eq_true p219
             replace q219 := eq_true q219
             obtain ⟨Ao20, co20, eo20⟩ := Kd.S_slice HO_3.out
             (first | subst eo20 | (injection eo20 with f1_ f2_ f3_; have f4_ := f1_.symm; have f5_ := f3_.symm; clear f1_ f2_ f3_; subst f4_; subst f5_))
             have p220 : 0 ≤ ((rd t215 x6_2) : Int) := of_decide_eq_true (by first | (with_reducible assumption) | assumption)
             have q220 : (rd t215 x6_2) < (x3_2.length : Int) := of_decide_eq_true (by first | (with_reducible assumption) | assumption)
             obtain ⟨ad220, A220_0, c220_0, e220, hx220_0, hl220_0, hi220_0⟩ := at_L1 (Kd.S_reads' HO_3.out).2.2 (rd t215 x6_2) p220 q220
             cases e220
             obtain ⟨ce220, hce220, hMe220, hcc220⟩ := Kd.S_get HO_3.out [] (rd t215 x6_2) p220 (by first | exact q220 | exact of_decide_eq_true (by first | (with_reducible assumption) | assumption) | (have e_ := (Kd.S_reads' HO_3.out).1; omega))
             obtain ⟨ve220_0, rfl, ge220_0⟩ := hMe220
             have hv220_0 := hcc220 0 _ rfl
             rw [Nat.add_zero, show ((Kd.slice 3 (Kd.int .i64))).sz = 1 from rfl, Nat.mul_one] at hv220_0
             replace hv220_0 := Option.some.inj (hv220_0.symm.trans hx220_0)
             rw [hv220_0] at ge220_0
             have HL220_0 := Aside0.mk (show Kd.R (Kd.int .i64) 3 _ _ _ _ (rd_L1 x3_2 (rd t215 x6_2)) from ge220_0); clear hv220_0 ge220_0
             have HX220_0 := Aside0.mk hx220_0
             clear hcc220 hce220
             have HR220_0 := Aside0.mk hi220_0
             have HC220_0 := Aside0.mk hl220_0
             clear hi220_0 hl220_0
             replace p220 := eq_true p220
             replace q220 := eq_true q220
             obtain ⟨go21, co21, eo21, gb21, gl21, cl21, HG21⟩ := Kd.S_form HO_3.out (by have h_ : ((rd t215 x6_2) : Int) < ((x3_2.length : Int) : Int) := of_decide_eq_true (by first | (with_reducible assumption) | assumption); have h2_ : 0 ≤ ((rd t215 x6_2) : Int) := (of_decide_eq_true (by first | (with_reducible assumption) | assumption)); omega)
             (first | cases eo21 | (injection eo21 with ea_ en_ ec_; (first | subst ea_ | (injection ea_ with ea_; subst ea_)); subst ec_; clear en_))
             have GB21 := Aside0.mk gb21
             have GG21 := Aside0.mk HG21
             clear gb21 gl21 HG21
             (first | simp only [add_plain] at hx220_0 | skip)
             obtain ⟨oki21, ce21, hcl21, hM21, hcc21, _, _, hH21⟩ := Kd.S_elem HO_3.out [] ((rd t215 x6_2) : Int) (of_decide_eq_true (by first | (with_reducible assumption) | assumption)) (by have h_ : ((rd t215 x6_2) : Int) < ((x3_2.length : Int) : Int) := of_decide_eq_true (by first | (with_reducible assumption) | assumption); first | exact h_ | (have e_ := (Kd.S_reads' HO_3.out).1; omega) | simpa using h_)
             obtain ⟨ve21_0, rfl, ge21_0⟩ := hM21
             have hv21 := hcc21 0 _ rfl
             have hX21 := HX220_0.out
             (try simp only [add_plain] at hX21)
             (try simp only [Nat.add_zero] at hv21)
             (try rw [show ((Kd.slice 3 (Kd.int .i64))).sz = 1 from rfl, Nat.mul_one] at hv21)
             replace hv21 := Option.some.inj (hv21.symm.trans hX21)
             subst hv21
             clear hX21 hcc21 hcl21; have UU21 := Aside0.mk (show Kd.R (Kd.int .i64) 3 _ w.heap.size oki21 (.slice A220_0 (rd_L1 x3_2 (rd t215 x6_2)).length c220_0) (rd_L1 x3_2 (rd t215 x6_2)) from ge21_0)
             have HH21 := Aside0.mk hH21
             have HN21 := Aside0.mk (Kd.S_reads' HO_3.out).1
             clear hH21 ge21_0
             refine start_ (n := 17) (S := fun w' => w'.cell? (ad218.add (x6_2).toNat) = some (.int .i64 (rd t215 x6_2)) ∧ w'.cell? (ad218.add (x6_2).toNat) = some (.int .i64 (rd t215 x6_2)) ∧ w'.cell? ⟨go21, ((rd t215 x6_2)).toNat, none⟩ = some (.slice A220_0 (rd_L1 x3_2 (rd t215 x6_2)).length c220_0)) (ds := [16]) #[false, false, false, false, false, false, false, false, false, false, false, false, false, false, false, false, false] (by kernel_rfl) rfl rfl ⟨hx218_0, hx219_0, hx220_0⟩ (fun hHeld => ?_); refine with_tabW plnref3_Prev.tab9 plnref3_Prev.bits9 (fun HT_ HW_ => ?_)
             generalize wr.drew = w19 at HO_3 HO_5 BK211 HB GG21 HH21 HL220_0 HR220_0 HX220_0 UU21 hx218_0 hx219_0 hx220_0 hHeld ⊢
             refine pure_ (i := 0) (N := some 27) (v := ?_) (a' := ?_) #[true, false, false, false, false, false, false, false, false, false, false, false, false, false, false, false, false] rfl rfl (any_of HT_.out (by kernel_rfl)) (fun _ _ _ h => h) (Or.inl ⟨by rfl, ?_⟩) ?_ ?_
             rotate_left
             ·intro w'
              go_simp
              with_reducible rfl
             rotate_left
             ·simp only [Act.put, List.setIfInBounds_toArray, List.set_cons_zero, List.set_cons_succ, i64_w, i32_w]; rfl
             refine pure_ (i := 1) (N := some 28) (v := ?_) (a' := ?_) #[true, true, false, false, false, false, false, false, false, false, false, false, false, false, false, false, false] rfl rfl (any_of HT_.out (by kernel_rfl)) (fun _ _ _ h => h) (Or.inl ⟨by rfl, ?_⟩) ?_ ?_
             rotate_left
             ·intro w'
              go_simp
              with_reducible rfl
             rotate_left
             ·simp only [Act.put, List.setIfInBounds_toArray, List.set_cons_zero, List.set_cons_succ, i64_w, i32_w]; rfl
             refine pure_ (i := 2) (N := some 29) (v := ?_) (a' := ?_) #[true, true, true, false, false, false, false, false, false, false, false, false, false, false, false, false, false] rfl rfl (any_of HT_.out (by kernel_rfl)) (fun _ _ _ h => h) (Or.inl ⟨by rfl, ?_⟩) ?_ ?_
             rotate_left
             ·intro w'
              go_simp
              with_reducible rfl
             rotate_left
             ·simp only [Act.put, List.setIfInBounds_toArray, List.set_cons_zero, List.set_cons_succ, i64_w, i32_w]; rfl
             refine pure_ (i := 3) (N := some 30) (v := ?_) (a' := ?_) #[true, true, true, true, false, false, false, false, false, false, false, false, false, false, false, false, false] rfl rfl (any_of HT_.out (by kernel_rfl)) (fun _ _ _ h => h) (Or.inl ⟨by rfl, ?_⟩) ?_ ?_
             rotate_left
             ·intro w'
              go_simp
              with_reducible rfl
             rotate_left
             ·simp only [Act.put, List.setIfInBounds_toArray, List.set_cons_zero, List.set_cons_succ, i64_w, i32_w]; rfl
             refine pure_ (i := 5) (N := some 32) (v := ?_) (a' := ?_) #[true, true, true, true, false, true, false, false, false, false, false, false, false, false, false, false, false] rfl rfl (any_of HT_.out (by kernel_rfl)) (fun _ _ _ h => h) (Or.inl ⟨by rfl, ?_⟩) ?_ ?_
             rotate_left
             ·intro w'
              go_simp
              with_reducible rfl
             rotate_left
             ·simp only [Act.put, List.setIfInBounds_toArray, List.set_cons_zero, List.set_cons_succ, i64_w, i32_w]; rfl
             refine pure_ (i := 6) (N := some 33) (v := ?_) (a' := ?_) #[true, true, true, true, false, true, true, false, false, false, false, false, false, false, false, false, false] rfl rfl (any_of HT_.out (by kernel_rfl)) (fun _ _ _ h => h) (Or.inl ⟨by rfl, ?_⟩) ?_ ?_
             rotate_left
             ·intro w'
              go_simp
              with_reducible rfl
             rotate_left
             ·simp only [Act.put, List.setIfInBounds_toArray, List.set_cons_zero, List.set_cons_succ, i64_w, i32_w]; rfl
             refine pure_ (i := 7) (N := some 34) (v := ?_) (a' := ?_) #[true, true, true, true, false, true, true, true, false, false, false, false, false, false, false, false, false] rfl rfl (any_of HT_.out (by kernel_rfl)) (fun _ _ _ h => h) (Or.inl ⟨by rfl, ?_⟩) ?_ ?_
             rotate_left
             ·intro w'
              go_simp
              with_reducible rfl
             rotate_left
             ·simp only [Act.put, List.setIfInBounds_toArray, List.set_cons_zero, List.set_cons_succ, i64_w, i32_w]; rfl
             refine pure_ (i := 8) (N := some 35) (v := ?_) (a' := ?_) #[true, true, true, true, false, true, true, true, true, false, false, false, false, false, false, false, false] rfl rfl (any_of HT_.out (by kernel_rfl)) (fun _ _ _ h => h) (Or.inl ⟨by rfl, ?_⟩) ?_ ?_
             rotate_left
             ·intro w'
              go_simp
              with_reducible rfl
             rotate_left
             ·simp only [Act.put, List.setIfInBounds_toArray, List.set_cons_zero, List.set_cons_succ, i64_w, i32_w]; rfl
             refine pure_ (i := 12) (N := some 39) (v := ?_) (a' := ?_) #[true, true, true, true, false, true, true, true, true, false, false, false, true, false, false, false, false] rfl rfl (any_of HT_.out (by kernel_rfl)) (fun _ _ _ h => h) (Or.inl ⟨by rfl, ?_⟩) ?_ ?_
             rotate_left
             ·intro w'
              go_simp
              with_reducible rfl
             rotate_left
             ·simp only [Act.put, List.setIfInBounds_toArray, List.set_cons_zero, List.set_cons_succ, i64_w, i32_w]; rfl
             refine take_ (i := 4) (N := some 31) (v := ?_) (a' := ?_) #[true, true, true, true, true, true, true, true, true, false, false, false, true, false, false, false, false] rfl rfl (take_ofW HT_.out HW_.out (by kernel_rfl)) (fun _ _ _ h => h) (Or.inl ⟨by rfl, ?_⟩) hHeld ?_ ?_
             rotate_left
             ·rintro w' ⟨s0, s1, s2⟩
              go_simp
              with_reducible rfl
             rotate_left
             ·simp only [Act.put, List.setIfInBounds_toArray, List.set_cons_zero, List.set_cons_succ, i64_w, i32_w]; rfl
             refine take_ (i := 9) (N := some 36) (v := ?_) (a' := ?_) #[true, true, true, true, true, true, true, true, true, true, false, false, true, false, false, false, false] rfl rfl (take_ofW HT_.out HW_.out (by kernel_rfl)) (fun _ _ _ h => h) (Or.inl ⟨by rfl, ?_⟩) hHeld ?_ ?_
             rotate_left
             ·rintro w' ⟨s0, s1, s2⟩
              go_simp
              with_reducible rfl
             rotate_left
             ·simp only [Act.put, List.setIfInBounds_toArray, List.set_cons_zero, List.set_cons_succ, i64_w, i32_w]; rfl
             refine pure_ (i := 10) (N := some 37) (v := ?_) (a' := ?_) #[true, true, true, true, true, true, true, true, true, true, true, false, true, false, false, false, false] rfl rfl (any_of HT_.out (by kernel_rfl)) (fun _ _ _ h => h) (Or.inl ⟨by rfl, ?_⟩) ?_ ?_
             rotate_left
             ·intro w'
              go_simp
              with_reducible rfl
             rotate_left
             ·simp only [Act.put, List.setIfInBounds_toArray, List.set_cons_zero, List.set_cons_succ, i64_w, i32_w]; rfl
             refine take_ (i := 11) (N := some 38) (v := ?_) (a' := ?_) #[true, true, true, true, true, true, true, true, true, true, true, true, true, false, false, false, false] rfl rfl (take_ofW HT_.out HW_.out (by kernel_rfl)) (fun _ _ _ h => h) (Or.inl ⟨by rfl, ?_⟩) hHeld ?_ ?_
             rotate_left
             ·rintro w' ⟨s0, s1, s2⟩
              go_simp
              with_reducible rfl
             rotate_left
             ·simp only [Act.put, List.setIfInBounds_toArray, List.set_cons_zero, List.set_cons_succ, i64_w, i32_w]; rfl
             refine one_ (i := 13) (N := some 40) #[true, true, true, true, true, true, true, true, true, true, true, true, true, true, false, false, false] rfl rfl (one_of HT_.out (by kernel_rfl)) (by decide) (fun K hK => ?_)
             refine value_ (w1 := ?_) (v := ?_) (by rfl) rfl ?_ ?_
             rotate_left 2
             ·go_simp
              constructor
              ·rfl
              ·rfl
             refine hK.out _ _ ⟨(World.cell?_alloc_lt _ _ _ (World.block_lt_of_cell? _ _ (hHeld.1))).trans (hHeld.1), (World.cell?_alloc_lt _ _ _ (World.block_lt_of_cell? _ _ (hHeld.2.1))).trans (hHeld.2.1), (World.cell?_alloc_lt _ _ _ (World.block_lt_of_cell? _ _ (hHeld.2.2))).trans (hHeld.2.2)⟩ (fun hHeld => ?_)
             clear hK K; refine norm_ (a' := ?_) ?_ ?_; rotate_left
             ·show Act.put _ (some 40) _ = _; simp only [Act.put, List.setIfInBounds_toArray, List.set_cons_zero, List.set_cons_succ, i64_w, i32_w]; rfl
             refine one_ (i := 14) (N := some 41) #[true, true, true, true, true, true, true, true, true, true, true, true, true, true, true, false, false] rfl rfl (one_of HT_.out (by kernel_rfl)) (by decide) (fun K hK => ?_)
             refine Kd.R_append_step (Kd.int .i64) (w0 := w) w.heap.size (by rfl) (.tmp 38) (.tmp 40) 22 3 (.int .i64 0) 8 rfl Try.underlying22 info3 rfl (by decide) (by omega) (.slice A220_0 (rd_L1 x3_2 (rd t215 x6_2)).length c220_0) (rd_L1 x3_2 (rd t215 x6_2)) x4_1 [.int .i64 x4_1] (fun k_ => oki21 k_ ∨ ((fun k_ => some k_ ≠ (.slice (some ad218) t215.length co18 : Value).ownBlock)) k_ ∧ w19.heap.size ≤ k_) (fun _ => False) rfl rfl ?aP (fun _ hk => hk.elim) ?aF ?aO ?aB ?aS ?aL ?_
             (case aP => exact rfl)
             (case aB => exact (by repeat (first | (with_reducible first | exact HB.out | apply below_alloc | apply pw_below_drewN | apply below_drew1 | refine below_set ?_ GE211.out) | exact HB.out)))
             (case aF => exact (fun k_ hk => .inr ⟨Kd.fresh' (Kd.R_lt (by (with_reducible repeat (first | apply Kd.R_alloc | apply Kd.R_drewN | apply Kd.R_drew)); exact HO_5.out)) k_ hk, hk⟩))
             (case aO => exact (by (with_reducible repeat (first | apply Kd.R_alloc | apply Kd.R_drewN | apply Kd.R_drew)); exact Kd.R_mono UU21.out (fun _ hk => .inl hk)))
             (case aS => exact (below_size (by repeat (first | (with_reducible first | exact HB.out | apply below_alloc | apply pw_below_drewN | apply below_drew1 | refine below_set ?_ GE211.out) | exact HB.out))))
             (case aL => have := LMc16.out; omega)
             intro v222 w22 ho hb hg hat
             (first | have HS0_ := cell_grown hg (hHeld.1) (by first | (rw [add_block]; exact (fun e_ => ((HL220_0.out.1 _ e_.symm).1) rfl)) | (show some (Addr.add _ _).block ≠ _; rw [add_block]; exact (fun e_ => ((HL220_0.out.1 _ e_.symm).1) rfl)) | exact (fun e_ => ((HL220_0.out.1 _ e_.symm).1) rfl)) | have HS0_ := cell_grown hg (cell_unalloc (hHeld.1) (by first | (rw [add_block]; exact Kd.R_lt HO_5.out _ rfl) | (show (Addr.add _ _).block < _; rw [add_block]; exact Kd.R_lt HO_5.out _ rfl) | exact Kd.R_lt HO_5.out _ rfl)) (by first | (rw [add_block]; exact (fun e_ => ((HL220_0.out.1 _ e_.symm).1) rfl)) | (show some (Addr.add _ _).block ≠ _; rw [add_block]; exact (fun e_ => ((HL220_0.out.1 _ e_.symm).1) rfl)) | exact (fun e_ => ((HL220_0.out.1 _ e_.symm).1) rfl)))
             (first | have HS1_ := cell_grown hg (hHeld.2.1) (by first | (rw [add_block]; exact (fun e_ => ((HL220_0.out.1 _ e_.symm).1) rfl)) | (show some (Addr.add _ _).block ≠ _; rw [add_block]; exact (fun e_ => ((HL220_0.out.1 _ e_.symm).1) rfl)) | exact (fun e_ => ((HL220_0.out.1 _ e_.symm).1) rfl)) | have HS1_ := cell_grown hg (cell_unalloc (hHeld.2.1) (by first | (rw [add_block]; exact Kd.R_lt HO_5.out _ rfl) | (show (Addr.add _ _).block < _; rw [add_block]; exact Kd.R_lt HO_5.out _ rfl) | exact Kd.R_lt HO_5.out _ rfl)) (by first | (rw [add_block]; exact (fun e_ => ((HL220_0.out.1 _ e_.symm).1) rfl)) | (show some (Addr.add _ _).block ≠ _; rw [add_block]; exact (fun e_ => ((HL220_0.out.1 _ e_.symm).1) rfl)) | exact (fun e_ => ((HL220_0.out.1 _ e_.symm).1) rfl)))
             (first | have HS2_ := cell_grown hg (hHeld.2.2) (by first | (rw [add_block]; exact (fun e_ => ((HL220_0.out.1 _ e_.symm).2) rfl)) | (show some (Addr.add _ _).block ≠ _; rw [add_block]; exact (fun e_ => ((HL220_0.out.1 _ e_.symm).2) rfl)) | exact (fun e_ => ((HL220_0.out.1 _ e_.symm).2) rfl)) | have HS2_ := cell_grown hg (cell_unalloc (hHeld.2.2) (by first | (rw [add_block]; exact Kd.S_lt HO_3.out _ rfl) | (show (Addr.add _ _).block < _; rw [add_block]; exact Kd.S_lt HO_3.out _ rfl) | exact Kd.S_lt HO_3.out _ rfl)) (by first | (rw [add_block]; exact (fun e_ => ((HL220_0.out.1 _ e_.symm).2) rfl)) | (show some (Addr.add _ _).block ≠ _; rw [add_block]; exact (fun e_ => ((HL220_0.out.1 _ e_.symm).2) rfl)) | exact (fun e_ => ((HL220_0.out.1 _ e_.symm).2) rfl)))
             rw [← Ny221.out] at ho
             have n0_ := Aside0.mk (Kd.R_grown2 (by (with_reducible repeat (first | apply Kd.R_alloc | apply Kd.R_drewN | apply Kd.R_drew)); exact HO_5.out) rfl hg (fun k_ e_ => (HL220_0.out.1 k_ e_).1)); have n1_ := Aside0.mk (blk_grown (g := gb211) (o := .cells #[.string a0_0, .bool a0_1, .slice A0_2 l0_2.length c0_2, .int .i64 a0_3, .slice A0_4 l0_4.length c0_4] 25 (0, 0)) (by (with_reducible repeat (first | refine blk_drewN ?_ _ | refine blk_drew ?_ | refine blk_alloc ?_ _)); exact BK211.out) hg (Kd.R_ne HL220_0.out BK211.out (by decide))); have n2_ := Aside0.mk (hb); have n3_ := Aside0.mk (Kd.H_grown (Kd.H_widen (by repeat (first | exact HH21.out | refine Kd.H_alloc ?_ _ | refine Kd.H_drewN ?_ _ | refine Kd.H_drew ?_))) hg (fun k_ e_ => .inl (UU21.out.1 k_ e_))); have n4_ := Aside0.mk (ho); clear HO_5 BK211 HB HH21 HO_3 UU21 HL220_0; have HO_5 := n0_; have BK211 := n1_; have HB := n2_; have HH21 := n3_; have HO223 := n4_; clear n0_ n1_ n2_ n3_ n4_ ho hb hg hat
             have p17 : 0 ≤ ((rd t215 x6_2) : Int) := of_decide_eq_true (by first | (with_reducible assumption) | assumption)
             have q17 : ((rd t215 x6_2) : Int) < ((x3_2.length : Int) : Int) := of_decide_eq_true (by first | (with_reducible assumption) | assumption)
             replace p17 := eq_true p17
             replace q17 := eq_true q17
             obtain ⟨Ao25, co25, eo25⟩ := Kd.R_slice HO223.out
             (first | subst eo25 | (injection eo25 with f1_ f2_ f3_; have f4_ := f1_.symm; have f5_ := f3_.symm; clear f1_ f2_ f3_; subst f4_; subst f5_))
             obtain ⟨_, _, hraw23, _, _, hcc23, _⟩ := Kd.H_raw HH21.out (of_decide_eq_true (by first | (with_reducible assumption) | assumption)) (by have h_ : ((rd t215 x6_2) : Int) < ((x3_2.length : Int) : Int) := of_decide_eq_true (by first | (with_reducible assumption) | assumption); first | exact h_ | (have e_ := (HN21.out); omega) | simpa using h_)
             obtain ⟨_, hfr23⟩ := Kd.H_at HH21.out (of_decide_eq_true (by first | (with_reducible assumption) | assumption)) (by have h_ : ((rd t215 x6_2) : Int) < ((x3_2.length : Int) : Int) := of_decide_eq_true (by first | (with_reducible assumption) | assumption); first | exact h_ | (have e_ := (HN21.out); omega) | simpa using h_)
             have hx23_0 := hcc23 0 _ rfl
             have hf23_0 := hfr23 0
             (try simp only [Nat.add_zero] at hx23_0 hf23_0)
             (try rw [show ((Kd.slice 3 (Kd.int .i64))).sz = 1 from rfl, Nat.mul_one] at hx23_0)
             (try rw [show ((Kd.slice 3 (Kd.int .i64))).sz = 1 from rfl, Nat.mul_one] at hf23_0)
             have HP23 := Kd.S_seg0 HH21.out (of_decide_eq_true (by first | (with_reducible assumption) | assumption)) (by have h_ : ((rd t215 x6_2) : Int) < ((x3_2.length : Int) : Int) := of_decide_eq_true (by first | (with_reducible assumption) | assumption); first | exact h_ | (have e_ := (HN21.out); omega) | simpa using h_) (seg := [.slice Ao25 y221.length co25]) (j := 0) (show 1 ≤ 1 from by decide) (x' := y221) (Kd.M_row HO223.out) (fun _ hk => hk)
             (try simp only [show ((Kd.slice 3 (Kd.int .i64))).sz = 1 from rfl, Nat.mul_one, Nat.add_zero] at HP23)
             clear hcc23 hfr23; have HNB211_go21 := Aside0.mk (show gb211 ≠ go21 from by have h_ := Kd.R_ne hraw23 BK211.out (by decide); intro e_; exact h_ (by rw [e_]; rfl))
             have HS23 := HP23.1
             rw [← Ny224.out] at HS23
             have HQ23 := Aside0.mk HS23
             obtain ⟨_, hgg23⟩ := Kd.R_typed hraw23 go21 rfl
             have GG23_ := Aside0.mk hgg23
             clear HP23 HS23 hgg23
             refine hK.out _ _ ⟨HS0_, HS1_, HS2_⟩ (fun hHeld => ?_)
             clear hK K; refine norm_ (a' := ?_) ?_ ?_; rotate_left
             ·show Act.put _ (some 41) _ = _; simp only [Act.put, List.setIfInBounds_toArray, List.set_cons_zero, List.set_cons_succ, i64_w, i32_w]; rfl
             refine pure_ (i := 15) (N := some 42) (v := ?_) (a' := ?_) #[true, true, true, true, true, true, true, true, true, true, true, true, true, true, true, true, false] rfl rfl (any_of HT_.out (by kernel_rfl)) (fun _ _ _ h => h) (Or.inl ⟨by rfl, ?_⟩) ?_ ?_
             rotate_left
             ·intro w'
              go_simp
              with_reducible rfl
             rotate_left
             ·simp only [Act.put, List.setIfInBounds_toArray, List.set_cons_zero, List.set_cons_succ, i64_w, i32_w]; rfl
             refine last_ (i := 16) (N := none) #[true, true, true, true, true, true, true, true, true, true, true, true, true, true, true, true, true] rfl rfl (one_of HT_.out (by kernel_rfl)) (by decide) (fun K hK => ?_)
             refine skip_ (w1 := ?_) (by rfl) rfl ?_ ?_
             rotate_left
             ·go_simp
              rfl
             refine hK.out _ _ ?_
             clear hK K
             refine done_ (done_of HT_.out (by kernel_rfl)) ?_
             try go_wp2
             go_roundg k2
             case measure => have := HK1.out; have := HK2.out; omega
             case rel => exact ⟨(y224), (wrap64 (x6_2 + 1)), (by first | rfl | (simp; done) | (simp [*]; done)), H', ⟨by have := HK1.out; have := HK2.out; omega⟩, ⟨by (with_reducible repeat (first | apply Kd.S_alloc | apply Kd.S_drewN | apply Kd.S_drew)); exact HQ23.out⟩, ⟨by (with_reducible repeat (first | apply Kd.R_alloc | apply Kd.R_drewN | apply Kd.R_drew)); exact Kd.R_mono (Kd.R_far (p := ⟨go21, ((rd t215 x6_2) : Int).toNat, none⟩) (Kd.R_types HO_5.out GG23_.out (by decide)) (fun _ hk => hk.2) (.slice Ao25 y221.length co25)) (fun _ hk => trivial)⟩, ⟨by (with_reducible repeat (first | refine blk_drewN ?_ _ | refine blk_drew ?_ | refine blk_alloc ?_ _)); refine blk_far ?_ HNB211_go21.out _; (with_reducible repeat (first | refine blk_drewN ?_ _ | refine blk_drew ?_ | refine blk_alloc ?_ _)); exact BK211.out⟩, ⟨by repeat (first | (with_reducible first | exact HB.out | apply below_alloc | apply pw_below_drewN | apply below_drew1 | refine below_set ?_ GB21.out | refine below_set ?_ GE211.out) | exact HB.out)⟩⟩
            ·rw [if_neg c16] at H
             exact absurd H (by simp)
           ·rw [if_neg c15] at H
            exact absurd H (by simp)
          ·rw [if_neg c14] at H
           exact absurd H (by simp)
         ·rw [if_neg c13] at H
          exact absurd H (by simp)
        ·rw [if_neg c12] at H
         have c12b0 : decide (x6_2 < (t215.length : Int)) = false := decide_eq_false c12
         clear c12
         have H' := Aside0.mk H
         clear H
         obtain ⟨Ao26, co26, eo26⟩ := Kd.R_slice HO_5.out
         subst eo26
         go_wp2
         go_roundg k2
         case measure => have := HK1.out; have := HK2.out; omega
         case rel => exact ⟨(x3_2), (wrap64 (x4_1 + 1)), (by first | rfl | (simp; done) | (simp [*]; done)), H', ⟨by have := HK1.out; have := HK2.out; omega⟩, ⟨by (with_reducible repeat (first | apply Kd.S_alloc | apply Kd.S_drewN | apply Kd.S_drew)); exact Kd.S_mono HO_3.out (fun _ hk => trivial)⟩, ⟨by (with_reducible repeat (first | refine blk_drewN ?_ _ | refine blk_drew ?_ | refine blk_alloc ?_ _)); exact BK211.out⟩, ⟨by repeat (first | (with_reducible first | exact HB.out | apply below_alloc | apply pw_below_drewN | apply below_drew1 | refine below_set ?_ GE211.out) | exact HB.out)⟩⟩
     ·rw [if_neg c8] at H
      have c8b0 : decide (x4_1 < (l0_4.length : Int)) = false := decide_eq_false c8
      clear c8
      obtain rfl := Option.some.inj H
      have hcz27_0 : wr.cell? ⟨gb211, 0, none⟩ = some (.string a0_0) := (blk_cell BK211.out 0).trans rfl
      have hcz27_1 : wr.cell? ⟨gb211, 1, none⟩ = some (.bool a0_1) := (blk_cell BK211.out 1).trans rfl
      have hcz27_2 : wr.cell? ⟨gb211, 2, none⟩ = some (.slice A0_2 l0_2.length c0_2) := (blk_cell BK211.out 2).trans rfl
      have hcz27_3 : wr.cell? ⟨gb211, 3, none⟩ = some (.int .i64 a0_3) := (blk_cell BK211.out 3).trans rfl
      have hcz27_4 : wr.cell? ⟨gb211, 4, none⟩ = some (.slice A0_4 l0_4.length c0_4) := (blk_cell BK211.out 4).trans rfl
      have hfz27_0 := blk_frozen BK211.out 0
      have hfz27_1 := blk_frozen BK211.out 1
      have hfz27_2 := blk_frozen BK211.out 2
      have hfz27_3 := blk_frozen BK211.out 3
      have hfz27_4 := blk_frozen BK211.out 4
      go_wp2
      go_ret
      exact ⟨_, by first | rfl | (simp [errW_none, errW_some] <;> rfl) | (simp [*, errW_none, errW_some] <;> rfl), by (with_reducible repeat (first | apply Kd.S_alloc | apply Kd.S_drewN | apply Kd.S_drew)); exact HO_3.out, by repeat (first | (with_reducible first | exact HB.out | apply below_alloc | apply pw_below_drewN | apply below_drew1 | refine below_set ?_ GE211.out) | exact HB.out)⟩
  ·rw [if_neg c3] at H
   exact absurd H (by simp)
 ·rw [if_neg c2] at H
  exact absurd H (by simp)
end Go.Proofs.Ytkcimaibaicdcaa.P
end
section
namespace Go.Proofs.Ytkcimaibaicdcaa.P
open Go.RowKit Go.Proofs.YtkcimaibaicdcaaW.PrintWords Go.Proofs.YtkcimaibaicdcaaW.PrintLast Go.Proofs.YtkcimaibaicdcaaW.PrintMore
attribute [local go_sem] max2_int min2_int max_two min_two max_three min_three max_four min_four   
set_option linter.unusedVariables false
set_option linter.unusedSimpArgs false
def plnkeep_Bools.l0 : Nat → List Bool → List Bool → Int → Option (Bool)
 | 0, _, _, _ => none
 | k + 1, x0, x1, x5 => if x5 < (x0.length : Int) then (if 0 ≤ x5 then (if x5 < (x1.length : Int) then (if ((rdOf false x0 x5) != (rdOf false x1 x5)) = true then (some false) else (plnkeep_Bools.l0 k x0 x1 (wrap64 (x5 + 1)))) else (none)) else (none)) else (some true)
def plnkeep_Bools.f (k : Nat) (l0 : List Bool) (l1 : List Bool) : Option (Bool) := if (l0.length : Int) = (l1.length : Int) then (plnkeep_Bools.l0 k l0 l1 0) else (some false)
theorem plnkeep_Bools.mono_l : ∀ k, (∀ y0 y1 y2, LeO (plnkeep_Bools.l0 k y0 y1 y2) (plnkeep_Bools.l0 (k + 1) y0 y1 y2))
 | 0 => fun _ _ _ r h => by simp [plnkeep_Bools.l0] at h
 | k + 1 => by
  have ih0 := plnkeep_Bools.mono_l k
  ·intro y0 y1 y2
   unfold plnkeep_Bools.l0
   repeat' first
   | (with_reducible exact ih0 _ _ _)
   | (with_reducible exact LeO.refl _)
   | (with_reducible exact LeO.none _)
   | (with_reducible refine LeO.ite ?_ ?_)
   | (with_reducible refine LeO.bind ?_ (fun _ => ?_))
   | exact ih0 _ _ _
   | exact LeO.none _
   | refine LeO.ite ?_ ?_
   | refine LeO.bind ?_ (fun _ => ?_)
theorem plnkeep_Bools.mono : ∀ a0 a1 k, LeO (plnkeep_Bools.f k a0 a1) (plnkeep_Bools.f (k + 1) a0 a1) := by
 intro a0 a1 k
 have ih0 := plnkeep_Bools.mono_l k
 unfold plnkeep_Bools.f
 repeat' first
   | (with_reducible exact ih0 _ _ _)
   | (with_reducible exact LeO.refl _)
   | (with_reducible exact LeO.none _)
   | (with_reducible refine LeO.ite ?_ ?_)
   | (with_reducible refine LeO.bind ?_ (fun _ => ?_))
   | exact ih0 _ _ _
   | exact LeO.none _
   | refine LeO.ite ?_ ?_
   | refine LeO.bind ?_ (fun _ => ?_)
set_option maxHeartbeats 8000000 in
set_option maxRecDepth 100000 in
theorem plnkeep_Bools.calls (k : Nat) (A0 : Option Addr) (c0 : Nat) (l0 : List Bool) (A1 : Option Addr) (c1 : Nat) (l1 : List Bool) (r : Bool) (w : World) (hr0 : Kd.C Kd.bool w A0 l0.length l0) (hc0 : l0.length ≤ c0) (hr1 : Kd.C Kd.bool w A1 l1.length l1) (hc1 : l1.length ≤ c1) (h : plnkeep_Bools.f k l0 l1 = some r) :
  Calls Try.prog 24 #[.slice A0 l0.length c0, .slice A1 l1.length c1] w fun e w' => e = .returned (.bool r) ∧ Drawn0 w w' := by
 have HR0 := Aside0.mk hr0
 have HC0 := Aside0.mk hc0
 clear hr0 hc0
 have HR1 := Aside0.mk hr1
 have HC1 := Aside0.mk hc1
 clear hr1 hc1
 have H : (if (l0.length : Int) = (l1.length : Int) then (plnkeep_Bools.l0 k l0 l1 0) else (some false)) = some r := h
 clear h
 by_cases c3 : (l0.length : Int) = (l1.length : Int)
 ·rw [if_pos c3] at H
  have c3b0 : ((l0.length : Int) == (l1.length : Int)) = true := beq_iff_eq.mpr c3
  have c3b1 : ((l0.length : Int) != (l1.length : Int)) = false := bne_eq_false_iff_eq.mpr c3
  have c3b2 : (l0.length == l1.length) = true := by first | simpa using c3 | (simp at c3 ⊢; omega)
  clear c3
  have H' := Aside0.mk H
  clear H
  go_enter Try.func24, Try.ntmps24
  go_wp2
  repeat (go_quiet (fail); try go_wp2)
  go_loopg [5] k (fun kq v5 w' => ∃ (x5_1 : Int), v5 = .int .i64 x5_1 ∧ Aside0 (plnkeep_Bools.l0 kq l0 l1 x5_1 = some r) ∧ Aside0 (kq ≤ k) ∧ Drawn0 w w')
  case atStart => exact ⟨(0), (by first | rfl | (simp; done) | (simp [*]; done)), H', ⟨Nat.le_refl _⟩, by repeat (first | exact Drawn0.refl _ | apply Drawn0.step)⟩
  case round =>
   clear H'
   try clear c1
   try clear c2
   try clear p2
   try clear c3
   try clear c3b0
   try clear c3b1
   try clear c3b2
   obtain ⟨x5_1, rfl, HA, HK1, ⟨m1, rfl⟩⟩ := hrel
   cases gk with
   | zero => exact absurd HA.out (by simp [plnkeep_Bools.l0])
   | succ k1 =>
    have H := HA.out
    clear HA
    simp only [plnkeep_Bools.l0] at H
    by_cases c4 : x5_1 < (l0.length : Int)
    ·rw [if_pos c4] at H
     have c4b0 : decide (x5_1 < (l0.length : Int)) = true := decide_eq_true c4
     clear c4
     by_cases c5 : 0 ≤ x5_1
     ·rw [if_pos c5] at H
      have c5b0 : decide (0 ≤ x5_1) = true := decide_eq_true c5
      clear c5
      by_cases c6 : x5_1 < (l1.length : Int)
      ·rw [if_pos c6] at H
       have c6b0 : decide (x5_1 < (l1.length : Int)) = true := decide_eq_true c6
       clear c6
       by_cases c7 : ((rdOf false l0 x5_1) != (rdOf false l1 x5_1)) = true
       ·rw [if_pos c7] at H
        have c7b0 : ((rdOf false l0 x5_1) != (rdOf false l1 x5_1)) = true := c7
        (try (have c7b1 : decide ((rdOf false l0 x5_1) = (rdOf false l1 x5_1)) = false := by simpa using c7))
        (try (have c7b2 : ((rdOf false l0 x5_1) == (rdOf false l1 x5_1)) = false := by simpa using c7))
        (try (have c7b3 : ¬ ((rdOf false l0 x5_1) = (rdOf false l1 x5_1)) := by simpa using c7))
        clear c7
        obtain rfl := Option.some.inj H
        have p225 : 0 ≤ (x5_1 : Int) := of_decide_eq_true (by first | (with_reducible assumption) | assumption)
        have q225 : x5_1 < (l0.length : Int) := of_decide_eq_true (by first | (with_reducible assumption) | assumption)
        obtain ⟨ad225, e225, hx225_0⟩ := Kd.at_bool HR0.out x5_1 p225 q225
        cases e225
        replace p225 := eq_true p225
        replace q225 := eq_true q225
        have p226 : 0 ≤ (x5_1 : Int) := of_decide_eq_true (by first | (with_reducible assumption) | assumption)
        have q226 : x5_1 < (l1.length : Int) := of_decide_eq_true (by first | (with_reducible assumption) | assumption)
        obtain ⟨ad226, e226, hx226_0⟩ := Kd.at_bool HR1.out x5_1 p226 q226
        cases e226
        replace p226 := eq_true p226
        replace q226 := eq_true q226
        go_wp2
        repeat (go_quiet (fail); try go_wp2)
        go_ret
        exact ⟨by first | rfl | (simp; done) | (simp [*]; done), by repeat (first | exact Drawn0.refl _ | apply Drawn0.step)⟩
       ·rw [if_neg c7] at H
        have c7b0 : ((rdOf false l0 x5_1) != (rdOf false l1 x5_1)) = false := by simpa using c7
        (try (have c7b1 : decide ((rdOf false l0 x5_1) = (rdOf false l1 x5_1)) = true := by simpa using c7))
        (try (have c7b2 : ((rdOf false l0 x5_1) == (rdOf false l1 x5_1)) = true := by simpa using c7))
        clear c7
        have H' := Aside0.mk H
        clear H
        have p225 : 0 ≤ (x5_1 : Int) := of_decide_eq_true (by first | (with_reducible assumption) | assumption)
        have q225 : x5_1 < (l0.length : Int) := of_decide_eq_true (by first | (with_reducible assumption) | assumption)
        obtain ⟨ad225, e225, hx225_0⟩ := Kd.at_bool HR0.out x5_1 p225 q225
        cases e225
        replace p225 := eq_true p225
        replace q225 := eq_true q225
        have p226 : 0 ≤ (x5_1 : Int) := of_decide_eq_true (by first | (with_reducible assumption) | assumption)
        have q226 : x5_1 < (l1.length : Int) := of_decide_eq_true (by first | (with_reducible assumption) | assumption)
        obtain ⟨ad226, e226, hx226_0⟩ := Kd.at_bool HR1.out x5_1 p226 q226
        cases e226
        replace p226 := eq_true p226
        replace q226 := eq_true q226
        go_wp2
        repeat (go_quiet (fail); try go_wp2)
        go_roundg k1
        case measure => have := HK1.out; omega
        case rel => exact ⟨(wrap64 (x5_1 + 1)), (by first | rfl | (simp; done) | (simp [*]; done)), H', ⟨by have := HK1.out; omega⟩, by repeat (first | exact Drawn0.refl _ | apply Drawn0.step)⟩
      ·rw [if_neg c6] at H
       exact absurd H (by simp)
     ·rw [if_neg c5] at H
      exact absurd H (by simp)
    ·rw [if_neg c4] at H
     have c4b0 : decide (x5_1 < (l0.length : Int)) = false := decide_eq_false c4
     clear c4
     obtain rfl := Option.some.inj H
     go_wp2
     repeat (go_quiet (fail); try go_wp2)
     go_ret
     exact ⟨by first | rfl | (simp; done) | (simp [*]; done), by repeat (first | exact Drawn0.refl _ | apply Drawn0.step)⟩
 ·rw [if_neg c3] at H
  have c3b0 : ((l0.length : Int) == (l1.length : Int)) = false := beq_eq_false_iff_ne.mpr c3
  have c3b1 : ((l0.length : Int) != (l1.length : Int)) = true := bne_iff_ne.mpr c3
  have c3b2 : (l0.length == l1.length) = false := by first | simpa using c3 | (simp at c3 ⊢; omega)
  obtain rfl := Option.some.inj H
  go_enter Try.func24, Try.ntmps24
  go_wp2
  repeat (go_quiet (fail); try go_wp2)
  go_ret
  exact ⟨by first | rfl | (simp; done) | (simp [*]; done), by repeat (first | exact Drawn0.refl _ | apply Drawn0.step)⟩
end Go.Proofs.Ytkcimaibaicdcaa.P
end
