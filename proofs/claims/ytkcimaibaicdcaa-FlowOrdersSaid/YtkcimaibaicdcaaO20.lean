/- A part of the proof of the law of FlowOrders: lemmas and walks, out of this session's texts, with what the claim does not use struck out. -/
import Derived.Test.YtkcimaibaicdcaaO6
import Derived.Test.YtkcimaibaicdcaaO15
import Derived.Test.YtkcimaibaicdcaaO18
import Derived.Test.YtkcimaibaicdcaaO19
section
namespace Go.Proofs.Ytkcimaibaicdcaa.P
open Go.RowKit Go.Proofs.YtkcimaibaicdcaaW.PrintWords Go.Proofs.YtkcimaibaicdcaaW.PrintLast Go.Proofs.YtkcimaibaicdcaaW.PrintMore
attribute [local go_sem] max2_int min2_int max_two min_two max_three min_three max_four min_four   
set_option linter.unusedVariables false
set_option linter.unusedSimpArgs false
mutual
def plnref3_Loops.l0 : Nat → List Bool → Int → ByteArray → Bool → List Int → Int → List (S54) → Option (Bool)
 | 0, _, _, _, _, _, _, _ => none
 | k + 1, x3, x4, x273000, x273001, x273002, x273003, x273004 => if x4 < (x3.length : Int) then (if 0 ≤ x4 then (if rdOf false x3 x4 = true then ((plnref3_Next.f k x273000 x273001 x273002 x273003 x273004 x4).bind fun t277 => (plnref3_Loops.l1 k x3 x4 t277 0 x273000 x273001 x273002 x273003 x273004)) else (plnref3_Loops.l0 k x3 (wrap64 (x4 + 1)) x273000 x273001 x273002 x273003 x273004)) else (none)) else (some false)
def plnref3_Loops.l1 : Nat → List Bool → Int → List Int → Int → ByteArray → Bool → List Int → Int → List (S54) → Option (Bool)
 | 0, _, _, _, _, _, _, _, _, _ => none
 | k + 1, x3, x4, x5, x6, x273000, x273001, x273002, x273003, x273004 => if x6 < (x5.length : Int) then (if 0 ≤ x6 then ((plnref3_from.f k x273000 x273001 x273002 x273003 x273004 (rd x5 x6) (-1)).bind fun t281 => (if 0 ≤ x4 then (if x4 < (t281.length : Int) then (if rdOf false t281 x4 = true then (some true) else (plnref3_Loops.l1 k x3 x4 x5 (wrap64 (x6 + 1)) x273000 x273001 x273002 x273003 x273004)) else (none)) else (none))) else (none)) else (plnref3_Loops.l0 k x3 (wrap64 (x4 + 1)) x273000 x273001 x273002 x273003 x273004)
end
def plnref3_Loops.f (k : Nat) (a0_0 : ByteArray) (a0_1 : Bool) (l0_2 : List Int) (a0_3 : Int) (l0_4 : List (S54)) : Option (Bool) := (plnref3_Reach.f k a0_0 a0_1 l0_2 a0_3 l0_4).bind fun t273 => (plnref3_Loops.l0 k t273 0 a0_0 a0_1 l0_2 a0_3 l0_4)
theorem plnref3_Loops.mono_l : ∀ k, (∀ y0 y1 y2 y3 y4 y5 y6, LeO (plnref3_Loops.l0 k y0 y1 y2 y3 y4 y5 y6) (plnref3_Loops.l0 (k + 1) y0 y1 y2 y3 y4 y5 y6)) ∧ (∀ y0 y1 y2 y3 y4 y5 y6 y7 y8, LeO (plnref3_Loops.l1 k y0 y1 y2 y3 y4 y5 y6 y7 y8) (plnref3_Loops.l1 (k + 1) y0 y1 y2 y3 y4 y5 y6 y7 y8))
 | 0 => ⟨fun _ _ _ _ _ _ _ r h => by simp [plnref3_Loops.l0] at h, fun _ _ _ _ _ _ _ _ _ r h => by simp [plnref3_Loops.l1] at h⟩
 | k + 1 => by
  obtain ⟨ih0, ih1⟩ := plnref3_Loops.mono_l k
  refine ⟨?_, ?_⟩
  ·intro y0 y1 y2 y3 y4 y5 y6
   unfold plnref3_Loops.l0
   repeat' first
   | (with_reducible exact ih0 _ _ _ _ _ _ _)
   | (with_reducible exact ih1 _ _ _ _ _ _ _ _ _)
   | (with_reducible exact plnref3_Next.mono _ _ _ _ _ _ _)
   | (with_reducible exact plnref3_Reach.mono _ _ _ _ _ _)
   | (with_reducible exact plnref3_from.mono _ _ _ _ _ _ _ _)
   | (with_reducible exact LeO.refl _)
   | (with_reducible exact LeO.none _)
   | (with_reducible refine LeO.ite ?_ ?_)
   | (with_reducible refine LeO.bind ?_ (fun _ => ?_))
   | exact ih0 _ _ _ _ _ _ _
   | exact ih1 _ _ _ _ _ _ _ _ _
   | exact plnref3_Next.mono _ _ _ _ _ _ _
   | exact plnref3_Reach.mono _ _ _ _ _ _
   | exact plnref3_from.mono _ _ _ _ _ _ _ _
   | exact LeO.none _
   | refine LeO.ite ?_ ?_
   | refine LeO.bind ?_ (fun _ => ?_)
  ·intro y0 y1 y2 y3 y4 y5 y6 y7 y8
   unfold plnref3_Loops.l1
   repeat' first
   | (with_reducible exact ih0 _ _ _ _ _ _ _)
   | (with_reducible exact ih1 _ _ _ _ _ _ _ _ _)
   | (with_reducible exact plnref3_Next.mono _ _ _ _ _ _ _)
   | (with_reducible exact plnref3_Reach.mono _ _ _ _ _ _)
   | (with_reducible exact plnref3_from.mono _ _ _ _ _ _ _ _)
   | (with_reducible exact LeO.refl _)
   | (with_reducible exact LeO.none _)
   | (with_reducible refine LeO.ite ?_ ?_)
   | (with_reducible refine LeO.bind ?_ (fun _ => ?_))
   | exact ih0 _ _ _ _ _ _ _
   | exact ih1 _ _ _ _ _ _ _ _ _
   | exact plnref3_Next.mono _ _ _ _ _ _ _
   | exact plnref3_Reach.mono _ _ _ _ _ _
   | exact plnref3_from.mono _ _ _ _ _ _ _ _
   | exact LeO.none _
   | refine LeO.ite ?_ ?_
   | refine LeO.bind ?_ (fun _ => ?_)
theorem plnref3_Loops.mono : ∀ a0 a1 a2 a3 a4 k, LeO (plnref3_Loops.f k a0 a1 a2 a3 a4) (plnref3_Loops.f (k + 1) a0 a1 a2 a3 a4) := by
 intro a0 a1 a2 a3 a4 k
 obtain ⟨ih0, ih1⟩ := plnref3_Loops.mono_l k
 unfold plnref3_Loops.f
 repeat' first
   | (with_reducible exact ih0 _ _ _ _ _ _ _)
   | (with_reducible exact ih1 _ _ _ _ _ _ _ _ _)
   | (with_reducible exact plnref3_Next.mono _ _ _ _ _ _ _)
   | (with_reducible exact plnref3_Reach.mono _ _ _ _ _ _)
   | (with_reducible exact plnref3_from.mono _ _ _ _ _ _ _ _)
   | (with_reducible exact LeO.refl _)
   | (with_reducible exact LeO.none _)
   | (with_reducible refine LeO.ite ?_ ?_)
   | (with_reducible refine LeO.bind ?_ (fun _ => ?_))
   | exact ih0 _ _ _ _ _ _ _
   | exact ih1 _ _ _ _ _ _ _ _ _
   | exact plnref3_Next.mono _ _ _ _ _ _ _
   | exact plnref3_Reach.mono _ _ _ _ _ _
   | exact plnref3_from.mono _ _ _ _ _ _ _ _
   | exact LeO.none _
   | refine LeO.ite ?_ ?_
   | refine LeO.bind ?_ (fun _ => ?_)
def plnref3_Loops.T10 : Bool × List (List Nat × List Nat) := (true, [([], []), ([], []), ([], []), ([1, 2], [1, 2]), ([3], [3]), ([0, 4], [0, 4]), ([], []), ([5, 6], [5, 6]), ([7], [7])])
def plnref3_Loops.B10 : List Nat := [0, 0, 0, 6, 14, 31, 0, 127, 255]
theorem plnref3_Loops.tab10 : rtab .any (opsOf Try.f30 10) = plnref3_Loops.T10 := by kernel_rfl
theorem plnref3_Loops.bits10 : waitsOk plnref3_Loops.T10.2 plnref3_Loops.B10 = true := by kernel_rfl
set_option maxHeartbeats 8000000 in
set_option maxRecDepth 100000 in
theorem plnref3_Loops.calls (k : Nat) (a0_0 : ByteArray) (a0_1 : Bool) (A0_2 : Option Addr) (c0_2 : Nat) (l0_2 : List Int) (a0_3 : Int) (A0_4 : Option Addr) (c0_4 : Nat) (l0_4 : List (S54)) (r : Bool) (w : World) (hr0_2 : Kd.C (Kd.int .i64) w A0_2 l0_2.length l0_2) (hc0_2 : l0_2.length ≤ c0_2) (hr0_4 : Kd.C k54 w A0_4 l0_4.length l0_4) (hc0_4 : l0_4.length ≤ c0_4) (h : plnref3_Loops.f k a0_0 a0_1 l0_2 a0_3 l0_4 = some r) :
  Calls Try.prog 30 #[.agg #[.string a0_0, .bool a0_1, .slice A0_2 l0_2.length c0_2, .int .i64 a0_3, .slice A0_4 l0_4.length c0_4]] w fun e w' => e = .returned (.bool r) ∧ Below w.heap.size w w' := by
 have hu25 := Try.underlying25
 have HR0_2 := Aside0.mk hr0_2
 have HC0_2 := Aside0.mk hc0_2
 clear hr0_2 hc0_2
 have HR0_4 := Aside0.mk hr0_4
 have HC0_4 := Aside0.mk hc0_4
 clear hr0_4 hc0_4; have HB := Aside0.mk (Below.refl w.heap.size w)
 have H : ((plnref3_Reach.f k a0_0 a0_1 l0_2 a0_3 l0_4).bind fun t273 => (plnref3_Loops.l0 k t273 0 a0_0 a0_1 l0_2 a0_3 l0_4)) = some r := h
 clear h
 replace H := Option.bind_eq_some_iff.mp H
 obtain ⟨t273, A20, H⟩ := H
 replace H : (plnref3_Loops.l0 k t273 0 a0_0 a0_1 l0_2 a0_3 l0_4) = some r := H
 have A2 := Aside0.mk A20
 clear A20
 have H' := Aside0.mk H
 clear H
 go_enter Try.func30, Try.ntmps30
 go_wp2_with (first | ((with_reducible refine gate_dst (N := 1) rfl ?_); refine box_event ?hg (N := 1) ?hd (cs := #[.string a0_0, .bool a0_1, .slice A0_2 l0_2.length c0_2, .int .i64 a0_3, .slice A0_4 l0_4.length c0_4]) (t := 25) ?hr ?_; (case hd => rfl); (case hg => rfl); (case hr => first | (go_simp; done) | (go_simp; rfl)); intro gb272 hg w3 hbox hb; have n0_ := Aside0.mk (below_step (by repeat (first | (with_reducible first | exact HB.out | apply below_alloc | apply pw_below_drewN | apply below_drew1) | exact HB.out)) hb); have n1_ := Aside0.mk (hbox); have n2_ := Aside0.mk ((by rw [hg]; exact (below_size (by repeat (first | (with_reducible first | exact HB.out | apply below_alloc | apply pw_below_drewN | apply below_drew1) | exact HB.out))) : w.heap.size ≤ gb272)); have n3_ := Aside0.mk ((by rw [hg]; exact (below_size (by repeat (first | (with_reducible first | exact HB.out | apply below_alloc | apply pw_below_drewN | apply below_drew1) | exact HB.out))) : w.heap.size ≤ gb272)); clear HB; have HB := n0_; have BK272 := n1_; have GW272 := n2_; have GE272 := n3_; clear n0_ n1_ n2_ n3_; clear hb hbox hg; have hcz4_0 : w3.cell? ⟨gb272, 0, none⟩ = some (.string a0_0) := (blk_cell BK272.out 0).trans rfl; have hcz4_1 : w3.cell? ⟨gb272, 1, none⟩ = some (.bool a0_1) := (blk_cell BK272.out 1).trans rfl; have hcz4_2 : w3.cell? ⟨gb272, 2, none⟩ = some (.slice A0_2 l0_2.length c0_2) := (blk_cell BK272.out 2).trans rfl; have hcz4_3 : w3.cell? ⟨gb272, 3, none⟩ = some (.int .i64 a0_3) := (blk_cell BK272.out 3).trans rfl; have hcz4_4 : w3.cell? ⟨gb272, 4, none⟩ = some (.slice A0_4 l0_4.length c0_4) := (blk_cell BK272.out 4).trans rfl; have hfz4_0 := blk_frozen BK272.out 0; have hfz4_1 := blk_frozen BK272.out 1; have hfz4_2 := blk_frozen BK272.out 2; have hfz4_3 := blk_frozen BK272.out 3; have hfz4_4 := blk_frozen BK272.out 4) | ((with_reducible refine gate_callee (f := 26) rfl ?_); refine goesL_ (some 8) rfl rfl Try.func26 (by kernel_rfl) rfl #[.agg #[.string a0_0, .bool a0_1, .slice A0_2 l0_2.length c0_2, .int .i64 a0_3, .slice A0_4 l0_4.length c0_4]] rfl (by (try simp only [List.map_toArray, List.map_cons, List.map_nil]); first | done | rfl | (simp only [List.length_drop, List.length_take]; rfl)) ?_; (with_reducible refine (plnref3_Reach.calls k a0_0 a0_1 _ _ l0_2 a0_3 _ _ l0_4 t273 _ ?side1 ?side2 ?side3 ?side4 A2.out).mono ?_); (case side1 => repeat (first | exact (Kd.C_below HR0_2.out HB.out) | (with_reducible refine Kd.C_alloc ?_ _) | (with_reducible refine Kd.C_drewN ?_ _) | (with_reducible refine Kd.C_drew ?_))); (case side2 => exact HC0_2.out); (case side3 => repeat (first | exact (Kd.C_below HR0_4.out HB.out) | (with_reducible refine Kd.C_alloc ?_ _) | (with_reducible refine Kd.C_drewN ?_ _) | (with_reducible refine Kd.C_drew ?_))); (case side4 => exact HC0_4.out); rintro e w5 ⟨v274, rfl, ho0, hb⟩; refine ⟨_, rfl, ?_⟩; have n0_ := Aside0.mk (Kd.R_lower ho0 (below_size (by repeat (first | (with_reducible first | exact HB.out | apply below_alloc | apply pw_below_drewN | apply below_drew1 | refine below_set ?_ GE272.out) | exact HB.out)))); have n1_ := Aside0.mk (blk_below (g := gb272) (o := .cells #[.string a0_0, .bool a0_1, .slice A0_2 l0_2.length c0_2, .int .i64 a0_3, .slice A0_4 l0_4.length c0_4] 25 (0, 0)) (by (with_reducible repeat (first | refine blk_drewN ?_ _ | refine blk_drew ?_ | refine blk_alloc ?_ _)); exact BK272.out) hb); have n2_ := Aside0.mk (below_step (by repeat (first | (with_reducible first | exact HB.out | apply below_alloc | apply pw_below_drewN | apply below_drew1 | refine below_set ?_ GE272.out) | exact HB.out)) hb); clear BK272; clear HB; have HO275 := n0_; have BK272 := n1_; have HB := n2_; clear n0_ n1_ n2_; (try clear hb); (try clear hb2); (try clear hk); (try clear hi); (try clear ho0)))
 go_loopg [4] k (fun kq v4 w' => ∃ (x4_1 : Int), v4 = .int .i64 x4_1 ∧ Aside0 (plnref3_Loops.l0 kq t273 x4_1 a0_0 a0_1 l0_2 a0_3 l0_4 = some r) ∧ Aside0 (kq ≤ k) ∧ Aside0 (Kd.R Kd.bool 4 w' w.heap.size (fun _ => True) v274 t273) ∧ Aside0 (w'.heap[gb272]? = some (.cells #[.string a0_0, .bool a0_1, (.slice A0_2 l0_2.length c0_2), .int .i64 a0_3, (.slice A0_4 l0_4.length c0_4)] 25 (0, 0))) ∧ Aside0 (Below w.heap.size w w'))
 case atStart => exact ⟨(0), (by first | rfl | (simp; done) | (simp [*]; done)), H', ⟨Nat.le_refl _⟩, ⟨by (with_reducible repeat (first | apply Kd.R_alloc | apply Kd.R_drewN | apply Kd.R_drew)); exact HO275.out⟩, ⟨by (with_reducible repeat (first | refine blk_drewN ?_ _ | refine blk_drew ?_ | refine blk_alloc ?_ _)); exact BK272.out⟩, ⟨by repeat (first | (with_reducible first | exact HB.out | apply below_alloc | apply pw_below_drewN | apply below_drew1 | refine below_set ?_ GE272.out) | exact HB.out)⟩⟩
 case round =>
  clear H'
  try clear c2
  try clear p2
  try clear c3
  try clear hcz4_0
  try clear hcz4_1
  try clear hcz4_2
  try clear hcz4_3
  try clear hcz4_4
  try clear hfz4_0
  try clear hfz4_1
  try clear hfz4_2
  try clear hfz4_3
  try clear hfz4_4
  obtain ⟨x4_1, rfl, HA, HK1, HO_3, BK272, HB⟩ := hrel
  cases gk with
  | zero => exact absurd HA.out (by simp [plnref3_Loops.l0])
  | succ k1 =>
   have H := HA.out
   clear HA
   simp only [plnref3_Loops.l0] at H
   by_cases c6 : x4_1 < (t273.length : Int)
   ·rw [if_pos c6] at H
    have c6b0 : decide (x4_1 < (t273.length : Int)) = true := decide_eq_true c6
    clear c6
    by_cases c7 : 0 ≤ x4_1
    ·rw [if_pos c7] at H
     have c7b0 : decide (0 ≤ x4_1) = true := decide_eq_true c7
     clear c7
     obtain ⟨bq8, hbq8⟩ : ∃ b_ : Bool, b_ = (rdOf false t273 x4_1) := ⟨_, rfl⟩
     replace H : (if bq8 = true then ((plnref3_Next.f k1 a0_0 a0_1 l0_2 a0_3 l0_4 x4_1).bind fun t277 => (plnref3_Loops.l1 k1 t273 x4_1 t277 0 a0_0 a0_1 l0_2 a0_3 l0_4)) else (plnref3_Loops.l0 k1 t273 (wrap64 (x4_1 + 1)) a0_0 a0_1 l0_2 a0_3 l0_4)) = some r := by rw [← hbq8] at H; exact H
     have Nbq8 := Aside0.mk hbq8
     clear hbq8
     by_cases c9 : bq8 = true
     ·subst c9
      have H1 : ((plnref3_Next.f k1 a0_0 a0_1 l0_2 a0_3 l0_4 x4_1).bind fun t277 => (plnref3_Loops.l1 k1 t273 x4_1 t277 0 a0_0 a0_1 l0_2 a0_3 l0_4)) = some r := by rw [if_pos rfl] at H; exact H
      clear H; have H := H1; clear H1
      replace H := Option.bind_eq_some_iff.mp H
      obtain ⟨t277, A100, H⟩ := H
      replace H : (plnref3_Loops.l1 k1 t273 x4_1 t277 0 a0_0 a0_1 l0_2 a0_3 l0_4) = some r := H
      have A10 := Aside0.mk A100
      clear A100
      have H' := Aside0.mk H
      clear H
      obtain ⟨Ao11, co11, eo11⟩ := Kd.R_slice HO_3.out
      subst eo11
      have p276 : 0 ≤ (x4_1 : Int) := of_decide_eq_true (by first | (with_reducible assumption) | assumption)
      have q276 : x4_1 < (t273.length : Int) := of_decide_eq_true (by first | (with_reducible assumption) | assumption)
      obtain ⟨ad276, e276, hx276_0⟩ := Kd.at_bool (Kd.R_reads' HO_3.out).2.2 x4_1 p276 q276
      (try rw [← Nbq8.out] at hx276_0)
      cases e276
      replace p276 := eq_true p276
      replace q276 := eq_true q276
      have hcz12_0 : wr.cell? ⟨gb272, 0, none⟩ = some (.string a0_0) := (blk_cell BK272.out 0).trans rfl
      have hcz12_1 : wr.cell? ⟨gb272, 1, none⟩ = some (.bool a0_1) := (blk_cell BK272.out 1).trans rfl
      have hcz12_2 : wr.cell? ⟨gb272, 2, none⟩ = some (.slice A0_2 l0_2.length c0_2) := (blk_cell BK272.out 2).trans rfl
      have hcz12_3 : wr.cell? ⟨gb272, 3, none⟩ = some (.int .i64 a0_3) := (blk_cell BK272.out 3).trans rfl
      have hcz12_4 : wr.cell? ⟨gb272, 4, none⟩ = some (.slice A0_4 l0_4.length c0_4) := (blk_cell BK272.out 4).trans rfl
      have hfz12_0 := blk_frozen BK272.out 0
      have hfz12_1 := blk_frozen BK272.out 1
      have hfz12_2 := blk_frozen BK272.out 2
      have hfz12_3 := blk_frozen BK272.out 3
      have hfz12_4 := blk_frozen BK272.out 4
      go_wp2_with (first | ((with_reducible refine gate_callee (f := 20) rfl ?_); refine goesL_ (some 22) rfl rfl Try.func20 (by kernel_rfl) rfl #[.agg #[.string a0_0, .bool a0_1, .slice A0_2 l0_2.length c0_2, .int .i64 a0_3, .slice A0_4 l0_4.length c0_4], .int .i64 x4_1] rfl (by (try simp only [List.map_toArray, List.map_cons, List.map_nil]); first | done | rfl | (simp only [List.length_drop, List.length_take]; rfl)) ?_; (with_reducible refine (plnref3_Next.calls k1 a0_0 a0_1 _ _ l0_2 a0_3 _ _ l0_4 x4_1 t277 _ ?side1 ?side2 ?side3 ?side4 A10.out).mono ?_); (case side1 => repeat (first | exact (Kd.C_below HR0_2.out HB.out) | (with_reducible refine Kd.C_alloc ?_ _) | (with_reducible refine Kd.C_drewN ?_ _) | (with_reducible refine Kd.C_drew ?_))); (case side2 => exact HC0_2.out); (case side3 => repeat (first | exact (Kd.C_below HR0_4.out HB.out) | (with_reducible refine Kd.C_alloc ?_ _) | (with_reducible refine Kd.C_drewN ?_ _) | (with_reducible refine Kd.C_drew ?_))); (case side4 => exact HC0_4.out); rintro e w13 ⟨v278, rfl, ho0, hb⟩; refine ⟨_, rfl, ?_⟩; have n0_ := Aside0.mk (Kd.R_below (by (with_reducible repeat (first | apply Kd.R_alloc | apply Kd.R_drewN | apply Kd.R_drew)); exact HO_3.out) hb); have n1_ := Aside0.mk (Kd.R_lower ho0 (below_size (by repeat (first | (with_reducible first | exact HB.out | apply below_alloc | apply pw_below_drewN | apply below_drew1 | refine below_set ?_ GE272.out) | exact HB.out)))); have n2_ := Aside0.mk (blk_below (g := gb272) (o := .cells #[.string a0_0, .bool a0_1, .slice A0_2 l0_2.length c0_2, .int .i64 a0_3, .slice A0_4 l0_4.length c0_4] 25 (0, 0)) (by (with_reducible repeat (first | refine blk_drewN ?_ _ | refine blk_drew ?_ | refine blk_alloc ?_ _)); exact BK272.out) hb); have n3_ := Aside0.mk (below_step (by repeat (first | (with_reducible first | exact HB.out | apply below_alloc | apply pw_below_drewN | apply below_drew1 | refine below_set ?_ GE272.out) | exact HB.out)) hb); clear HO_3; clear BK272; clear HB; have HO_3 := n0_; have HO279 := n1_; have BK272 := n2_; have HB := n3_; clear n0_ n1_ n2_ n3_; (try clear hb); (try clear hb2); (try clear hk); (try clear hi); (try clear ho0)))
      go_loopg [6] k1 (fun kq v6 w' => ∃ (x6_2 : Int), v6 = .int .i64 x6_2 ∧ Aside0 (plnref3_Loops.l1 kq t273 x4_1 t277 x6_2 a0_0 a0_1 l0_2 a0_3 l0_4 = some r) ∧ Aside0 (kq ≤ k1) ∧ Aside0 (Kd.R Kd.bool 4 w' w.heap.size (fun _ => True) (.slice (some ad276) t273.length co11) t273) ∧ Aside0 (Kd.R (Kd.int .i64) 3 w' w.heap.size (fun _ => True) v278 t277) ∧ Aside0 (w'.heap[gb272]? = some (.cells #[.string a0_0, .bool a0_1, (.slice A0_2 l0_2.length c0_2), .int .i64 a0_3, (.slice A0_4 l0_4.length c0_4)] 25 (0, 0))) ∧ Aside0 (Below w.heap.size w w'))
      case atStart => exact ⟨(0), (by first | rfl | (simp; done) | (simp [*]; done)), H', ⟨Nat.le_refl _⟩, ⟨by (with_reducible repeat (first | apply Kd.R_alloc | apply Kd.R_drewN | apply Kd.R_drew)); exact HO_3.out⟩, ⟨by (with_reducible repeat (first | apply Kd.R_alloc | apply Kd.R_drewN | apply Kd.R_drew)); exact HO279.out⟩, ⟨by (with_reducible repeat (first | refine blk_drewN ?_ _ | refine blk_drew ?_ | refine blk_alloc ?_ _)); exact BK272.out⟩, ⟨by repeat (first | (with_reducible first | exact HB.out | apply below_alloc | apply pw_below_drewN | apply below_drew1 | refine below_set ?_ GE272.out) | exact HB.out)⟩⟩
      case round =>
       clear H'
       try clear c2
       try clear p2
       try clear q2
       try clear hx2
       try clear c3
       try clear c6
       try clear c6b0
       try clear p6
       try clear c7
       try clear c7b0
       try clear q8
       try clear c9
       try clear hcz12_0
       try clear hcz12_1
       try clear hcz12_2
       try clear hcz12_3
       try clear hcz12_4
       try clear hcz4_0
       try clear hcz4_1
       try clear hcz4_2
       try clear hcz4_3
       try clear hcz4_4
       try clear hfz12_0
       try clear hfz12_1
       try clear hfz12_2
       try clear hfz12_3
       try clear hfz12_4
       try clear hfz4_0
       try clear hfz4_1
       try clear hfz4_2
       try clear hfz4_3
       try clear hfz4_4
       try clear hx276_0
       try clear p2
       try clear p276
       try clear q276
       obtain ⟨x6_2, rfl, HA, HK2, HO_3, HO_5, BK272, HB⟩ := hrel
       cases gk with
       | zero => exact absurd HA.out (by simp [plnref3_Loops.l1])
       | succ k2 =>
        have H := HA.out
        clear HA
        simp only [plnref3_Loops.l1] at H
        by_cases c14 : x6_2 < (t277.length : Int)
        ·rw [if_pos c14] at H
         have c14b0 : decide (x6_2 < (t277.length : Int)) = true := decide_eq_true c14
         clear c14
         by_cases c15 : 0 ≤ x6_2
         ·rw [if_pos c15] at H
          have c15b0 : decide (0 ≤ x6_2) = true := decide_eq_true c15
          clear c15
          replace H := Option.bind_eq_some_iff.mp H
          obtain ⟨t281, A160, H⟩ := H
          replace H : (if 0 ≤ x4_1 then (if x4_1 < (t281.length : Int) then (if rdOf false t281 x4_1 = true then (some true) else (plnref3_Loops.l1 k2 t273 x4_1 t277 (wrap64 (x6_2 + 1)) a0_0 a0_1 l0_2 a0_3 l0_4)) else (none)) else (none)) = some r := H
          have A16 := Aside0.mk A160
          clear A160
          by_cases c17 : 0 ≤ x4_1
          ·rw [if_pos c17] at H
           have c17b0 : decide (0 ≤ x4_1) = true := decide_eq_true c17
           clear c17
           by_cases c18 : x4_1 < (t281.length : Int)
           ·rw [if_pos c18] at H
            have c18b0 : decide (x4_1 < (t281.length : Int)) = true := decide_eq_true c18
            clear c18
            obtain ⟨bq19, hbq19⟩ : ∃ b_ : Bool, b_ = (rdOf false t281 x4_1) := ⟨_, rfl⟩
            replace H : (if bq19 = true then (some true) else (plnref3_Loops.l1 k2 t273 x4_1 t277 (wrap64 (x6_2 + 1)) a0_0 a0_1 l0_2 a0_3 l0_4)) = some r := by rw [← hbq19] at H; exact H
            have Nbq19 := Aside0.mk hbq19
            clear hbq19
            (try rw [← Nbq19.out] at hx276_0)
            by_cases c20 : bq19 = true
            ·subst c20
             have H1 : (some true) = some r := by rw [if_pos rfl] at H; exact H
             clear H; have H := H1; clear H1
             obtain rfl := Option.some.inj H
             obtain ⟨Ao21, co21, eo21⟩ := Kd.R_slice HO_5.out
             subst eo21
             try go_wp2
             have n0_ := Aside0.mk (Kd.R_drew HO_3.out); have n1_ := Aside0.mk (Kd.R_drew HO_5.out); have n2_ := Aside0.mk (blk_drew BK272.out); have n3_ := Aside0.mk (below_drew1 HB.out); clear HO_3 HO_5 BK272 HB; have HO_3 := n0_; have HO_5 := n1_; have BK272 := n2_; have HB := n3_; clear n0_ n1_ n2_ n3_
             have p280 : 0 ≤ (x6_2 : Int) := of_decide_eq_true (by first | (with_reducible assumption) | assumption)
             have q280 : x6_2 < (t277.length : Int) := of_decide_eq_true (by first | (with_reducible assumption) | assumption)
             obtain ⟨ad280, e280, hx280_0⟩ := Kd.at_int (Kd.R_reads' HO_5.out).2.2 x6_2 p280 q280
             cases e280
             replace p280 := eq_true p280
             replace q280 := eq_true q280
             refine start_ (n := 9) (S := fun w' => w'.cell? ⟨gb272, 0, none⟩ = some (.string a0_0) ∧ w'.cell? ⟨gb272, 1, none⟩ = some (.bool a0_1) ∧ w'.cell? ⟨gb272, 2, none⟩ = some (.slice A0_2 l0_2.length c0_2) ∧ w'.cell? ⟨gb272, 3, none⟩ = some (.int .i64 a0_3) ∧ w'.cell? ⟨gb272, 4, none⟩ = some (.slice A0_4 l0_4.length c0_4) ∧ w'.cell? (ad280.add (x6_2).toNat) = some (.int .i64 (rd t277 x6_2))) (ds := [5, 8]) #[false, false, false, false, false, false, false, false, false] (by kernel_rfl) rfl rfl ⟨(blk_cell BK272.out 0).trans rfl, (blk_cell BK272.out 1).trans rfl, (blk_cell BK272.out 2).trans rfl, (blk_cell BK272.out 3).trans rfl, (blk_cell BK272.out 4).trans rfl, hx280_0⟩ (fun hHeld => ?_); refine with_tabW plnref3_Loops.tab10 plnref3_Loops.bits10 (fun HT_ HW_ => ?_)
             generalize wr.drew = w22 at HO_3 HO_5 BK272 HB hx280_0 hHeld ⊢
             refine pure_ (i := 1) (N := some 30) (v := ?_) (a' := ?_) #[false, true, false, false, false, false, false, false, false] rfl rfl (any_of HT_.out (by kernel_rfl)) (fun _ _ _ h => h) (Or.inl ⟨by rfl, ?_⟩) ?_ ?_
             rotate_left
             ·intro w'
              go_simp
              with_reducible rfl
             rotate_left
             ·simp only [Act.put, List.setIfInBounds_toArray, List.set_cons_zero, List.set_cons_succ, i64_w, i32_w]; rfl
             refine pure_ (i := 2) (N := some 31) (v := ?_) (a' := ?_) #[false, true, true, false, false, false, false, false, false] rfl rfl (any_of HT_.out (by kernel_rfl)) (fun _ _ _ h => h) (Or.inl ⟨by rfl, ?_⟩) ?_ ?_
             rotate_left
             ·intro w'
              go_simp
              with_reducible rfl
             rotate_left
             ·simp only [Act.put, List.setIfInBounds_toArray, List.set_cons_zero, List.set_cons_succ, i64_w, i32_w]; rfl
             refine pure_ (i := 3) (N := some 32) (v := ?_) (a' := ?_) #[false, true, true, true, false, false, false, false, false] rfl rfl (any_of HT_.out (by kernel_rfl)) (fun _ _ _ h => h) (Or.inl ⟨by rfl, ?_⟩) ?_ ?_
             rotate_left
             ·intro w'
              go_simp
              with_reducible rfl
             rotate_left
             ·simp only [Act.put, List.setIfInBounds_toArray, List.set_cons_zero, List.set_cons_succ, i64_w, i32_w]; rfl
             refine pure_ (i := 6) (N := some 35) (v := ?_) (a' := ?_) #[false, true, true, true, false, false, true, false, false] rfl rfl (any_of HT_.out (by kernel_rfl)) (fun _ _ _ h => h) (Or.inl ⟨by rfl, ?_⟩) ?_ ?_
             rotate_left
             ·intro w'
              go_simp
              with_reducible rfl
             rotate_left
             ·simp only [Act.put, List.setIfInBounds_toArray, List.set_cons_zero, List.set_cons_succ, i64_w, i32_w]; rfl
             refine take_ (i := 0) (N := some 29) (v := ?_) (a' := ?_) #[true, true, true, true, false, false, true, false, false] rfl rfl (take_ofW HT_.out HW_.out (by kernel_rfl)) (fun _ _ _ h => h) (Or.inl ⟨by rfl, ?_⟩) hHeld ?_ ?_
             rotate_left
             ·rintro w' ⟨s0, s1, s2, s3, s4, s5⟩
              go_simp
              with_reducible rfl
             rotate_left
             ·simp only [Act.put, List.setIfInBounds_toArray, List.set_cons_zero, List.set_cons_succ, i64_w, i32_w]; rfl
             refine take_ (i := 4) (N := some 33) (v := ?_) (a' := ?_) #[true, true, true, true, true, false, true, false, false] rfl rfl (take_ofW HT_.out HW_.out (by kernel_rfl)) (fun _ _ _ h => h) (Or.inl ⟨by rfl, ?_⟩) hHeld ?_ ?_
             rotate_left
             ·rintro w' ⟨s0, s1, s2, s3, s4, s5⟩
              go_simp
              with_reducible rfl
             rotate_left
             ·simp only [Act.put, List.setIfInBounds_toArray, List.set_cons_zero, List.set_cons_succ, i64_w, i32_w]; rfl
             refine last_ (i := 5) (N := some 34) #[true, true, true, true, true, true, true, false, false] rfl rfl (one_of HT_.out (by kernel_rfl)) (by decide) (fun K hK => ?_)
             refine goes_ Try.func65 (by kernel_rfl) rfl #[.agg #[.string a0_0, .bool a0_1, .slice A0_2 l0_2.length c0_2, .int .i64 a0_3, .slice A0_4 l0_4.length c0_4], .int .i64 (rd t277 x6_2), .int .i64 (-1)] (by rfl) rfl rfl (by (try simp only [List.map_toArray, List.map_cons, List.map_nil]); first | done | rfl | (simp only [List.length_drop, List.length_take]; rfl)) ?_
             with_reducible refine (plnref3_from.calls k2 a0_0 a0_1 _ _ l0_2 a0_3 _ _ l0_4 (rd t277 x6_2) (-1) t281 _ ?side1 ?side2 ?side3 ?side4 A16.out).mono ?_
             (case side1 => repeat (first | exact (Kd.C_below HR0_2.out HB.out) | (with_reducible refine Kd.C_alloc ?_ _) | (with_reducible refine Kd.C_drewN ?_ _) | (with_reducible refine Kd.C_drew ?_)))
             (case side2 => exact HC0_2.out)
             (case side3 => repeat (first | exact (Kd.C_below HR0_4.out HB.out) | (with_reducible refine Kd.C_alloc ?_ _) | (with_reducible refine Kd.C_drewN ?_ _) | (with_reducible refine Kd.C_drew ?_)))
             (case side4 => exact HC0_4.out)
             rintro e w23 ⟨v282, rfl, ho0, hb⟩
             have HS5_ := (hb.cell (World.block_lt_of_cell? _ _ (hHeld.2.2.2.2.2))).trans (hHeld.2.2.2.2.2)
             refine ⟨_, rfl, ?_⟩
             have n0_ := Aside0.mk (Kd.R_elder' (by (with_reducible repeat (first | apply Kd.R_alloc | apply Kd.R_drewN | apply Kd.R_drew)); exact HO_3.out) (Kd.R_base ho0) hb); have n1_ := Aside0.mk (Kd.R_below (by (with_reducible repeat (first | apply Kd.R_alloc | apply Kd.R_drewN | apply Kd.R_drew)); exact HO_5.out) hb); have n2_ := Aside0.mk (Kd.R_lower (Kd.R_new' ho0 (Kd.R_lt (by (with_reducible repeat (first | apply Kd.R_alloc | apply Kd.R_drewN | apply Kd.R_drew)); exact HO_3.out))) (below_size (by repeat (first | (with_reducible first | exact HB.out | apply below_alloc | apply pw_below_drewN | apply below_drew1 | refine below_set ?_ GE272.out) | exact HB.out)))); have n3_ := Aside0.mk (blk_below (g := gb272) (o := .cells #[.string a0_0, .bool a0_1, .slice A0_2 l0_2.length c0_2, .int .i64 a0_3, .slice A0_4 l0_4.length c0_4] 25 (0, 0)) (by (with_reducible repeat (first | refine blk_drewN ?_ _ | refine blk_drew ?_ | refine blk_alloc ?_ _)); exact BK272.out) hb); have n4_ := Aside0.mk (below_step (by repeat (first | (with_reducible first | exact HB.out | apply below_alloc | apply pw_below_drewN | apply below_drew1 | refine below_set ?_ GE272.out) | exact HB.out)) hb); clear HO_3 HO_5 BK272 HB; have HO_3 := n0_; have HO_5 := n1_; have HO283 := n2_; have BK272 := n3_; have HB := n4_; clear n0_ n1_ n2_ n3_ n4_; (try clear hb); (try clear hb2); (try clear hk); (try clear hi); (try clear ho0)
             obtain ⟨Ao24, co24, eo24⟩ := Kd.R_slice HO283.out
             (first | subst eo24 | (injection eo24 with f1_ f2_ f3_; have f4_ := f1_.symm; have f5_ := f3_.symm; clear f1_ f2_ f3_; subst f4_; subst f5_))
             have p284 : 0 ≤ (x4_1 : Int) := of_decide_eq_true (by first | (with_reducible assumption) | assumption)
             have q284 : x4_1 < (t281.length : Int) := of_decide_eq_true (by first | (with_reducible assumption) | assumption)
             obtain ⟨ad284, e284, hx284_0⟩ := Kd.at_bool (Kd.R_reads' HO283.out).2.2 x4_1 p284 q284
             (try rw [← Nbq8.out] at hx284_0)
             (try rw [← Nbq19.out] at hx284_0)
             cases e284
             replace p284 := eq_true p284
             replace q284 := eq_true q284
             refine hK.out _ _ ?_
             clear hK K; refine norm_ (a' := ?_) ?_ ?_; rotate_left
             ·show Act.put _ (some 34) _ = _; simp only [Act.put, List.setIfInBounds_toArray, List.set_cons_zero, List.set_cons_succ, i64_w, i32_w]; rfl
             refine pure_ (i := 7) (N := some 36) (v := ?_) (a' := ?_) #[true, true, true, true, true, true, true, true, false] rfl rfl (any_of HT_.out (by kernel_rfl)) (fun _ _ _ h => h) (Or.inl ⟨by rfl, ?_⟩) ?_ ?_
             rotate_left
             ·intro w'
              go_simp
              with_reducible rfl
             rotate_left
             ·simp only [Act.put, List.setIfInBounds_toArray, List.set_cons_zero, List.set_cons_succ, i64_w, i32_w]; rfl
             refine last_ (i := 8) (N := some 37) #[true, true, true, true, true, true, true, true, true] rfl rfl (one_of HT_.out (by kernel_rfl)) (by decide) (fun K hK => ?_)
             refine value_ (w1 := ?_) (v := ?_) (by rfl) rfl ?_ ?_
             rotate_left 2
             ·go_simp
              constructor
              ·rfl
              ·rfl
             refine hK.out _ _ ?_
             clear hK K; refine norm_ (a' := ?_) ?_ ?_; rotate_left
             ·show Act.put _ (some 37) _ = _; simp only [Act.put, List.setIfInBounds_toArray, List.set_cons_zero, List.set_cons_succ, i64_w, i32_w]; rfl
             refine done_ (done_of HT_.out (by kernel_rfl)) ?_
             try go_wp2
             go_ret
             exact ⟨by first | rfl | (simp [errW_none, errW_some] <;> rfl) | (simp [*, errW_none, errW_some] <;> rfl), by repeat (first | (with_reducible first | exact HB.out | apply below_alloc | apply pw_below_drewN | apply below_drew1 | refine below_set ?_ GE272.out) | exact HB.out)⟩
            ·replace c20 := Bool.eq_false_iff.mpr c20
             subst c20
             have H1 : (plnref3_Loops.l1 k2 t273 x4_1 t277 (wrap64 (x6_2 + 1)) a0_0 a0_1 l0_2 a0_3 l0_4) = some r := by rw [if_neg (show ¬ (false = true) by decide)] at H; exact H
             clear H; have H := H1; clear H1
             have H' := Aside0.mk H
             clear H
             obtain ⟨Ao25, co25, eo25⟩ := Kd.R_slice HO_5.out
             subst eo25
             try go_wp2
             have n0_ := Aside0.mk (Kd.R_drew HO_3.out); have n1_ := Aside0.mk (Kd.R_drew HO_5.out); have n2_ := Aside0.mk (blk_drew BK272.out); have n3_ := Aside0.mk (below_drew1 HB.out); clear HO_3 HO_5 BK272 HB; have HO_3 := n0_; have HO_5 := n1_; have BK272 := n2_; have HB := n3_; clear n0_ n1_ n2_ n3_
             have p280 : 0 ≤ (x6_2 : Int) := of_decide_eq_true (by first | (with_reducible assumption) | assumption)
             have q280 : x6_2 < (t277.length : Int) := of_decide_eq_true (by first | (with_reducible assumption) | assumption)
             obtain ⟨ad280, e280, hx280_0⟩ := Kd.at_int (Kd.R_reads' HO_5.out).2.2 x6_2 p280 q280
             cases e280
             replace p280 := eq_true p280
             replace q280 := eq_true q280
             refine start_ (n := 9) (S := fun w' => w'.cell? ⟨gb272, 0, none⟩ = some (.string a0_0) ∧ w'.cell? ⟨gb272, 1, none⟩ = some (.bool a0_1) ∧ w'.cell? ⟨gb272, 2, none⟩ = some (.slice A0_2 l0_2.length c0_2) ∧ w'.cell? ⟨gb272, 3, none⟩ = some (.int .i64 a0_3) ∧ w'.cell? ⟨gb272, 4, none⟩ = some (.slice A0_4 l0_4.length c0_4) ∧ w'.cell? (ad280.add (x6_2).toNat) = some (.int .i64 (rd t277 x6_2))) (ds := [5, 8]) #[false, false, false, false, false, false, false, false, false] (by kernel_rfl) rfl rfl ⟨(blk_cell BK272.out 0).trans rfl, (blk_cell BK272.out 1).trans rfl, (blk_cell BK272.out 2).trans rfl, (blk_cell BK272.out 3).trans rfl, (blk_cell BK272.out 4).trans rfl, hx280_0⟩ (fun hHeld => ?_); refine with_tabW plnref3_Loops.tab10 plnref3_Loops.bits10 (fun HT_ HW_ => ?_)
             generalize wr.drew = w26 at HO_3 HO_5 BK272 HB hx280_0 hHeld ⊢
             refine pure_ (i := 1) (N := some 30) (v := ?_) (a' := ?_) #[false, true, false, false, false, false, false, false, false] rfl rfl (any_of HT_.out (by kernel_rfl)) (fun _ _ _ h => h) (Or.inl ⟨by rfl, ?_⟩) ?_ ?_
             rotate_left
             ·intro w'
              go_simp
              with_reducible rfl
             rotate_left
             ·simp only [Act.put, List.setIfInBounds_toArray, List.set_cons_zero, List.set_cons_succ, i64_w, i32_w]; rfl
             refine pure_ (i := 2) (N := some 31) (v := ?_) (a' := ?_) #[false, true, true, false, false, false, false, false, false] rfl rfl (any_of HT_.out (by kernel_rfl)) (fun _ _ _ h => h) (Or.inl ⟨by rfl, ?_⟩) ?_ ?_
             rotate_left
             ·intro w'
              go_simp
              with_reducible rfl
             rotate_left
             ·simp only [Act.put, List.setIfInBounds_toArray, List.set_cons_zero, List.set_cons_succ, i64_w, i32_w]; rfl
             refine pure_ (i := 3) (N := some 32) (v := ?_) (a' := ?_) #[false, true, true, true, false, false, false, false, false] rfl rfl (any_of HT_.out (by kernel_rfl)) (fun _ _ _ h => h) (Or.inl ⟨by rfl, ?_⟩) ?_ ?_
             rotate_left
             ·intro w'
              go_simp
              with_reducible rfl
             rotate_left
             ·simp only [Act.put, List.setIfInBounds_toArray, List.set_cons_zero, List.set_cons_succ, i64_w, i32_w]; rfl
             refine pure_ (i := 6) (N := some 35) (v := ?_) (a' := ?_) #[false, true, true, true, false, false, true, false, false] rfl rfl (any_of HT_.out (by kernel_rfl)) (fun _ _ _ h => h) (Or.inl ⟨by rfl, ?_⟩) ?_ ?_
             rotate_left
             ·intro w'
              go_simp
              with_reducible rfl
             rotate_left
             ·simp only [Act.put, List.setIfInBounds_toArray, List.set_cons_zero, List.set_cons_succ, i64_w, i32_w]; rfl
             refine take_ (i := 0) (N := some 29) (v := ?_) (a' := ?_) #[true, true, true, true, false, false, true, false, false] rfl rfl (take_ofW HT_.out HW_.out (by kernel_rfl)) (fun _ _ _ h => h) (Or.inl ⟨by rfl, ?_⟩) hHeld ?_ ?_
             rotate_left
             ·rintro w' ⟨s0, s1, s2, s3, s4, s5⟩
              go_simp
              with_reducible rfl
             rotate_left
             ·simp only [Act.put, List.setIfInBounds_toArray, List.set_cons_zero, List.set_cons_succ, i64_w, i32_w]; rfl
             refine take_ (i := 4) (N := some 33) (v := ?_) (a' := ?_) #[true, true, true, true, true, false, true, false, false] rfl rfl (take_ofW HT_.out HW_.out (by kernel_rfl)) (fun _ _ _ h => h) (Or.inl ⟨by rfl, ?_⟩) hHeld ?_ ?_
             rotate_left
             ·rintro w' ⟨s0, s1, s2, s3, s4, s5⟩
              go_simp
              with_reducible rfl
             rotate_left
             ·simp only [Act.put, List.setIfInBounds_toArray, List.set_cons_zero, List.set_cons_succ, i64_w, i32_w]; rfl
             refine last_ (i := 5) (N := some 34) #[true, true, true, true, true, true, true, false, false] rfl rfl (one_of HT_.out (by kernel_rfl)) (by decide) (fun K hK => ?_)
             refine goes_ Try.func65 (by kernel_rfl) rfl #[.agg #[.string a0_0, .bool a0_1, .slice A0_2 l0_2.length c0_2, .int .i64 a0_3, .slice A0_4 l0_4.length c0_4], .int .i64 (rd t277 x6_2), .int .i64 (-1)] (by rfl) rfl rfl (by (try simp only [List.map_toArray, List.map_cons, List.map_nil]); first | done | rfl | (simp only [List.length_drop, List.length_take]; rfl)) ?_
             with_reducible refine (plnref3_from.calls k2 a0_0 a0_1 _ _ l0_2 a0_3 _ _ l0_4 (rd t277 x6_2) (-1) t281 _ ?side1 ?side2 ?side3 ?side4 A16.out).mono ?_
             (case side1 => repeat (first | exact (Kd.C_below HR0_2.out HB.out) | (with_reducible refine Kd.C_alloc ?_ _) | (with_reducible refine Kd.C_drewN ?_ _) | (with_reducible refine Kd.C_drew ?_)))
             (case side2 => exact HC0_2.out)
             (case side3 => repeat (first | exact (Kd.C_below HR0_4.out HB.out) | (with_reducible refine Kd.C_alloc ?_ _) | (with_reducible refine Kd.C_drewN ?_ _) | (with_reducible refine Kd.C_drew ?_)))
             (case side4 => exact HC0_4.out)
             rintro e w27 ⟨v282, rfl, ho0, hb⟩
             have HS5_ := (hb.cell (World.block_lt_of_cell? _ _ (hHeld.2.2.2.2.2))).trans (hHeld.2.2.2.2.2)
             refine ⟨_, rfl, ?_⟩
             have n0_ := Aside0.mk (Kd.R_elder' (by (with_reducible repeat (first | apply Kd.R_alloc | apply Kd.R_drewN | apply Kd.R_drew)); exact HO_3.out) (Kd.R_base ho0) hb); have n1_ := Aside0.mk (Kd.R_below (by (with_reducible repeat (first | apply Kd.R_alloc | apply Kd.R_drewN | apply Kd.R_drew)); exact HO_5.out) hb); have n2_ := Aside0.mk (Kd.R_lower (Kd.R_new' ho0 (Kd.R_lt (by (with_reducible repeat (first | apply Kd.R_alloc | apply Kd.R_drewN | apply Kd.R_drew)); exact HO_3.out))) (below_size (by repeat (first | (with_reducible first | exact HB.out | apply below_alloc | apply pw_below_drewN | apply below_drew1 | refine below_set ?_ GE272.out) | exact HB.out)))); have n3_ := Aside0.mk (blk_below (g := gb272) (o := .cells #[.string a0_0, .bool a0_1, .slice A0_2 l0_2.length c0_2, .int .i64 a0_3, .slice A0_4 l0_4.length c0_4] 25 (0, 0)) (by (with_reducible repeat (first | refine blk_drewN ?_ _ | refine blk_drew ?_ | refine blk_alloc ?_ _)); exact BK272.out) hb); have n4_ := Aside0.mk (below_step (by repeat (first | (with_reducible first | exact HB.out | apply below_alloc | apply pw_below_drewN | apply below_drew1 | refine below_set ?_ GE272.out) | exact HB.out)) hb); clear HO_3 HO_5 BK272 HB; have HO_3 := n0_; have HO_5 := n1_; have HO283 := n2_; have BK272 := n3_; have HB := n4_; clear n0_ n1_ n2_ n3_ n4_; (try clear hb); (try clear hb2); (try clear hk); (try clear hi); (try clear ho0)
             obtain ⟨Ao28, co28, eo28⟩ := Kd.R_slice HO283.out
             (first | subst eo28 | (injection eo28 with f1_ f2_ f3_; have f4_ := f1_.symm; have f5_ := f3_.symm; clear f1_ f2_ f3_; subst f4_; subst f5_))
             have p284 : 0 ≤ (x4_1 : Int) := of_decide_eq_true (by first | (with_reducible assumption) | assumption)
             have q284 : x4_1 < (t281.length : Int) := of_decide_eq_true (by first | (with_reducible assumption) | assumption)
             obtain ⟨ad284, e284, hx284_0⟩ := Kd.at_bool (Kd.R_reads' HO283.out).2.2 x4_1 p284 q284
             (try rw [← Nbq8.out] at hx284_0)
             (try rw [← Nbq19.out] at hx284_0)
             cases e284
             replace p284 := eq_true p284
             replace q284 := eq_true q284
             refine hK.out _ _ ?_
             clear hK K; refine norm_ (a' := ?_) ?_ ?_; rotate_left
             ·show Act.put _ (some 34) _ = _; simp only [Act.put, List.setIfInBounds_toArray, List.set_cons_zero, List.set_cons_succ, i64_w, i32_w]; rfl
             refine pure_ (i := 7) (N := some 36) (v := ?_) (a' := ?_) #[true, true, true, true, true, true, true, true, false] rfl rfl (any_of HT_.out (by kernel_rfl)) (fun _ _ _ h => h) (Or.inl ⟨by rfl, ?_⟩) ?_ ?_
             rotate_left
             ·intro w'
              go_simp
              with_reducible rfl
             rotate_left
             ·simp only [Act.put, List.setIfInBounds_toArray, List.set_cons_zero, List.set_cons_succ, i64_w, i32_w]; rfl
             refine last_ (i := 8) (N := some 37) #[true, true, true, true, true, true, true, true, true] rfl rfl (one_of HT_.out (by kernel_rfl)) (by decide) (fun K hK => ?_)
             refine value_ (w1 := ?_) (v := ?_) (by rfl) rfl ?_ ?_
             rotate_left 2
             ·go_simp
              constructor
              ·rfl
              ·rfl
             refine hK.out _ _ ?_
             clear hK K; refine norm_ (a' := ?_) ?_ ?_; rotate_left
             ·show Act.put _ (some 37) _ = _; simp only [Act.put, List.setIfInBounds_toArray, List.set_cons_zero, List.set_cons_succ, i64_w, i32_w]; rfl
             refine done_ (done_of HT_.out (by kernel_rfl)) ?_
             try go_wp2
             go_roundg k2
             case measure => have := HK1.out; have := HK2.out; omega
             case rel => exact ⟨(wrap64 (x6_2 + 1)), (by first | rfl | (simp; done) | (simp [*]; done)), H', ⟨by have := HK1.out; have := HK2.out; omega⟩, ⟨by (with_reducible repeat (first | apply Kd.R_alloc | apply Kd.R_drewN | apply Kd.R_drew)); exact Kd.R_mono HO_3.out (fun _ hk => trivial)⟩, ⟨by (with_reducible repeat (first | apply Kd.R_alloc | apply Kd.R_drewN | apply Kd.R_drew)); exact HO_5.out⟩, ⟨by (with_reducible repeat (first | refine blk_drewN ?_ _ | refine blk_drew ?_ | refine blk_alloc ?_ _)); exact BK272.out⟩, ⟨by repeat (first | (with_reducible first | exact HB.out | apply below_alloc | apply pw_below_drewN | apply below_drew1 | refine below_set ?_ GE272.out) | exact HB.out)⟩⟩
           ·rw [if_neg c18] at H
            exact absurd H (by simp)
          ·rw [if_neg c17] at H
           exact absurd H (by simp)
         ·rw [if_neg c15] at H
          exact absurd H (by simp)
        ·rw [if_neg c14] at H
         have c14b0 : decide (x6_2 < (t277.length : Int)) = false := decide_eq_false c14
         clear c14
         have H' := Aside0.mk H
         clear H
         obtain ⟨Ao29, co29, eo29⟩ := Kd.R_slice HO_5.out
         subst eo29
         go_wp2
         go_roundg k2
         case measure => have := HK1.out; have := HK2.out; omega
         case rel => exact ⟨(wrap64 (x4_1 + 1)), (by first | rfl | (simp; done) | (simp [*]; done)), H', ⟨by have := HK1.out; have := HK2.out; omega⟩, ⟨by (with_reducible repeat (first | apply Kd.R_alloc | apply Kd.R_drewN | apply Kd.R_drew)); exact HO_3.out⟩, ⟨by (with_reducible repeat (first | refine blk_drewN ?_ _ | refine blk_drew ?_ | refine blk_alloc ?_ _)); exact BK272.out⟩, ⟨by repeat (first | (with_reducible first | exact HB.out | apply below_alloc | apply pw_below_drewN | apply below_drew1 | refine below_set ?_ GE272.out) | exact HB.out)⟩⟩
     ·replace c9 := Bool.eq_false_iff.mpr c9
      subst c9
      have H1 : (plnref3_Loops.l0 k1 t273 (wrap64 (x4_1 + 1)) a0_0 a0_1 l0_2 a0_3 l0_4) = some r := by rw [if_neg (show ¬ (false = true) by decide)] at H; exact H
      clear H; have H := H1; clear H1
      have H' := Aside0.mk H
      clear H
      obtain ⟨Ao30, co30, eo30⟩ := Kd.R_slice HO_3.out
      subst eo30
      have p276 : 0 ≤ (x4_1 : Int) := of_decide_eq_true (by first | (with_reducible assumption) | assumption)
      have q276 : x4_1 < (t273.length : Int) := of_decide_eq_true (by first | (with_reducible assumption) | assumption)
      obtain ⟨ad276, e276, hx276_0⟩ := Kd.at_bool (Kd.R_reads' HO_3.out).2.2 x4_1 p276 q276
      (try rw [← Nbq8.out] at hx276_0)
      cases e276
      replace p276 := eq_true p276
      replace q276 := eq_true q276
      go_wp2
      go_roundg k1
      case measure => have := HK1.out; omega
      case rel => exact ⟨(wrap64 (x4_1 + 1)), (by first | rfl | (simp; done) | (simp [*]; done)), H', ⟨by have := HK1.out; omega⟩, ⟨by (with_reducible repeat (first | apply Kd.R_alloc | apply Kd.R_drewN | apply Kd.R_drew)); exact HO_3.out⟩, ⟨by (with_reducible repeat (first | refine blk_drewN ?_ _ | refine blk_drew ?_ | refine blk_alloc ?_ _)); exact BK272.out⟩, ⟨by repeat (first | (with_reducible first | exact HB.out | apply below_alloc | apply pw_below_drewN | apply below_drew1 | refine below_set ?_ GE272.out) | exact HB.out)⟩⟩
    ·rw [if_neg c7] at H
     exact absurd H (by simp)
   ·rw [if_neg c6] at H
    have c6b0 : decide (x4_1 < (t273.length : Int)) = false := decide_eq_false c6
    clear c6
    obtain rfl := Option.some.inj H
    obtain ⟨Ao31, co31, eo31⟩ := Kd.R_slice HO_3.out
    subst eo31
    go_wp2
    go_ret
    exact ⟨by first | rfl | (simp [errW_none, errW_some] <;> rfl) | (simp [*, errW_none, errW_some] <;> rfl), by repeat (first | (with_reducible first | exact HB.out | apply below_alloc | apply pw_below_drewN | apply below_drew1 | refine below_set ?_ GE272.out) | exact HB.out)⟩
end Go.Proofs.Ytkcimaibaicdcaa.P
end
section
namespace Go.Proofs.Ytkcimaibaicdcaa.Gr
open Go.RowKit Go.Proofs.YtkcimaibaicdcaaW.PrintWords Go.Proofs.Ytkcimaibaicdcaa.P
theorem rdb_eq {xs : List Bool} {i : Int} (h0 : 0 ≤ i) (h1 : i < (xs.length : Int)) : xs[i.toNat]? = some (rdOf false xs i) := by
  have : i.toNat < xs.length := by omega
  simp [rdOf, List.getD_eq_getElem?_getD, List.getElem?_eq_getElem this]
theorem count_set {xs : List Bool} {i : Int} (h0 : 0 ≤ i) (h1 : i < (xs.length : Int)) (h : rdOf false xs i = false) : (xs.set i.toNat true).count true = xs.count true + 1 := by
  have hl : i.toNat < xs.length := by omega
  have he := rdb_eq h0 h1
  rw [h, List.getElem?_eq_getElem hl] at he
  rw [List.count_set hl, Option.some.inj he]
  simp
section
variable {a0 : ByteArray} {a1 : Bool} {l2 : List Int} {a3 : Int} {l4 : List S54} {start less : Int}
def FromIs (l4 : List S54) (start less : Int) (r : List Bool) : Prop :=
  r.length = l4.length ∧ ∀ v : Int, 0 ≤ v → v < (l4.length : Int) → (rdOf false r v = true ↔ 0 ≤ start ∧ start < (l4.length : Int) ∧ Rc (nextOf l4) (· ≠ less) start v)
end
end Go.Proofs.Ytkcimaibaicdcaa.Gr
end
