/- A part of the proof of the law of DomWays: lemmas and walks, out of this session's texts, with what the claim does not use struck out. -/
import Derived.Test.YtkcimaibaicdcaaD6
section
namespace Go.Proofs.Ytkcimaibaicdcaa.P
open Go.RowKit Go.Proofs.YtkcimaibaicdcaaW.PrintWords Go.Proofs.YtkcimaibaicdcaaW.PrintLast Go.Proofs.YtkcimaibaicdcaaW.PrintMore
attribute [local go_sem] max2_int min2_int max_two min_two max_three min_three max_four min_four   
set_option linter.unusedVariables false
set_option linter.unusedSimpArgs false
mutual
def plnkeep_Light.j0 : Nat → Bool → ByteArray → Bool → List Int → Int → List (S54) → Option (Bool)
 | 0, _, _, _, _, _, _ => none
 | k + 1, x21, x164000, x164001, x164002, x164003, x164004 => if x21 = true then (some false) else (plnkeep_Light.l0 k 0 0 x164000 x164001 x164002 x164003 x164004)
def plnkeep_Light.l0 : Nat → Int → Int → ByteArray → Bool → List Int → Int → List (S54) → Option (Bool)
 | 0, _, _, _, _, _, _, _ => none
 | k + 1, x3, x4, x164000, x164001, x164002, x164003, x164004 => if x4 < (x164004.length : Int) then (if 0 ≤ x4 then (if (wrap64 (x3 + (((rd_T54 x164004 x4).f0).length : Int))) > 90 then (some false) else (plnkeep_Light.l1 k (wrap64 (x3 + (((rd_T54 x164004 x4).f0).length : Int))) x4 0 x164000 x164001 x164002 x164003 x164004)) else (none)) else (some true)
def plnkeep_Light.l1 : Nat → Int → Int → Int → ByteArray → Bool → List Int → Int → List (S54) → Option (Bool)
 | 0, _, _, _, _, _, _, _, _ => none
 | k + 1, x3, x4, x5, x164000, x164001, x164002, x164003, x164004 => if 0 ≤ x4 then (if x4 < (x164004.length : Int) then (if x5 < (((rd_T54 x164004 x4).f0).length : Int) then (if 0 ≤ x5 then (if (((rd_T56 ((rd_T54 x164004 x4).f0) x5).f5).length : Int) > 20 then (some false) else (if (((rd_T56 ((rd_T54 x164004 x4).f0) x5).f6).length : Int) > 20 then (some false) else (plnkeep_Light.l1 k x3 x4 (wrap64 (x5 + 1)) x164000 x164001 x164002 x164003 x164004))) else (none)) else (plnkeep_Light.l0 k x3 (wrap64 (x4 + 1)) x164000 x164001 x164002 x164003 x164004)) else (none)) else (none)
end
def plnkeep_Light.f (k : Nat) (a0_0 : ByteArray) (a0_1 : Bool) (l0_2 : List Int) (a0_3 : Int) (l0_4 : List (S54)) : Option (Bool) := if (a0_0.size : Int) > 40 then (plnkeep_Light.j0 k true a0_0 a0_1 l0_2 a0_3 l0_4) else (if (l0_2.length : Int) > 8 then (plnkeep_Light.j0 k true a0_0 a0_1 l0_2 a0_3 l0_4) else (plnkeep_Light.j0 k (decide ((l0_4.length : Int) > 16)) a0_0 a0_1 l0_2 a0_3 l0_4))
theorem plnkeep_Light.mono_l : ∀ k, (∀ y0 y1 y2 y3 y4 y5, LeO (plnkeep_Light.j0 k y0 y1 y2 y3 y4 y5) (plnkeep_Light.j0 (k + 1) y0 y1 y2 y3 y4 y5)) ∧ (∀ y0 y1 y2 y3 y4 y5 y6, LeO (plnkeep_Light.l0 k y0 y1 y2 y3 y4 y5 y6) (plnkeep_Light.l0 (k + 1) y0 y1 y2 y3 y4 y5 y6)) ∧ (∀ y0 y1 y2 y3 y4 y5 y6 y7, LeO (plnkeep_Light.l1 k y0 y1 y2 y3 y4 y5 y6 y7) (plnkeep_Light.l1 (k + 1) y0 y1 y2 y3 y4 y5 y6 y7))
 | 0 => ⟨fun _ _ _ _ _ _ r h => by simp [plnkeep_Light.j0] at h, fun _ _ _ _ _ _ _ r h => by simp [plnkeep_Light.l0] at h, fun _ _ _ _ _ _ _ _ r h => by simp [plnkeep_Light.l1] at h⟩
 | k + 1 => by
  obtain ⟨ih0, ih1, ih2⟩ := plnkeep_Light.mono_l k
  refine ⟨?_, ?_, ?_⟩
  ·intro y0 y1 y2 y3 y4 y5
   unfold plnkeep_Light.j0
   repeat' first
   | (with_reducible exact ih0 _ _ _ _ _ _)
   | (with_reducible exact ih1 _ _ _ _ _ _ _)
   | (with_reducible exact ih2 _ _ _ _ _ _ _ _)
   | (with_reducible exact LeO.refl _)
   | (with_reducible exact LeO.none _)
   | (with_reducible refine LeO.ite ?_ ?_)
   | (with_reducible refine LeO.bind ?_ (fun _ => ?_))
   | exact ih0 _ _ _ _ _ _
   | exact ih1 _ _ _ _ _ _ _
   | exact ih2 _ _ _ _ _ _ _ _
   | exact LeO.none _
   | refine LeO.ite ?_ ?_
   | refine LeO.bind ?_ (fun _ => ?_)
  ·intro y0 y1 y2 y3 y4 y5 y6
   unfold plnkeep_Light.l0
   repeat' first
   | (with_reducible exact ih0 _ _ _ _ _ _)
   | (with_reducible exact ih1 _ _ _ _ _ _ _)
   | (with_reducible exact ih2 _ _ _ _ _ _ _ _)
   | (with_reducible exact LeO.refl _)
   | (with_reducible exact LeO.none _)
   | (with_reducible refine LeO.ite ?_ ?_)
   | (with_reducible refine LeO.bind ?_ (fun _ => ?_))
   | exact ih0 _ _ _ _ _ _
   | exact ih1 _ _ _ _ _ _ _
   | exact ih2 _ _ _ _ _ _ _ _
   | exact LeO.none _
   | refine LeO.ite ?_ ?_
   | refine LeO.bind ?_ (fun _ => ?_)
  ·intro y0 y1 y2 y3 y4 y5 y6 y7
   unfold plnkeep_Light.l1
   repeat' first
   | (with_reducible exact ih0 _ _ _ _ _ _)
   | (with_reducible exact ih1 _ _ _ _ _ _ _)
   | (with_reducible exact ih2 _ _ _ _ _ _ _ _)
   | (with_reducible exact LeO.refl _)
   | (with_reducible exact LeO.none _)
   | (with_reducible refine LeO.ite ?_ ?_)
   | (with_reducible refine LeO.bind ?_ (fun _ => ?_))
   | exact ih0 _ _ _ _ _ _
   | exact ih1 _ _ _ _ _ _ _
   | exact ih2 _ _ _ _ _ _ _ _
   | exact LeO.none _
   | refine LeO.ite ?_ ?_
   | refine LeO.bind ?_ (fun _ => ?_)
theorem plnkeep_Light.mono : ∀ a0 a1 a2 a3 a4 k, LeO (plnkeep_Light.f k a0 a1 a2 a3 a4) (plnkeep_Light.f (k + 1) a0 a1 a2 a3 a4) := by
 intro a0 a1 a2 a3 a4 k
 obtain ⟨ih0, ih1, ih2⟩ := plnkeep_Light.mono_l k
 unfold plnkeep_Light.f
 repeat' first
   | (with_reducible exact ih0 _ _ _ _ _ _)
   | (with_reducible exact ih1 _ _ _ _ _ _ _)
   | (with_reducible exact ih2 _ _ _ _ _ _ _ _)
   | (with_reducible exact LeO.refl _)
   | (with_reducible exact LeO.none _)
   | (with_reducible refine LeO.ite ?_ ?_)
   | (with_reducible refine LeO.bind ?_ (fun _ => ?_))
   | exact ih0 _ _ _ _ _ _
   | exact ih1 _ _ _ _ _ _ _
   | exact ih2 _ _ _ _ _ _ _ _
   | exact LeO.none _
   | refine LeO.ite ?_ ?_
   | refine LeO.bind ?_ (fun _ => ?_)
set_option maxHeartbeats 8000000 in
set_option maxRecDepth 100000 in
theorem plnkeep_Light.calls (k : Nat) (a0_0 : ByteArray) (a0_1 : Bool) (A0_2 : Option Addr) (c0_2 : Nat) (l0_2 : List Int) (a0_3 : Int) (A0_4 : Option Addr) (c0_4 : Nat) (l0_4 : List (S54)) (r : Bool) (w : World) (hr0_2 : Kd.C (Kd.int .i64) w A0_2 l0_2.length l0_2) (hc0_2 : l0_2.length ≤ c0_2) (hr0_4 : Kd.C k54 w A0_4 l0_4.length l0_4) (hc0_4 : l0_4.length ≤ c0_4) (h : plnkeep_Light.f k a0_0 a0_1 l0_2 a0_3 l0_4 = some r) :
  Calls Try.prog 17 #[.agg #[.string a0_0, .bool a0_1, .slice A0_2 l0_2.length c0_2, .int .i64 a0_3, .slice A0_4 l0_4.length c0_4]] w fun e w' => e = .returned (.bool r) ∧ Below w.heap.size w w' := by
 have hu25 := Try.underlying25
 have HR0_2 := Aside0.mk hr0_2
 have HC0_2 := Aside0.mk hc0_2
 clear hr0_2 hc0_2
 have HR0_4 := Aside0.mk hr0_4
 have HC0_4 := Aside0.mk hc0_4
 clear hr0_4 hc0_4; have HB := Aside0.mk (Below.refl w.heap.size w)
 have H : (if (a0_0.size : Int) > 40 then (plnkeep_Light.j0 k true a0_0 a0_1 l0_2 a0_3 l0_4) else (if (l0_2.length : Int) > 8 then (plnkeep_Light.j0 k true a0_0 a0_1 l0_2 a0_3 l0_4) else (plnkeep_Light.j0 k (decide ((l0_4.length : Int) > 16)) a0_0 a0_1 l0_2 a0_3 l0_4))) = some r := h
 clear h
 have HC2 := Aside0.mk H
 clear H
 go_enter Try.func17, Try.ntmps17
 go_upto_region 1 with (first | ((with_reducible refine gate_dst (N := 1) rfl ?_); (try (refine gate_guard (by rfl) ?_; dsimp only)); refine box_event ?hg (N := 1) ?hd (cs := #[.string a0_0, .bool a0_1, .slice A0_2 l0_2.length c0_2, .int .i64 a0_3, .slice A0_4 l0_4.length c0_4]) (t := 25) ?hr ?_; (case hd => rfl); (case hg => rfl); (case hr => first | (go_simp; done) | (go_simp; rfl)); intro gb163 hg w3 hbox hb; have n0_ := Aside0.mk (below_step (by repeat (first | (with_reducible first | exact HB.out | apply below_alloc | apply pw_below_drewN | apply below_drew1) | exact HB.out)) hb); have n1_ := Aside0.mk (hbox); have n2_ := Aside0.mk ((by rw [hg]; exact (below_size (by repeat (first | (with_reducible first | exact HB.out | apply below_alloc | apply pw_below_drewN | apply below_drew1) | exact HB.out))) : w.heap.size ≤ gb163)); have n3_ := Aside0.mk ((by rw [hg]; exact (below_size (by repeat (first | (with_reducible first | exact HB.out | apply below_alloc | apply pw_below_drewN | apply below_drew1) | exact HB.out))) : w.heap.size ≤ gb163)); clear HB; have HB := n0_; have BK163 := n1_; have GW163 := n2_; have GE163 := n3_; clear n0_ n1_ n2_ n3_; clear hb hbox hg))
 (try simp only [Act.put, List.setIfInBounds_toArray, List.set_cons_zero, List.set_cons_succ])
 go_cut [21] (fun v21 wc => ∃ (kq : Nat) (x21_1 : Bool), v21 = .bool x21_1 ∧ Aside0 (plnkeep_Light.j0 kq x21_1 a0_0 a0_1 l0_2 a0_3 l0_4 = some r) ∧ Aside0 (kq ≤ k) ∧ Aside0 (wc.heap[gb163]? = some (.cells #[.string a0_0, .bool a0_1, (.slice A0_2 l0_2.length c0_2), .int .i64 a0_3, (.slice A0_4 l0_4.length c0_4)] 25 (0, 0))) ∧ Aside0 (Below w.heap.size w wc))
 case first =>
  have H := HC2.out
  clear HC2
  by_cases c4 : (a0_0.size : Int) > 40
  ·rw [if_pos c4] at H
   have c4b0 : decide (40 < (a0_0.size : Int)) = true := decide_eq_true c4
   have c4b1 : decide (40 < a0_0.size) = true := decide_eq_true (by omega)
   clear c4
   (first | rw [c4b0] | (simp only [i64_w, i32_w]; rw [c4b0]) | skip)
   have H' := Aside0.mk H
   clear H
   have hcz5_0 : w3.cell? ⟨gb163, 0, none⟩ = some (.string a0_0) := (blk_cell BK163.out 0).trans rfl
   have hcz5_1 : w3.cell? ⟨gb163, 1, none⟩ = some (.bool a0_1) := (blk_cell BK163.out 1).trans rfl
   have hcz5_2 : w3.cell? ⟨gb163, 2, none⟩ = some (.slice A0_2 l0_2.length c0_2) := (blk_cell BK163.out 2).trans rfl
   have hcz5_3 : w3.cell? ⟨gb163, 3, none⟩ = some (.int .i64 a0_3) := (blk_cell BK163.out 3).trans rfl
   have hcz5_4 : w3.cell? ⟨gb163, 4, none⟩ = some (.slice A0_4 l0_4.length c0_4) := (blk_cell BK163.out 4).trans rfl
   have hfz5_0 := blk_frozen BK163.out 0
   have hfz5_1 := blk_frozen BK163.out 1
   have hfz5_2 := blk_frozen BK163.out 2
   have hfz5_3 := blk_frozen BK163.out 3
   have hfz5_4 := blk_frozen BK163.out 4
   go_wp2
   go_meet
   case rel => exact ⟨_, (true), (by first | rfl | (simp; done) | (simp [*]; done)), H', ⟨by first | omega | exact Nat.le_refl _⟩, ⟨by (with_reducible repeat (first | refine blk_drewN ?_ _ | refine blk_drew ?_ | refine blk_alloc ?_ _)); exact BK163.out⟩, ⟨by repeat (first | (with_reducible first | exact HB.out | apply below_alloc | apply pw_below_drewN | apply below_drew1 | refine below_set ?_ GE163.out) | exact HB.out)⟩⟩
  ·rw [if_neg c4] at H
   have c4b0 : decide (40 < (a0_0.size : Int)) = false := decide_eq_false c4
   have c4b1 : decide (40 < a0_0.size) = false := decide_eq_false (by omega)
   clear c4
   (first | rw [c4b0] | (simp only [i64_w, i32_w]; rw [c4b0]) | skip)
   by_cases c6 : (l0_2.length : Int) > 8
   ·rw [if_pos c6] at H
    have c6b0 : decide (8 < (l0_2.length : Int)) = true := decide_eq_true c6
    have c6b1 : decide (8 < l0_2.length) = true := decide_eq_true (by omega)
    clear c6
    have H' := Aside0.mk H
    clear H
    have hcz7_0 : w3.cell? ⟨gb163, 0, none⟩ = some (.string a0_0) := (blk_cell BK163.out 0).trans rfl
    have hcz7_1 : w3.cell? ⟨gb163, 1, none⟩ = some (.bool a0_1) := (blk_cell BK163.out 1).trans rfl
    have hcz7_2 : w3.cell? ⟨gb163, 2, none⟩ = some (.slice A0_2 l0_2.length c0_2) := (blk_cell BK163.out 2).trans rfl
    have hcz7_3 : w3.cell? ⟨gb163, 3, none⟩ = some (.int .i64 a0_3) := (blk_cell BK163.out 3).trans rfl
    have hcz7_4 : w3.cell? ⟨gb163, 4, none⟩ = some (.slice A0_4 l0_4.length c0_4) := (blk_cell BK163.out 4).trans rfl
    have hfz7_0 := blk_frozen BK163.out 0
    have hfz7_1 := blk_frozen BK163.out 1
    have hfz7_2 := blk_frozen BK163.out 2
    have hfz7_3 := blk_frozen BK163.out 3
    have hfz7_4 := blk_frozen BK163.out 4
    go_wp2
    go_meet
    case rel => exact ⟨_, (true), (by first | rfl | (simp; done) | (simp [*]; done)), H', ⟨by first | omega | exact Nat.le_refl _⟩, ⟨by (with_reducible repeat (first | refine blk_drewN ?_ _ | refine blk_drew ?_ | refine blk_alloc ?_ _)); exact BK163.out⟩, ⟨by repeat (first | (with_reducible first | exact HB.out | apply below_alloc | apply pw_below_drewN | apply below_drew1 | refine below_set ?_ GE163.out) | exact HB.out)⟩⟩
   ·rw [if_neg c6] at H
    have c6b0 : decide (8 < (l0_2.length : Int)) = false := decide_eq_false c6
    have c6b1 : decide (8 < l0_2.length) = false := decide_eq_false (by omega)
    clear c6
    have H' := Aside0.mk H
    clear H
    have hcz8_0 : w3.cell? ⟨gb163, 0, none⟩ = some (.string a0_0) := (blk_cell BK163.out 0).trans rfl
    have hcz8_1 : w3.cell? ⟨gb163, 1, none⟩ = some (.bool a0_1) := (blk_cell BK163.out 1).trans rfl
    have hcz8_2 : w3.cell? ⟨gb163, 2, none⟩ = some (.slice A0_2 l0_2.length c0_2) := (blk_cell BK163.out 2).trans rfl
    have hcz8_3 : w3.cell? ⟨gb163, 3, none⟩ = some (.int .i64 a0_3) := (blk_cell BK163.out 3).trans rfl
    have hcz8_4 : w3.cell? ⟨gb163, 4, none⟩ = some (.slice A0_4 l0_4.length c0_4) := (blk_cell BK163.out 4).trans rfl
    have hfz8_0 := blk_frozen BK163.out 0
    have hfz8_1 := blk_frozen BK163.out 1
    have hfz8_2 := blk_frozen BK163.out 2
    have hfz8_3 := blk_frozen BK163.out 3
    have hfz8_4 := blk_frozen BK163.out 4
    go_wp2
    go_meet
    case rel => exact ⟨_, (decide ((l0_4.length : Int) > 16)), (by first | rfl | (simp; done) | (simp [*]; done)), H', ⟨by first | omega | exact Nat.le_refl _⟩, ⟨by (with_reducible repeat (first | refine blk_drewN ?_ _ | refine blk_drew ?_ | refine blk_alloc ?_ _)); exact BK163.out⟩, ⟨by repeat (first | (with_reducible first | exact HB.out | apply below_alloc | apply pw_below_drewN | apply below_drew1 | refine below_set ?_ GE163.out) | exact HB.out)⟩⟩
 case rest =>
  clear HC2
  try clear c1
  try clear p2
  try clear c4
  try clear c4b0
  try clear c4b1
  try clear c6
  try clear c6b0
  try clear c6b1
  try clear hcz5_0
  try clear hcz5_1
  try clear hcz5_2
  try clear hcz5_3
  try clear hcz5_4
  try clear hcz7_0
  try clear hcz7_1
  try clear hcz7_2
  try clear hcz7_3
  try clear hcz7_4
  try clear hcz8_0
  try clear hcz8_1
  try clear hcz8_2
  try clear hcz8_3
  try clear hcz8_4
  try clear hfz5_0
  try clear hfz5_1
  try clear hfz5_2
  try clear hfz5_3
  try clear hfz5_4
  try clear hfz7_0
  try clear hfz7_1
  try clear hfz7_2
  try clear hfz7_3
  try clear hfz7_4
  try clear hfz8_0
  try clear hfz8_1
  try clear hfz8_2
  try clear hfz8_3
  try clear hfz8_4
  obtain ⟨kq, x21_1, rfl, HA, HJ1, BK163, HB⟩ := hcut
  cases kq with
  | zero => exact absurd HA.out (by simp [plnkeep_Light.j0])
  | succ kj1 =>
   have H := HA.out
   clear HA
   simp only [plnkeep_Light.j0] at H
   by_cases c9 : x21_1 = true
   ·subst c9
    have H1 : (some false) = some r := by rw [if_pos rfl] at H; exact H
    clear H; have H := H1; clear H1
    obtain rfl := Option.some.inj H
    go_wp2
    go_ret
    exact ⟨by first | rfl | (simp [errW_none, errW_some] <;> rfl) | (simp [*, errW_none, errW_some] <;> rfl), by repeat (first | (with_reducible first | exact HB.out | apply below_alloc | apply pw_below_drewN | apply below_drew1 | refine below_set ?_ GE163.out) | exact HB.out)⟩
   ·replace c9 := Bool.eq_false_iff.mpr c9
    subst c9
    have H1 : (plnkeep_Light.l0 kj1 0 0 a0_0 a0_1 l0_2 a0_3 l0_4) = some r := by rw [if_neg (show ¬ (false = true) by decide)] at H; exact H
    clear H; have H := H1; clear H1
    have H' := Aside0.mk H
    clear H
    go_wp2
    go_loopg [3, 4] kj1 (fun kq v3 v4 w' => ∃ (x3_2 : Int) (x4_2 : Int), v3 = .int .i64 x3_2 ∧ v4 = .int .i64 x4_2 ∧ Aside0 (plnkeep_Light.l0 kq x3_2 x4_2 a0_0 a0_1 l0_2 a0_3 l0_4 = some r) ∧ Aside0 (kq ≤ kj1) ∧ Aside0 (w'.heap[gb163]? = some (.cells #[.string a0_0, .bool a0_1, (.slice A0_2 l0_2.length c0_2), .int .i64 a0_3, (.slice A0_4 l0_4.length c0_4)] 25 (0, 0))) ∧ Aside0 (Below w.heap.size w w'))
    case atStart => exact ⟨(0), (0), (by first | rfl | (simp; done) | (simp [*]; done)), (by first | rfl | (simp; done) | (simp [*]; done)), H', ⟨Nat.le_refl _⟩, ⟨by (with_reducible repeat (first | refine blk_drewN ?_ _ | refine blk_drew ?_ | refine blk_alloc ?_ _)); exact BK163.out⟩, ⟨by repeat (first | (with_reducible first | exact HB.out | apply below_alloc | apply pw_below_drewN | apply below_drew1 | refine below_set ?_ GE163.out) | exact HB.out)⟩⟩
    case round =>
     clear H'
     try clear c1
     try clear p2
     try clear c4
     try clear c4b0
     try clear c4b1
     try clear c6
     try clear c6b0
     try clear c6b1
     try clear c9
     try clear hcz5_0
     try clear hcz5_1
     try clear hcz5_2
     try clear hcz5_3
     try clear hcz5_4
     try clear hcz7_0
     try clear hcz7_1
     try clear hcz7_2
     try clear hcz7_3
     try clear hcz7_4
     try clear hcz8_0
     try clear hcz8_1
     try clear hcz8_2
     try clear hcz8_3
     try clear hcz8_4
     try clear hfz5_0
     try clear hfz5_1
     try clear hfz5_2
     try clear hfz5_3
     try clear hfz5_4
     try clear hfz7_0
     try clear hfz7_1
     try clear hfz7_2
     try clear hfz7_3
     try clear hfz7_4
     try clear hfz8_0
     try clear hfz8_1
     try clear hfz8_2
     try clear hfz8_3
     try clear hfz8_4
     try clear p2
     obtain ⟨x3_2, x4_2, rfl, rfl, HA, HK2, BK163, HB⟩ := hrel
     cases gk with
     | zero => exact absurd HA.out (by simp [plnkeep_Light.l0])
     | succ k2 =>
      have H := HA.out
      clear HA
      simp only [plnkeep_Light.l0] at H
      by_cases c10 : x4_2 < (l0_4.length : Int)
      ·rw [if_pos c10] at H
       have c10b0 : decide (x4_2 < (l0_4.length : Int)) = true := decide_eq_true c10
       clear c10
       by_cases c11 : 0 ≤ x4_2
       ·rw [if_pos c11] at H
        have c11b0 : decide (0 ≤ x4_2) = true := decide_eq_true c11
        clear c11
        by_cases c12 : (wrap64 (x3_2 + (((rd_T54 l0_4 x4_2).f0).length : Int))) > 90
        ·rw [if_pos c12] at H
         have c12b0 : decide (90 < (wrap64 (x3_2 + (((rd_T54 l0_4 x4_2).f0).length : Int)))) = true := decide_eq_true c12
         clear c12
         obtain rfl := Option.some.inj H
         have hcz13_0 : wr.cell? ⟨gb163, 0, none⟩ = some (.string a0_0) := (blk_cell BK163.out 0).trans rfl
         have hcz13_1 : wr.cell? ⟨gb163, 1, none⟩ = some (.bool a0_1) := (blk_cell BK163.out 1).trans rfl
         have hcz13_2 : wr.cell? ⟨gb163, 2, none⟩ = some (.slice A0_2 l0_2.length c0_2) := (blk_cell BK163.out 2).trans rfl
         have hcz13_3 : wr.cell? ⟨gb163, 3, none⟩ = some (.int .i64 a0_3) := (blk_cell BK163.out 3).trans rfl
         have hcz13_4 : wr.cell? ⟨gb163, 4, none⟩ = some (.slice A0_4 l0_4.length c0_4) := (blk_cell BK163.out 4).trans rfl
         have hfz13_0 := blk_frozen BK163.out 0
         have hfz13_1 := blk_frozen BK163.out 1
         have hfz13_2 := blk_frozen BK163.out 2
         have hfz13_3 := blk_frozen BK163.out 3
         have hfz13_4 := blk_frozen BK163.out 4
         have p164 : 0 ≤ (x4_2 : Int) := of_decide_eq_true (by first | (with_reducible assumption) | assumption)
         have q164 : x4_2 < (l0_4.length : Int) := of_decide_eq_true (by first | (with_reducible assumption) | assumption)
         obtain ⟨ad164, A164_0, c164_0, e164, hx164_0, hl164_0, hi164_0⟩ := at_T54 HR0_4.out x4_2 p164 q164
         cases e164
         replace hx164_0 := (HB.out.cell (World.block_lt_of_cell? w _ hx164_0)).trans hx164_0
         have HR164_0 := Aside0.mk hi164_0
         have HC164_0 := Aside0.mk hl164_0
         clear hi164_0 hl164_0
         replace p164 := eq_true p164
         replace q164 := eq_true q164
         go_wp2
         go_ret
         exact ⟨by first | rfl | (simp [errW_none, errW_some] <;> rfl) | (simp [*, errW_none, errW_some] <;> rfl), by repeat (first | (with_reducible first | exact HB.out | apply below_alloc | apply pw_below_drewN | apply below_drew1 | refine below_set ?_ GE163.out) | exact HB.out)⟩
        ·rw [if_neg c12] at H
         have c12b0 : decide (90 < (wrap64 (x3_2 + (((rd_T54 l0_4 x4_2).f0).length : Int)))) = false := decide_eq_false c12
         clear c12
         have H' := Aside0.mk H
         clear H
         have hcz14_0 : wr.cell? ⟨gb163, 0, none⟩ = some (.string a0_0) := (blk_cell BK163.out 0).trans rfl
         have hcz14_1 : wr.cell? ⟨gb163, 1, none⟩ = some (.bool a0_1) := (blk_cell BK163.out 1).trans rfl
         have hcz14_2 : wr.cell? ⟨gb163, 2, none⟩ = some (.slice A0_2 l0_2.length c0_2) := (blk_cell BK163.out 2).trans rfl
         have hcz14_3 : wr.cell? ⟨gb163, 3, none⟩ = some (.int .i64 a0_3) := (blk_cell BK163.out 3).trans rfl
         have hcz14_4 : wr.cell? ⟨gb163, 4, none⟩ = some (.slice A0_4 l0_4.length c0_4) := (blk_cell BK163.out 4).trans rfl
         have hfz14_0 := blk_frozen BK163.out 0
         have hfz14_1 := blk_frozen BK163.out 1
         have hfz14_2 := blk_frozen BK163.out 2
         have hfz14_3 := blk_frozen BK163.out 3
         have hfz14_4 := blk_frozen BK163.out 4
         have p164 : 0 ≤ (x4_2 : Int) := of_decide_eq_true (by first | (with_reducible assumption) | assumption)
         have q164 : x4_2 < (l0_4.length : Int) := of_decide_eq_true (by first | (with_reducible assumption) | assumption)
         obtain ⟨ad164, A164_0, c164_0, e164, hx164_0, hl164_0, hi164_0⟩ := at_T54 HR0_4.out x4_2 p164 q164
         cases e164
         replace hx164_0 := (HB.out.cell (World.block_lt_of_cell? w _ hx164_0)).trans hx164_0
         have HR164_0 := Aside0.mk hi164_0
         have HC164_0 := Aside0.mk hl164_0
         clear hi164_0 hl164_0
         replace p164 := eq_true p164
         replace q164 := eq_true q164
         go_wp2
         go_loopg [5] k2 (fun kq v5 w' => ∃ (x5_3 : Int), v5 = .int .i64 x5_3 ∧ Aside0 (plnkeep_Light.l1 kq (wrap64 (x3_2 + (((rd_T54 l0_4 x4_2).f0).length : Int))) x4_2 x5_3 a0_0 a0_1 l0_2 a0_3 l0_4 = some r) ∧ Aside0 (kq ≤ k2) ∧ Aside0 (w'.heap[gb163]? = some (.cells #[.string a0_0, .bool a0_1, (.slice A0_2 l0_2.length c0_2), .int .i64 a0_3, (.slice (some ad164) l0_4.length c0_4)] 25 (0, 0))) ∧ Aside0 (Below w.heap.size w w'))
         case atStart => exact ⟨(0), (by first | rfl | (simp; done) | (simp [*]; done)), H', ⟨Nat.le_refl _⟩, ⟨by (with_reducible repeat (first | refine blk_drewN ?_ _ | refine blk_drew ?_ | refine blk_alloc ?_ _)); exact BK163.out⟩, ⟨by repeat (first | (with_reducible first | exact HB.out | apply below_alloc | apply pw_below_drewN | apply below_drew1 | refine below_set ?_ GE163.out) | exact HB.out)⟩⟩
         case round =>
          clear H'
          try clear c1
          try clear p1
          try clear q1
          try clear hx1
          try clear p2
          try clear c4
          try clear c4b0
          try clear c4b1
          try clear c6
          try clear c6b0
          try clear c6b1
          try clear p6
          try clear c9
          try clear c10
          try clear c10b0
          try clear c11
          try clear c11b0
          try clear c12
          try clear c12b0
          try clear hcz13_0
          try clear hcz13_1
          try clear hcz13_2
          try clear hcz13_3
          try clear hcz13_4
          try clear hcz14_0
          try clear hcz14_1
          try clear hcz14_2
          try clear hcz14_3
          try clear hcz14_4
          try clear hcz5_0
          try clear hcz5_1
          try clear hcz5_2
          try clear hcz5_3
          try clear hcz5_4
          try clear hcz7_0
          try clear hcz7_1
          try clear hcz7_2
          try clear hcz7_3
          try clear hcz7_4
          try clear hcz8_0
          try clear hcz8_1
          try clear hcz8_2
          try clear hcz8_3
          try clear hcz8_4
          try clear hfz13_0
          try clear hfz13_1
          try clear hfz13_2
          try clear hfz13_3
          try clear hfz13_4
          try clear hfz14_0
          try clear hfz14_1
          try clear hfz14_2
          try clear hfz14_3
          try clear hfz14_4
          try clear hfz5_0
          try clear hfz5_1
          try clear hfz5_2
          try clear hfz5_3
          try clear hfz5_4
          try clear hfz7_0
          try clear hfz7_1
          try clear hfz7_2
          try clear hfz7_3
          try clear hfz7_4
          try clear hfz8_0
          try clear hfz8_1
          try clear hfz8_2
          try clear hfz8_3
          try clear hfz8_4
          try clear hx164_0
          try clear p164
          try clear p2
          try clear q164
          obtain ⟨x5_3, rfl, HA, HK3, BK163, HB⟩ := hrel
          cases gk with
          | zero => exact absurd HA.out (by simp [plnkeep_Light.l1])
          | succ k3 =>
           have H := HA.out
           clear HA
           simp only [plnkeep_Light.l1] at H
           by_cases c15 : 0 ≤ x4_2
           ·rw [if_pos c15] at H
            have c15b0 : decide (0 ≤ x4_2) = true := decide_eq_true c15
            clear c15
            by_cases c16 : x4_2 < (l0_4.length : Int)
            ·rw [if_pos c16] at H
             have c16b0 : decide (x4_2 < (l0_4.length : Int)) = true := decide_eq_true c16
             clear c16
             by_cases c17 : x5_3 < (((rd_T54 l0_4 x4_2).f0).length : Int)
             ·rw [if_pos c17] at H
              have c17b0 : decide (x5_3 < (((rd_T54 l0_4 x4_2).f0).length : Int)) = true := decide_eq_true c17
              clear c17
              by_cases c18 : 0 ≤ x5_3
              ·rw [if_pos c18] at H
               have c18b0 : decide (0 ≤ x5_3) = true := decide_eq_true c18
               clear c18
               by_cases c19 : (((rd_T56 ((rd_T54 l0_4 x4_2).f0) x5_3).f5).length : Int) > 20
               ·rw [if_pos c19] at H
                have c19b0 : decide (20 < (((rd_T56 ((rd_T54 l0_4 x4_2).f0) x5_3).f5).length : Int)) = true := decide_eq_true c19
                have c19b1 : decide (20 < ((rd_T56 ((rd_T54 l0_4 x4_2).f0) x5_3).f5).length) = true := decide_eq_true (by omega)
                clear c19
                obtain rfl := Option.some.inj H
                have hcz20_0 : wr.cell? ⟨gb163, 0, none⟩ = some (.string a0_0) := (blk_cell BK163.out 0).trans rfl
                have hcz20_1 : wr.cell? ⟨gb163, 1, none⟩ = some (.bool a0_1) := (blk_cell BK163.out 1).trans rfl
                have hcz20_2 : wr.cell? ⟨gb163, 2, none⟩ = some (.slice A0_2 l0_2.length c0_2) := (blk_cell BK163.out 2).trans rfl
                have hcz20_3 : wr.cell? ⟨gb163, 3, none⟩ = some (.int .i64 a0_3) := (blk_cell BK163.out 3).trans rfl
                have hcz20_4 : wr.cell? ⟨gb163, 4, none⟩ = some (.slice (some ad164) l0_4.length c0_4) := (blk_cell BK163.out 4).trans rfl
                have hfz20_0 := blk_frozen BK163.out 0
                have hfz20_1 := blk_frozen BK163.out 1
                have hfz20_2 := blk_frozen BK163.out 2
                have hfz20_3 := blk_frozen BK163.out 3
                have hfz20_4 := blk_frozen BK163.out 4
                have p165 : 0 ≤ (x4_2 : Int) := of_decide_eq_true (by first | (with_reducible assumption) | assumption)
                have q165 : x4_2 < (l0_4.length : Int) := of_decide_eq_true (by first | (with_reducible assumption) | assumption)
                obtain ⟨ad165, A165_0, c165_0, e165, hx165_0, hl165_0, hi165_0⟩ := at_T54 HR0_4.out x4_2 p165 q165
                obtain rfl : ad164 = ad165 := (by injection e165)
                replace hx165_0 := (HB.out.cell (World.block_lt_of_cell? w _ hx165_0)).trans hx165_0
                have HR165_0 := Aside0.mk hi165_0
                have HC165_0 := Aside0.mk hl165_0
                clear hi165_0 hl165_0
                replace p165 := eq_true p165
                replace q165 := eq_true q165
                have p166 : 0 ≤ (x4_2 : Int) := of_decide_eq_true (by first | (with_reducible assumption) | assumption)
                have q166 : x4_2 < (l0_4.length : Int) := of_decide_eq_true (by first | (with_reducible assumption) | assumption)
                obtain ⟨ad166, A166_0, c166_0, e166, hx166_0, hl166_0, hi166_0⟩ := at_T54 HR0_4.out x4_2 p166 q166
                obtain rfl : ad164 = ad166 := (by injection e166)
                replace hx166_0 := (HB.out.cell (World.block_lt_of_cell? w _ hx166_0)).trans hx166_0
                have HR166_0 := Aside0.mk hi166_0
                have HC166_0 := Aside0.mk hl166_0
                clear hi166_0 hl166_0
                replace p166 := eq_true p166
                replace q166 := eq_true q166
                have ea_ := Option.some.inj (hx165_0.symm.trans hx166_0)
                injection ea_ with ea_ en_ ec_
                subst ea_
                subst ec_
                clear en_
                have p167 : 0 ≤ (x5_3 : Int) := of_decide_eq_true (by first | (with_reducible assumption) | assumption)
                have q167 : x5_3 < (((rd_T54 l0_4 x4_2).f0).length : Int) := of_decide_eq_true (by first | (with_reducible assumption) | assumption)
                obtain ⟨ad167, A167_5, c167_5, A167_6, c167_6, e167, hx167_0, hx167_1, hx167_2, hx167_3, hx167_4, hx167_5, hx167_6, hl167_5, hi167_5, hl167_6, hi167_6⟩ := at_T56 HR166_0.out x5_3 p167 q167
                cases e167
                replace hx167_0 := (HB.out.cell (World.block_lt_of_cell? w _ hx167_0)).trans hx167_0
                replace hx167_1 := (HB.out.cell (World.block_lt_of_cell? w _ hx167_1)).trans hx167_1
                replace hx167_2 := (HB.out.cell (World.block_lt_of_cell? w _ hx167_2)).trans hx167_2
                replace hx167_3 := (HB.out.cell (World.block_lt_of_cell? w _ hx167_3)).trans hx167_3
                replace hx167_4 := (HB.out.cell (World.block_lt_of_cell? w _ hx167_4)).trans hx167_4
                replace hx167_5 := (HB.out.cell (World.block_lt_of_cell? w _ hx167_5)).trans hx167_5
                replace hx167_6 := (HB.out.cell (World.block_lt_of_cell? w _ hx167_6)).trans hx167_6
                have HR167_5 := Aside0.mk hi167_5
                have HC167_5 := Aside0.mk hl167_5
                clear hi167_5 hl167_5
                have HR167_6 := Aside0.mk hi167_6
                have HC167_6 := Aside0.mk hl167_6
                clear hi167_6 hl167_6
                replace p167 := eq_true p167
                replace q167 := eq_true q167
                go_wp2
                go_ret
                exact ⟨by first | rfl | (simp [errW_none, errW_some] <;> rfl) | (simp [*, errW_none, errW_some] <;> rfl), by repeat (first | (with_reducible first | exact HB.out | apply below_alloc | apply pw_below_drewN | apply below_drew1 | refine below_set ?_ GE163.out) | exact HB.out)⟩
               ·rw [if_neg c19] at H
                have c19b0 : decide (20 < (((rd_T56 ((rd_T54 l0_4 x4_2).f0) x5_3).f5).length : Int)) = false := decide_eq_false c19
                have c19b1 : decide (20 < ((rd_T56 ((rd_T54 l0_4 x4_2).f0) x5_3).f5).length) = false := decide_eq_false (by omega)
                clear c19
                by_cases c21 : (((rd_T56 ((rd_T54 l0_4 x4_2).f0) x5_3).f6).length : Int) > 20
                ·rw [if_pos c21] at H
                 have c21b0 : decide (20 < (((rd_T56 ((rd_T54 l0_4 x4_2).f0) x5_3).f6).length : Int)) = true := decide_eq_true c21
                 have c21b1 : decide (20 < ((rd_T56 ((rd_T54 l0_4 x4_2).f0) x5_3).f6).length) = true := decide_eq_true (by omega)
                 clear c21
                 obtain rfl := Option.some.inj H
                 have hcz22_0 : wr.cell? ⟨gb163, 0, none⟩ = some (.string a0_0) := (blk_cell BK163.out 0).trans rfl
                 have hcz22_1 : wr.cell? ⟨gb163, 1, none⟩ = some (.bool a0_1) := (blk_cell BK163.out 1).trans rfl
                 have hcz22_2 : wr.cell? ⟨gb163, 2, none⟩ = some (.slice A0_2 l0_2.length c0_2) := (blk_cell BK163.out 2).trans rfl
                 have hcz22_3 : wr.cell? ⟨gb163, 3, none⟩ = some (.int .i64 a0_3) := (blk_cell BK163.out 3).trans rfl
                 have hcz22_4 : wr.cell? ⟨gb163, 4, none⟩ = some (.slice (some ad164) l0_4.length c0_4) := (blk_cell BK163.out 4).trans rfl
                 have hfz22_0 := blk_frozen BK163.out 0
                 have hfz22_1 := blk_frozen BK163.out 1
                 have hfz22_2 := blk_frozen BK163.out 2
                 have hfz22_3 := blk_frozen BK163.out 3
                 have hfz22_4 := blk_frozen BK163.out 4
                 have p165 : 0 ≤ (x4_2 : Int) := of_decide_eq_true (by first | (with_reducible assumption) | assumption)
                 have q165 : x4_2 < (l0_4.length : Int) := of_decide_eq_true (by first | (with_reducible assumption) | assumption)
                 obtain ⟨ad165, A165_0, c165_0, e165, hx165_0, hl165_0, hi165_0⟩ := at_T54 HR0_4.out x4_2 p165 q165
                 obtain rfl : ad164 = ad165 := (by injection e165)
                 replace hx165_0 := (HB.out.cell (World.block_lt_of_cell? w _ hx165_0)).trans hx165_0
                 have HR165_0 := Aside0.mk hi165_0
                 have HC165_0 := Aside0.mk hl165_0
                 clear hi165_0 hl165_0
                 replace p165 := eq_true p165
                 replace q165 := eq_true q165
                 have p166 : 0 ≤ (x4_2 : Int) := of_decide_eq_true (by first | (with_reducible assumption) | assumption)
                 have q166 : x4_2 < (l0_4.length : Int) := of_decide_eq_true (by first | (with_reducible assumption) | assumption)
                 obtain ⟨ad166, A166_0, c166_0, e166, hx166_0, hl166_0, hi166_0⟩ := at_T54 HR0_4.out x4_2 p166 q166
                 obtain rfl : ad164 = ad166 := (by injection e166)
                 replace hx166_0 := (HB.out.cell (World.block_lt_of_cell? w _ hx166_0)).trans hx166_0
                 have HR166_0 := Aside0.mk hi166_0
                 have HC166_0 := Aside0.mk hl166_0
                 clear hi166_0 hl166_0
                 replace p166 := eq_true p166
                 replace q166 := eq_true q166
                 have ea_ := Option.some.inj (hx165_0.symm.trans hx166_0)
                 injection ea_ with ea_ en_ ec_
                 subst ea_
                 subst ec_
                 clear en_
                 have p167 : 0 ≤ (x5_3 : Int) := of_decide_eq_true (by first | (with_reducible assumption) | assumption)
                 have q167 : x5_3 < (((rd_T54 l0_4 x4_2).f0).length : Int) := of_decide_eq_true (by first | (with_reducible assumption) | assumption)
                 obtain ⟨ad167, A167_5, c167_5, A167_6, c167_6, e167, hx167_0, hx167_1, hx167_2, hx167_3, hx167_4, hx167_5, hx167_6, hl167_5, hi167_5, hl167_6, hi167_6⟩ := at_T56 HR166_0.out x5_3 p167 q167
                 cases e167
                 replace hx167_0 := (HB.out.cell (World.block_lt_of_cell? w _ hx167_0)).trans hx167_0
                 replace hx167_1 := (HB.out.cell (World.block_lt_of_cell? w _ hx167_1)).trans hx167_1
                 replace hx167_2 := (HB.out.cell (World.block_lt_of_cell? w _ hx167_2)).trans hx167_2
                 replace hx167_3 := (HB.out.cell (World.block_lt_of_cell? w _ hx167_3)).trans hx167_3
                 replace hx167_4 := (HB.out.cell (World.block_lt_of_cell? w _ hx167_4)).trans hx167_4
                 replace hx167_5 := (HB.out.cell (World.block_lt_of_cell? w _ hx167_5)).trans hx167_5
                 replace hx167_6 := (HB.out.cell (World.block_lt_of_cell? w _ hx167_6)).trans hx167_6
                 have HR167_5 := Aside0.mk hi167_5
                 have HC167_5 := Aside0.mk hl167_5
                 clear hi167_5 hl167_5
                 have HR167_6 := Aside0.mk hi167_6
                 have HC167_6 := Aside0.mk hl167_6
                 clear hi167_6 hl167_6
                 replace p167 := eq_true p167
                 replace q167 := eq_true q167
                 have p168 : 0 ≤ (x4_2 : Int) := of_decide_eq_true (by first | (with_reducible assumption) | assumption)
                 have q168 : x4_2 < (l0_4.length : Int) := of_decide_eq_true (by first | (with_reducible assumption) | assumption)
                 obtain ⟨ad168, A168_0, c168_0, e168, hx168_0, hl168_0, hi168_0⟩ := at_T54 HR0_4.out x4_2 p168 q168
                 obtain rfl : ad164 = ad168 := (by injection e168)
                 replace hx168_0 := (HB.out.cell (World.block_lt_of_cell? w _ hx168_0)).trans hx168_0
                 have HR168_0 := Aside0.mk hi168_0
                 have HC168_0 := Aside0.mk hl168_0
                 clear hi168_0 hl168_0
                 replace p168 := eq_true p168
                 replace q168 := eq_true q168
                 have ea_ := Option.some.inj (hx165_0.symm.trans hx168_0)
                 injection ea_ with ea_ en_ ec_
                 subst ea_
                 subst ec_
                 clear en_
                 have p169 : 0 ≤ (x5_3 : Int) := of_decide_eq_true (by first | (with_reducible assumption) | assumption)
                 have q169 : x5_3 < (((rd_T54 l0_4 x4_2).f0).length : Int) := of_decide_eq_true (by first | (with_reducible assumption) | assumption)
                 obtain ⟨ad169, A169_5, c169_5, A169_6, c169_6, e169, hx169_0, hx169_1, hx169_2, hx169_3, hx169_4, hx169_5, hx169_6, hl169_5, hi169_5, hl169_6, hi169_6⟩ := at_T56 HR168_0.out x5_3 p169 q169
                 cases e169
                 replace hx169_0 := (HB.out.cell (World.block_lt_of_cell? w _ hx169_0)).trans hx169_0
                 replace hx169_1 := (HB.out.cell (World.block_lt_of_cell? w _ hx169_1)).trans hx169_1
                 replace hx169_2 := (HB.out.cell (World.block_lt_of_cell? w _ hx169_2)).trans hx169_2
                 replace hx169_3 := (HB.out.cell (World.block_lt_of_cell? w _ hx169_3)).trans hx169_3
                 replace hx169_4 := (HB.out.cell (World.block_lt_of_cell? w _ hx169_4)).trans hx169_4
                 replace hx169_5 := (HB.out.cell (World.block_lt_of_cell? w _ hx169_5)).trans hx169_5
                 replace hx169_6 := (HB.out.cell (World.block_lt_of_cell? w _ hx169_6)).trans hx169_6
                 have HR169_5 := Aside0.mk hi169_5
                 have HC169_5 := Aside0.mk hl169_5
                 clear hi169_5 hl169_5
                 have HR169_6 := Aside0.mk hi169_6
                 have HC169_6 := Aside0.mk hl169_6
                 clear hi169_6 hl169_6
                 replace p169 := eq_true p169
                 replace q169 := eq_true q169
                 go_wp2
                 go_ret
                 exact ⟨by first | rfl | (simp [errW_none, errW_some] <;> rfl) | (simp [*, errW_none, errW_some] <;> rfl), by repeat (first | (with_reducible first | exact HB.out | apply below_alloc | apply pw_below_drewN | apply below_drew1 | refine below_set ?_ GE163.out) | exact HB.out)⟩
                ·rw [if_neg c21] at H
                 have c21b0 : decide (20 < (((rd_T56 ((rd_T54 l0_4 x4_2).f0) x5_3).f6).length : Int)) = false := decide_eq_false c21
                 have c21b1 : decide (20 < ((rd_T56 ((rd_T54 l0_4 x4_2).f0) x5_3).f6).length) = false := decide_eq_false (by omega)
                 clear c21
                 have H' := Aside0.mk H
                 clear H
                 have hcz23_0 : wr.cell? ⟨gb163, 0, none⟩ = some (.string a0_0) := (blk_cell BK163.out 0).trans rfl
                 have hcz23_1 : wr.cell? ⟨gb163, 1, none⟩ = some (.bool a0_1) := (blk_cell BK163.out 1).trans rfl
                 have hcz23_2 : wr.cell? ⟨gb163, 2, none⟩ = some (.slice A0_2 l0_2.length c0_2) := (blk_cell BK163.out 2).trans rfl
                 have hcz23_3 : wr.cell? ⟨gb163, 3, none⟩ = some (.int .i64 a0_3) := (blk_cell BK163.out 3).trans rfl
                 have hcz23_4 : wr.cell? ⟨gb163, 4, none⟩ = some (.slice (some ad164) l0_4.length c0_4) := (blk_cell BK163.out 4).trans rfl
                 have hfz23_0 := blk_frozen BK163.out 0
                 have hfz23_1 := blk_frozen BK163.out 1
                 have hfz23_2 := blk_frozen BK163.out 2
                 have hfz23_3 := blk_frozen BK163.out 3
                 have hfz23_4 := blk_frozen BK163.out 4
                 have p165 : 0 ≤ (x4_2 : Int) := of_decide_eq_true (by first | (with_reducible assumption) | assumption)
                 have q165 : x4_2 < (l0_4.length : Int) := of_decide_eq_true (by first | (with_reducible assumption) | assumption)
                 obtain ⟨ad165, A165_0, c165_0, e165, hx165_0, hl165_0, hi165_0⟩ := at_T54 HR0_4.out x4_2 p165 q165
                 obtain rfl : ad164 = ad165 := (by injection e165)
                 replace hx165_0 := (HB.out.cell (World.block_lt_of_cell? w _ hx165_0)).trans hx165_0
                 have HR165_0 := Aside0.mk hi165_0
                 have HC165_0 := Aside0.mk hl165_0
                 clear hi165_0 hl165_0
                 replace p165 := eq_true p165
                 replace q165 := eq_true q165
                 have p166 : 0 ≤ (x4_2 : Int) := of_decide_eq_true (by first | (with_reducible assumption) | assumption)
                 have q166 : x4_2 < (l0_4.length : Int) := of_decide_eq_true (by first | (with_reducible assumption) | assumption)
                 obtain ⟨ad166, A166_0, c166_0, e166, hx166_0, hl166_0, hi166_0⟩ := at_T54 HR0_4.out x4_2 p166 q166
                 obtain rfl : ad164 = ad166 := (by injection e166)
                 replace hx166_0 := (HB.out.cell (World.block_lt_of_cell? w _ hx166_0)).trans hx166_0
                 have HR166_0 := Aside0.mk hi166_0
                 have HC166_0 := Aside0.mk hl166_0
                 clear hi166_0 hl166_0
                 replace p166 := eq_true p166
                 replace q166 := eq_true q166
                 have ea_ := Option.some.inj (hx165_0.symm.trans hx166_0)
                 injection ea_ with ea_ en_ ec_
                 subst ea_
                 subst ec_
                 clear en_
                 have p167 : 0 ≤ (x5_3 : Int) := of_decide_eq_true (by first | (with_reducible assumption) | assumption)
                 have q167 : x5_3 < (((rd_T54 l0_4 x4_2).f0).length : Int) := of_decide_eq_true (by first | (with_reducible assumption) | assumption)
                 obtain ⟨ad167, A167_5, c167_5, A167_6, c167_6, e167, hx167_0, hx167_1, hx167_2, hx167_3, hx167_4, hx167_5, hx167_6, hl167_5, hi167_5, hl167_6, hi167_6⟩ := at_T56 HR166_0.out x5_3 p167 q167
                 cases e167
                 replace hx167_0 := (HB.out.cell (World.block_lt_of_cell? w _ hx167_0)).trans hx167_0
                 replace hx167_1 := (HB.out.cell (World.block_lt_of_cell? w _ hx167_1)).trans hx167_1
                 replace hx167_2 := (HB.out.cell (World.block_lt_of_cell? w _ hx167_2)).trans hx167_2
                 replace hx167_3 := (HB.out.cell (World.block_lt_of_cell? w _ hx167_3)).trans hx167_3
                 replace hx167_4 := (HB.out.cell (World.block_lt_of_cell? w _ hx167_4)).trans hx167_4
                 replace hx167_5 := (HB.out.cell (World.block_lt_of_cell? w _ hx167_5)).trans hx167_5
                 replace hx167_6 := (HB.out.cell (World.block_lt_of_cell? w _ hx167_6)).trans hx167_6
                 have HR167_5 := Aside0.mk hi167_5
                 have HC167_5 := Aside0.mk hl167_5
                 clear hi167_5 hl167_5
                 have HR167_6 := Aside0.mk hi167_6
                 have HC167_6 := Aside0.mk hl167_6
                 clear hi167_6 hl167_6
                 replace p167 := eq_true p167
                 replace q167 := eq_true q167
                 have p168 : 0 ≤ (x4_2 : Int) := of_decide_eq_true (by first | (with_reducible assumption) | assumption)
                 have q168 : x4_2 < (l0_4.length : Int) := of_decide_eq_true (by first | (with_reducible assumption) | assumption)
                 obtain ⟨ad168, A168_0, c168_0, e168, hx168_0, hl168_0, hi168_0⟩ := at_T54 HR0_4.out x4_2 p168 q168
                 obtain rfl : ad164 = ad168 := (by injection e168)
                 replace hx168_0 := (HB.out.cell (World.block_lt_of_cell? w _ hx168_0)).trans hx168_0
                 have HR168_0 := Aside0.mk hi168_0
                 have HC168_0 := Aside0.mk hl168_0
                 clear hi168_0 hl168_0
                 replace p168 := eq_true p168
                 replace q168 := eq_true q168
                 have ea_ := Option.some.inj (hx165_0.symm.trans hx168_0)
                 injection ea_ with ea_ en_ ec_
                 subst ea_
                 subst ec_
                 clear en_
                 have p169 : 0 ≤ (x5_3 : Int) := of_decide_eq_true (by first | (with_reducible assumption) | assumption)
                 have q169 : x5_3 < (((rd_T54 l0_4 x4_2).f0).length : Int) := of_decide_eq_true (by first | (with_reducible assumption) | assumption)
                 obtain ⟨ad169, A169_5, c169_5, A169_6, c169_6, e169, hx169_0, hx169_1, hx169_2, hx169_3, hx169_4, hx169_5, hx169_6, hl169_5, hi169_5, hl169_6, hi169_6⟩ := at_T56 HR168_0.out x5_3 p169 q169
                 cases e169
                 replace hx169_0 := (HB.out.cell (World.block_lt_of_cell? w _ hx169_0)).trans hx169_0
                 replace hx169_1 := (HB.out.cell (World.block_lt_of_cell? w _ hx169_1)).trans hx169_1
                 replace hx169_2 := (HB.out.cell (World.block_lt_of_cell? w _ hx169_2)).trans hx169_2
                 replace hx169_3 := (HB.out.cell (World.block_lt_of_cell? w _ hx169_3)).trans hx169_3
                 replace hx169_4 := (HB.out.cell (World.block_lt_of_cell? w _ hx169_4)).trans hx169_4
                 replace hx169_5 := (HB.out.cell (World.block_lt_of_cell? w _ hx169_5)).trans hx169_5
                 replace hx169_6 := (HB.out.cell (World.block_lt_of_cell? w _ hx169_6)).trans hx169_6
                 have HR169_5 := Aside0.mk hi169_5
                 have HC169_5 := Aside0.mk hl169_5
                 clear hi169_5 hl169_5
                 have HR169_6 := Aside0.mk hi169_6
                 have HC169_6 := Aside0.mk hl169_6
                 clear hi169_6 hl169_6
                 replace p169 := eq_true p169
                 replace q169 := eq_true q169
                 go_wp2
                 go_roundg k3
                 case measure => have := HJ1.out; have := HK2.out; have := HK3.out; omega
                 case rel => exact ⟨(wrap64 (x5_3 + 1)), (by first | rfl | (simp; done) | (simp [*]; done)), H', ⟨by have := HJ1.out; have := HK2.out; have := HK3.out; omega⟩, ⟨by (with_reducible repeat (first | refine blk_drewN ?_ _ | refine blk_drew ?_ | refine blk_alloc ?_ _)); exact BK163.out⟩, ⟨by repeat (first | (with_reducible first | exact HB.out | apply below_alloc | apply pw_below_drewN | apply below_drew1 | refine below_set ?_ GE163.out) | exact HB.out)⟩⟩
              ·rw [if_neg c18] at H
               exact absurd H (by simp)
             ·rw [if_neg c17] at H
              have c17b0 : decide (x5_3 < (((rd_T54 l0_4 x4_2).f0).length : Int)) = false := decide_eq_false c17
              clear c17
              have H' := Aside0.mk H
              clear H
              have hcz24_0 : wr.cell? ⟨gb163, 0, none⟩ = some (.string a0_0) := (blk_cell BK163.out 0).trans rfl
              have hcz24_1 : wr.cell? ⟨gb163, 1, none⟩ = some (.bool a0_1) := (blk_cell BK163.out 1).trans rfl
              have hcz24_2 : wr.cell? ⟨gb163, 2, none⟩ = some (.slice A0_2 l0_2.length c0_2) := (blk_cell BK163.out 2).trans rfl
              have hcz24_3 : wr.cell? ⟨gb163, 3, none⟩ = some (.int .i64 a0_3) := (blk_cell BK163.out 3).trans rfl
              have hcz24_4 : wr.cell? ⟨gb163, 4, none⟩ = some (.slice (some ad164) l0_4.length c0_4) := (blk_cell BK163.out 4).trans rfl
              have hfz24_0 := blk_frozen BK163.out 0
              have hfz24_1 := blk_frozen BK163.out 1
              have hfz24_2 := blk_frozen BK163.out 2
              have hfz24_3 := blk_frozen BK163.out 3
              have hfz24_4 := blk_frozen BK163.out 4
              have p165 : 0 ≤ (x4_2 : Int) := of_decide_eq_true (by first | (with_reducible assumption) | assumption)
              have q165 : x4_2 < (l0_4.length : Int) := of_decide_eq_true (by first | (with_reducible assumption) | assumption)
              obtain ⟨ad165, A165_0, c165_0, e165, hx165_0, hl165_0, hi165_0⟩ := at_T54 HR0_4.out x4_2 p165 q165
              obtain rfl : ad164 = ad165 := (by injection e165)
              replace hx165_0 := (HB.out.cell (World.block_lt_of_cell? w _ hx165_0)).trans hx165_0
              have HR165_0 := Aside0.mk hi165_0
              have HC165_0 := Aside0.mk hl165_0
              clear hi165_0 hl165_0
              replace p165 := eq_true p165
              replace q165 := eq_true q165
              go_wp2
              go_roundg k3
              case measure => have := HJ1.out; have := HK2.out; have := HK3.out; omega
              case rel => exact ⟨((wrap64 (x3_2 + (((rd_T54 l0_4 x4_2).f0).length : Int)))), (wrap64 (x4_2 + 1)), (by first | rfl | (simp; done) | (simp [*]; done)), (by first | rfl | (simp; done) | (simp [*]; done)), H', ⟨by have := HJ1.out; have := HK2.out; have := HK3.out; omega⟩, ⟨by (with_reducible repeat (first | refine blk_drewN ?_ _ | refine blk_drew ?_ | refine blk_alloc ?_ _)); exact BK163.out⟩, ⟨by repeat (first | (with_reducible first | exact HB.out | apply below_alloc | apply pw_below_drewN | apply below_drew1 | refine below_set ?_ GE163.out) | exact HB.out)⟩⟩
            ·rw [if_neg c16] at H
             exact absurd H (by simp)
           ·rw [if_neg c15] at H
            exact absurd H (by simp)
       ·rw [if_neg c11] at H
        exact absurd H (by simp)
      ·rw [if_neg c10] at H
       have c10b0 : decide (x4_2 < (l0_4.length : Int)) = false := decide_eq_false c10
       clear c10
       obtain rfl := Option.some.inj H
       have hcz25_0 : wr.cell? ⟨gb163, 0, none⟩ = some (.string a0_0) := (blk_cell BK163.out 0).trans rfl
       have hcz25_1 : wr.cell? ⟨gb163, 1, none⟩ = some (.bool a0_1) := (blk_cell BK163.out 1).trans rfl
       have hcz25_2 : wr.cell? ⟨gb163, 2, none⟩ = some (.slice A0_2 l0_2.length c0_2) := (blk_cell BK163.out 2).trans rfl
       have hcz25_3 : wr.cell? ⟨gb163, 3, none⟩ = some (.int .i64 a0_3) := (blk_cell BK163.out 3).trans rfl
       have hcz25_4 : wr.cell? ⟨gb163, 4, none⟩ = some (.slice A0_4 l0_4.length c0_4) := (blk_cell BK163.out 4).trans rfl
       have hfz25_0 := blk_frozen BK163.out 0
       have hfz25_1 := blk_frozen BK163.out 1
       have hfz25_2 := blk_frozen BK163.out 2
       have hfz25_3 := blk_frozen BK163.out 3
       have hfz25_4 := blk_frozen BK163.out 4
       go_wp2
       go_ret
       exact ⟨by first | rfl | (simp [errW_none, errW_some] <;> rfl) | (simp [*, errW_none, errW_some] <;> rfl), by repeat (first | (with_reducible first | exact HB.out | apply below_alloc | apply pw_below_drewN | apply below_drew1 | refine below_set ?_ GE163.out) | exact HB.out)⟩
end Go.Proofs.Ytkcimaibaicdcaa.P
end
section
namespace Go.Proofs.Ytkcimaibaicdcaa.P
open Go.RowKit Go.Proofs.YtkcimaibaicdcaaW.PrintWords Go.Proofs.YtkcimaibaicdcaaW.PrintLast Go.Proofs.YtkcimaibaicdcaaW.PrintMore
attribute [local go_sem] max2_int min2_int max_two min_two max_three min_three max_four min_four   
set_option linter.unusedVariables false
set_option linter.unusedSimpArgs false
def plnref3_In.l0 : Nat → List Int → Int → Int → Option (Bool)
 | 0, _, _, _ => none
 | k + 1, x0, x1, x5 => if x5 < (x0.length : Int) then (if 0 ≤ x5 then (if (rd x0 x5) = x1 then (some true) else (plnref3_In.l0 k x0 x1 (wrap64 (x5 + 1)))) else (none)) else (some false)
def plnref3_In.f (k : Nat) (l0 : List Int) (a1 : Int) : Option (Bool) := plnref3_In.l0 k l0 a1 0
theorem plnref3_In.mono_l : ∀ k, (∀ y0 y1 y2, LeO (plnref3_In.l0 k y0 y1 y2) (plnref3_In.l0 (k + 1) y0 y1 y2))
 | 0 => fun _ _ _ r h => by simp [plnref3_In.l0] at h
 | k + 1 => by
  have ih0 := plnref3_In.mono_l k
  ·intro y0 y1 y2
   unfold plnref3_In.l0
   repeat' first
   | (with_reducible exact ih0 _ _ _)
   | (with_reducible exact LeO.refl _)
   | (with_reducible exact LeO.none _)
   | (with_reducible refine LeO.ite ?_ ?_)
   | (with_reducible refine LeO.bind ?_ (fun _ => ?_))
   | exact ih0 _ _ _
   | exact LeO.none _
   | refine LeO.ite ?_ ?_
   | refine LeO.bind ?_ (fun _ => ?_)
theorem plnref3_In.mono : ∀ a0 a1 k, LeO (plnref3_In.f k a0 a1) (plnref3_In.f (k + 1) a0 a1) := by
 intro a0 a1 k
 have ih0 := plnref3_In.mono_l k
 unfold plnref3_In.f
 repeat' first
   | (with_reducible exact ih0 _ _ _)
   | (with_reducible exact LeO.refl _)
   | (with_reducible exact LeO.none _)
   | (with_reducible refine LeO.ite ?_ ?_)
   | (with_reducible refine LeO.bind ?_ (fun _ => ?_))
   | exact ih0 _ _ _
   | exact LeO.none _
   | refine LeO.ite ?_ ?_
   | refine LeO.bind ?_ (fun _ => ?_)
set_option maxHeartbeats 8000000 in
set_option maxRecDepth 100000 in
theorem plnref3_In.calls (k : Nat) (A0 : Option Addr) (c0 : Nat) (l0 : List Int) (a1 : Int) (r : Bool) (w : World) (hr0 : Kd.C (Kd.int .i64) w A0 l0.length l0) (hc0 : l0.length ≤ c0) (h : plnref3_In.f k l0 a1 = some r) :
  Calls Try.prog 31 #[.slice A0 l0.length c0, .int .i64 a1] w fun e w' => e = .returned (.bool r) ∧ Drawn0 w w' := by
 have HR0 := Aside0.mk hr0
 have HC0 := Aside0.mk hc0
 clear hr0 hc0
 have H : (plnref3_In.l0 k l0 a1 0) = some r := h
 clear h
 have H' := Aside0.mk H
 clear H
 go_enter Try.func31, Try.ntmps31
 go_wp2
 go_loopg [5] k (fun kq v5 w' => ∃ (x5_1 : Int), v5 = .int .i64 x5_1 ∧ Aside0 (plnref3_In.l0 kq l0 a1 x5_1 = some r) ∧ Aside0 (kq ≤ k) ∧ Drawn0 w w')
 case atStart => exact ⟨(0), (by first | rfl | (simp; done) | (simp [*]; done)), H', ⟨Nat.le_refl _⟩, by repeat (first | exact Drawn0.refl _ | apply Drawn0.step)⟩
 case round =>
  clear H'
  try clear p2
  obtain ⟨x5_1, rfl, HA, HK1, ⟨m1, rfl⟩⟩ := hrel
  cases gk with
  | zero => exact absurd HA.out (by simp [plnref3_In.l0])
  | succ k1 =>
   have H := HA.out
   clear HA
   simp only [plnref3_In.l0] at H
   by_cases c3 : x5_1 < (l0.length : Int)
   ·rw [if_pos c3] at H
    have c3b0 : decide (x5_1 < (l0.length : Int)) = true := decide_eq_true c3
    clear c3
    by_cases c4 : 0 ≤ x5_1
    ·rw [if_pos c4] at H
     have c4b0 : decide (0 ≤ x5_1) = true := decide_eq_true c4
     clear c4
     by_cases c5 : (rd l0 x5_1) = a1
     ·rw [if_pos c5] at H
      have c5b0 : ((rd l0 x5_1) == a1) = true := beq_iff_eq.mpr c5
      have c5b1 : ((rd l0 x5_1) != a1) = false := bne_eq_false_iff_eq.mpr c5
      clear c5
      obtain rfl := Option.some.inj H
      have p170 : 0 ≤ (x5_1 : Int) := of_decide_eq_true (by first | (with_reducible assumption) | assumption)
      have q170 : x5_1 < (l0.length : Int) := of_decide_eq_true (by first | (with_reducible assumption) | assumption)
      obtain ⟨ad170, e170, hx170_0⟩ := Kd.at_int HR0.out x5_1 p170 q170
      cases e170
      replace p170 := eq_true p170
      replace q170 := eq_true q170
      go_wp2
      go_ret
      exact ⟨by first | rfl | (simp; done) | (simp [*]; done), by repeat (first | exact Drawn0.refl _ | apply Drawn0.step)⟩
     ·rw [if_neg c5] at H
      have c5b0 : ((rd l0 x5_1) == a1) = false := beq_eq_false_iff_ne.mpr c5
      have c5b1 : ((rd l0 x5_1) != a1) = true := bne_iff_ne.mpr c5
      have H' := Aside0.mk H
      clear H
      have p170 : 0 ≤ (x5_1 : Int) := of_decide_eq_true (by first | (with_reducible assumption) | assumption)
      have q170 : x5_1 < (l0.length : Int) := of_decide_eq_true (by first | (with_reducible assumption) | assumption)
      obtain ⟨ad170, e170, hx170_0⟩ := Kd.at_int HR0.out x5_1 p170 q170
      cases e170
      replace p170 := eq_true p170
      replace q170 := eq_true q170
      go_wp2
      go_roundg k1
      case measure => have := HK1.out; omega
      case rel => exact ⟨(wrap64 (x5_1 + 1)), (by first | rfl | (simp; done) | (simp [*]; done)), H', ⟨by have := HK1.out; omega⟩, by repeat (first | exact Drawn0.refl _ | apply Drawn0.step)⟩
    ·rw [if_neg c4] at H
     exact absurd H (by simp)
   ·rw [if_neg c3] at H
    have c3b0 : decide (x5_1 < (l0.length : Int)) = false := decide_eq_false c3
    clear c3
    obtain rfl := Option.some.inj H
    go_wp2
    go_ret
    exact ⟨by first | rfl | (simp; done) | (simp [*]; done), by repeat (first | exact Drawn0.refl _ | apply Drawn0.step)⟩
end Go.Proofs.Ytkcimaibaicdcaa.P
end
