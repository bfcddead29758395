/- A part of the proof of the law of FlowOrders: lemmas and walks, out of this session's texts, with what the claim does not use struck out. -/
import Derived.Test.YtkcimaibaicdcaaO6
import Derived.Test.YtkcimaibaicdcaaO8
import Derived.Test.YtkcimaibaicdcaaO9
import Derived.Test.YtkcimaibaicdcaaO10
import Derived.Test.YtkcimaibaicdcaaO11
namespace Go.Proofs.Ytkcimaibaicdcaa.P
open Go.RowKit Go.Proofs.YtkcimaibaicdcaaW.PrintWords Go.Proofs.YtkcimaibaicdcaaW.PrintLast Go.Proofs.YtkcimaibaicdcaaW.PrintMore
attribute [local go_sem] max2_int min2_int max_two min_two max_three min_three max_four min_four   
set_option linter.unusedVariables false
set_option linter.unusedSimpArgs false
mutual
def plnlaw4_FlowOrders.j0 : Nat → List Int → List Bool → List (List Int) → Bool → ByteArray → Bool → List Int → Int → List (S54) → Option (Bool)
 | 0, _, _, _, _, _, _, _, _, _ => none
 | k + 1, x3, x4, x5, x40, x327000, x327001, x327002, x327003, x327004 => if x40 = true then (some false) else (if 0 ≤ (x4.length : Int) then (if ((x4.length : Int) : Int).toNat ≤ 35184372088832 then (plnlaw4_FlowOrders.l0 k x3 x4 x5 (List.replicate ((x4.length : Int) : Int).toNat 0) 0 0 x327000 x327001 x327002 x327003 x327004) else (none)) else (none))
def plnlaw4_FlowOrders.l0 : Nat → List Int → List Bool → List (List Int) → List Int → Int → Int → ByteArray → Bool → List Int → Int → List (S54) → Option (Bool)
 | 0, _, _, _, _, _, _, _, _, _, _, _ => none
 | k + 1, x3, x4, x5, x6, x7, x8, x327000, x327001, x327002, x327003, x327004 => if x8 < (x3.length : Int) then (if 0 ≤ x8 then (if (rd x3 x8) < 0 then (some false) else (if (rd x3 x8) ≥ (x6.length : Int) then (some false) else (if 0 ≤ (rd x3 x8) then (if (rd x3 x8) < (x6.length : Int) then (if (rd x6 (rd x3 x8)) = 0 then (if x8 = 0 then (if (rd x3 x8) = 0 then (plnlaw4_FlowOrders.l0 k x3 x4 x5 (x6.set ((rd x3 x8) : Int).toNat (wrap64 (x8 + 1))) x7 (wrap64 (x8 + 1)) x327000 x327001 x327002 x327003 x327004) else (some false)) else (plnlaw4_FlowOrders.l0 k x3 x4 x5 (x6.set ((rd x3 x8) : Int).toNat (wrap64 (x8 + 1))) x7 (wrap64 (x8 + 1)) x327000 x327001 x327002 x327003 x327004)) else (some false)) else (none)) else (none)))) else (none)) else (plnlaw4_FlowOrders.l1 k x4 x5 x6 x7 false 0 x327000 x327001 x327002 x327003 x327004)
def plnlaw4_FlowOrders.l1 : Nat → List Bool → List (List Int) → List Int → Int → Bool → Int → ByteArray → Bool → List Int → Int → List (S54) → Option (Bool)
 | 0, _, _, _, _, _, _, _, _, _, _, _ => none
 | k + 1, x4, x5, x6, x7, x9, x10, x327000, x327001, x327002, x327003, x327004 => if x10 < (x4.length : Int) then (if 0 ≤ x10 then (if x10 < (x6.length : Int) then (if ((rdOf false x4 x10) != (decide ((rd x6 x10) > 0))) = true then (some false) else (if rdOf false x4 x10 = true then (plnlaw4_FlowOrders.j3 k x4 x5 x6 x7 x9 x10 (x10 == 0) x327000 x327001 x327002 x327003 x327004) else (plnlaw4_FlowOrders.j3 k x4 x5 x6 x7 x9 x10 true x327000 x327001 x327002 x327003 x327004))) else (none)) else (none)) else ((flow_Loops.f k x327000 x327001 x327002 x327003 x327004).bind fun t351 => (if t351 = true then (some true) else (some (!x9))))
def plnlaw4_FlowOrders.j3 : Nat → List Bool → List (List Int) → List Int → Int → Bool → Int → Bool → ByteArray → Bool → List Int → Int → List (S54) → Option (Bool)
 | 0, _, _, _, _, _, _, _, _, _, _, _, _ => none
 | k + 1, x4, x5, x6, x7, x9, x10, x117, x327000, x327001, x327002, x327003, x327004 => if x117 = true then (plnlaw4_FlowOrders.l1 k x4 x5 x6 x7 x9 (wrap64 (x10 + 1)) x327000 x327001 x327002 x327003 x327004) else (plnlaw4_FlowOrders.l2 k x4 x5 x6 (wrap64 (x7 + 1)) x9 x10 false true 0 x327000 x327001 x327002 x327003 x327004)
def plnlaw4_FlowOrders.l2 : Nat → List Bool → List (List Int) → List Int → Int → Bool → Int → Bool → Bool → Int → ByteArray → Bool → List Int → Int → List (S54) → Option (Bool)
 | 0, _, _, _, _, _, _, _, _, _, _, _, _, _, _ => none
 | k + 1, x4, x5, x6, x7, x9, x10, x11, x12, x13, x327000, x327001, x327002, x327003, x327004 => if 0 ≤ x10 then (if x10 < (x5.length : Int) then (if x13 < ((rd_L1 x5 x10).length : Int) then (if 0 ≤ x13 then (if (rd (rd_L1 x5 x10) x13) ≥ 0 then (if (rd (rd_L1 x5 x10) x13) < (x6.length : Int) then (if 0 ≤ (rd (rd_L1 x5 x10) x13) then (if (rd x6 (rd (rd_L1 x5 x10) x13)) > 0 then (if x11 = true then (if x12 = true then (if x10 < (x6.length : Int) then (plnlaw4_FlowOrders.l2 k x4 x5 x6 x7 x9 x10 true (decide ((rd x6 (rd (rd_L1 x5 x10) x13)) < (rd x6 x10))) (wrap64 (x13 + 1)) x327000 x327001 x327002 x327003 x327004) else (none)) else (plnlaw4_FlowOrders.l2 k x4 x5 x6 x7 x9 x10 true false (wrap64 (x13 + 1)) x327000 x327001 x327002 x327003 x327004)) else (if x10 < (x6.length : Int) then (if x12 = true then (plnlaw4_FlowOrders.l2 k x4 x5 x6 x7 x9 x10 (decide ((rd x6 (rd (rd_L1 x5 x10) x13)) < (rd x6 x10))) (decide ((rd x6 (rd (rd_L1 x5 x10) x13)) < (rd x6 x10))) (wrap64 (x13 + 1)) x327000 x327001 x327002 x327003 x327004) else (plnlaw4_FlowOrders.l2 k x4 x5 x6 x7 x9 x10 (decide ((rd x6 (rd (rd_L1 x5 x10) x13)) < (rd x6 x10))) false (wrap64 (x13 + 1)) x327000 x327001 x327002 x327003 x327004)) else (none))) else (plnlaw4_FlowOrders.l2 k x4 x5 x6 x7 x9 x10 x11 x12 (wrap64 (x13 + 1)) x327000 x327001 x327002 x327003 x327004)) else (none)) else (plnlaw4_FlowOrders.l2 k x4 x5 x6 x7 x9 x10 x11 x12 (wrap64 (x13 + 1)) x327000 x327001 x327002 x327003 x327004)) else (plnlaw4_FlowOrders.l2 k x4 x5 x6 x7 x9 x10 x11 x12 (wrap64 (x13 + 1)) x327000 x327001 x327002 x327003 x327004)) else (none)) else (if x11 = true then (if x9 = true then (plnlaw4_FlowOrders.l1 k x4 x5 x6 x7 true (wrap64 (x10 + 1)) x327000 x327001 x327002 x327003 x327004) else (plnlaw4_FlowOrders.l1 k x4 x5 x6 x7 (!x12) (wrap64 (x10 + 1)) x327000 x327001 x327002 x327003 x327004)) else (some false))) else (none)) else (none)
end
def plnlaw4_FlowOrders.f (k : Nat) (a0_0 : ByteArray) (a0_1 : Bool) (l0_2 : List Int) (a0_3 : Int) (l0_4 : List (S54)) : Option (Bool) := (plnlaw4_first.f k).bind fun t327 => (if t327 = true then ((plnkeep_Light.f k a0_0 a0_1 l0_2 a0_3 l0_4).bind fun t328 => (if t328 = true then ((flow_Order.f k a0_0 a0_1 l0_2 a0_3 l0_4).bind fun t330 => ((flow_Reach.f k a0_0 a0_1 l0_2 a0_3 l0_4).bind fun t333 => ((flow_Prev.f k a0_0 a0_1 l0_2 a0_3 l0_4).bind fun t336 => (if (t333.length : Int) = (l0_4.length : Int) then (plnlaw4_FlowOrders.j0 k t330 t333 t336 ((t336.length : Int) != (l0_4.length : Int)) a0_0 a0_1 l0_2 a0_3 l0_4) else (plnlaw4_FlowOrders.j0 k t330 t333 t336 true a0_0 a0_1 l0_2 a0_3 l0_4))))) else ((plnlaw4_first.f k).bind fun t329 => (some t329)))) else (some false))
theorem plnlaw4_FlowOrders.mono_l : ∀ k, (∀ y0 y1 y2 y3 y4 y5 y6 y7 y8, LeO (plnlaw4_FlowOrders.j0 k y0 y1 y2 y3 y4 y5 y6 y7 y8) (plnlaw4_FlowOrders.j0 (k + 1) y0 y1 y2 y3 y4 y5 y6 y7 y8)) ∧ (∀ y0 y1 y2 y3 y4 y5 y6 y7 y8 y9 y10, LeO (plnlaw4_FlowOrders.l0 k y0 y1 y2 y3 y4 y5 y6 y7 y8 y9 y10) (plnlaw4_FlowOrders.l0 (k + 1) y0 y1 y2 y3 y4 y5 y6 y7 y8 y9 y10)) ∧ (∀ y0 y1 y2 y3 y4 y5 y6 y7 y8 y9 y10, LeO (plnlaw4_FlowOrders.l1 k y0 y1 y2 y3 y4 y5 y6 y7 y8 y9 y10) (plnlaw4_FlowOrders.l1 (k + 1) y0 y1 y2 y3 y4 y5 y6 y7 y8 y9 y10)) ∧ (∀ y0 y1 y2 y3 y4 y5 y6 y7 y8 y9 y10 y11, LeO (plnlaw4_FlowOrders.j3 k y0 y1 y2 y3 y4 y5 y6 y7 y8 y9 y10 y11) (plnlaw4_FlowOrders.j3 (k + 1) y0 y1 y2 y3 y4 y5 y6 y7 y8 y9 y10 y11)) ∧ (∀ y0 y1 y2 y3 y4 y5 y6 y7 y8 y9 y10 y11 y12 y13, LeO (plnlaw4_FlowOrders.l2 k y0 y1 y2 y3 y4 y5 y6 y7 y8 y9 y10 y11 y12 y13) (plnlaw4_FlowOrders.l2 (k + 1) y0 y1 y2 y3 y4 y5 y6 y7 y8 y9 y10 y11 y12 y13))
 | 0 => ⟨fun _ _ _ _ _ _ _ _ _ r h => by simp [plnlaw4_FlowOrders.j0] at h, fun _ _ _ _ _ _ _ _ _ _ _ r h => by simp [plnlaw4_FlowOrders.l0] at h, fun _ _ _ _ _ _ _ _ _ _ _ r h => by simp [plnlaw4_FlowOrders.l1] at h, fun _ _ _ _ _ _ _ _ _ _ _ _ r h => by simp [plnlaw4_FlowOrders.j3] at h, fun _ _ _ _ _ _ _ _ _ _ _ _ _ _ r h => by simp [plnlaw4_FlowOrders.l2] at h⟩
 | k + 1 => by
  obtain ⟨ih0, ih1, ih2, ih3, ih4⟩ := plnlaw4_FlowOrders.mono_l k
  refine ⟨?_, ?_, ?_, ?_, ?_⟩
  ·intro y0 y1 y2 y3 y4 y5 y6 y7 y8
   unfold plnlaw4_FlowOrders.j0
   repeat' first
   | (with_reducible exact ih0 _ _ _ _ _ _ _ _ _)
   | (with_reducible exact ih1 _ _ _ _ _ _ _ _ _ _ _)
   | (with_reducible exact ih2 _ _ _ _ _ _ _ _ _ _ _)
   | (with_reducible exact ih3 _ _ _ _ _ _ _ _ _ _ _ _)
   | (with_reducible exact ih4 _ _ _ _ _ _ _ _ _ _ _ _ _ _)
   | (with_reducible exact flow_Loops.mono _ _ _ _ _ _)
   | (with_reducible exact flow_Order.mono _ _ _ _ _ _)
   | (with_reducible exact flow_Prev.mono _ _ _ _ _ _)
   | (with_reducible exact flow_Reach.mono _ _ _ _ _ _)
   | (with_reducible exact plnkeep_Light.mono _ _ _ _ _ _)
   | (with_reducible exact plnlaw4_first.mono _)
   | (with_reducible exact LeO.refl _)
   | (with_reducible exact LeO.none _)
   | (with_reducible refine LeO.ite ?_ ?_)
   | (with_reducible refine LeO.bind ?_ (fun _ => ?_))
   | exact ih0 _ _ _ _ _ _ _ _ _
   | exact ih1 _ _ _ _ _ _ _ _ _ _ _
   | exact ih2 _ _ _ _ _ _ _ _ _ _ _
   | exact ih3 _ _ _ _ _ _ _ _ _ _ _ _
   | exact ih4 _ _ _ _ _ _ _ _ _ _ _ _ _ _
   | exact flow_Loops.mono _ _ _ _ _ _
   | exact flow_Order.mono _ _ _ _ _ _
   | exact flow_Prev.mono _ _ _ _ _ _
   | exact flow_Reach.mono _ _ _ _ _ _
   | exact plnkeep_Light.mono _ _ _ _ _ _
   | exact plnlaw4_first.mono _
   | exact LeO.none _
   | refine LeO.ite ?_ ?_
   | refine LeO.bind ?_ (fun _ => ?_)
  ·intro y0 y1 y2 y3 y4 y5 y6 y7 y8 y9 y10
   unfold plnlaw4_FlowOrders.l0
   repeat' first
   | (with_reducible exact ih0 _ _ _ _ _ _ _ _ _)
   | (with_reducible exact ih1 _ _ _ _ _ _ _ _ _ _ _)
   | (with_reducible exact ih2 _ _ _ _ _ _ _ _ _ _ _)
   | (with_reducible exact ih3 _ _ _ _ _ _ _ _ _ _ _ _)
   | (with_reducible exact ih4 _ _ _ _ _ _ _ _ _ _ _ _ _ _)
   | (with_reducible exact flow_Loops.mono _ _ _ _ _ _)
   | (with_reducible exact flow_Order.mono _ _ _ _ _ _)
   | (with_reducible exact flow_Prev.mono _ _ _ _ _ _)
   | (with_reducible exact flow_Reach.mono _ _ _ _ _ _)
   | (with_reducible exact plnkeep_Light.mono _ _ _ _ _ _)
   | (with_reducible exact plnlaw4_first.mono _)
   | (with_reducible exact LeO.refl _)
   | (with_reducible exact LeO.none _)
   | (with_reducible refine LeO.ite ?_ ?_)
   | (with_reducible refine LeO.bind ?_ (fun _ => ?_))
   | exact ih0 _ _ _ _ _ _ _ _ _
   | exact ih1 _ _ _ _ _ _ _ _ _ _ _
   | exact ih2 _ _ _ _ _ _ _ _ _ _ _
   | exact ih3 _ _ _ _ _ _ _ _ _ _ _ _
   | exact ih4 _ _ _ _ _ _ _ _ _ _ _ _ _ _
   | exact flow_Loops.mono _ _ _ _ _ _
   | exact flow_Order.mono _ _ _ _ _ _
   | exact flow_Prev.mono _ _ _ _ _ _
   | exact flow_Reach.mono _ _ _ _ _ _
   | exact plnkeep_Light.mono _ _ _ _ _ _
   | exact plnlaw4_first.mono _
   | exact LeO.none _
   | refine LeO.ite ?_ ?_
   | refine LeO.bind ?_ (fun _ => ?_)
  ·intro y0 y1 y2 y3 y4 y5 y6 y7 y8 y9 y10
   unfold plnlaw4_FlowOrders.l1
   repeat' first
   | (with_reducible exact ih0 _ _ _ _ _ _ _ _ _)
   | (with_reducible exact ih1 _ _ _ _ _ _ _ _ _ _ _)
   | (with_reducible exact ih2 _ _ _ _ _ _ _ _ _ _ _)
   | (with_reducible exact ih3 _ _ _ _ _ _ _ _ _ _ _ _)
   | (with_reducible exact ih4 _ _ _ _ _ _ _ _ _ _ _ _ _ _)
   | (with_reducible exact flow_Loops.mono _ _ _ _ _ _)
   | (with_reducible exact flow_Order.mono _ _ _ _ _ _)
   | (with_reducible exact flow_Prev.mono _ _ _ _ _ _)
   | (with_reducible exact flow_Reach.mono _ _ _ _ _ _)
   | (with_reducible exact plnkeep_Light.mono _ _ _ _ _ _)
   | (with_reducible exact plnlaw4_first.mono _)
   | (with_reducible exact LeO.refl _)
   | (with_reducible exact LeO.none _)
   | (with_reducible refine LeO.ite ?_ ?_)
   | (with_reducible refine LeO.bind ?_ (fun _ => ?_))
   | exact ih0 _ _ _ _ _ _ _ _ _
   | exact ih1 _ _ _ _ _ _ _ _ _ _ _
   | exact ih2 _ _ _ _ _ _ _ _ _ _ _
   | exact ih3 _ _ _ _ _ _ _ _ _ _ _ _
   | exact ih4 _ _ _ _ _ _ _ _ _ _ _ _ _ _
   | exact flow_Loops.mono _ _ _ _ _ _
   | exact flow_Order.mono _ _ _ _ _ _
   | exact flow_Prev.mono _ _ _ _ _ _
   | exact flow_Reach.mono _ _ _ _ _ _
   | exact plnkeep_Light.mono _ _ _ _ _ _
   | exact plnlaw4_first.mono _
   | exact LeO.none _
   | refine LeO.ite ?_ ?_
   | refine LeO.bind ?_ (fun _ => ?_)
  ·intro y0 y1 y2 y3 y4 y5 y6 y7 y8 y9 y10 y11
   unfold plnlaw4_FlowOrders.j3
   repeat' first
   | (with_reducible exact ih0 _ _ _ _ _ _ _ _ _)
   | (with_reducible exact ih1 _ _ _ _ _ _ _ _ _ _ _)
   | (with_reducible exact ih2 _ _ _ _ _ _ _ _ _ _ _)
   | (with_reducible exact ih3 _ _ _ _ _ _ _ _ _ _ _ _)
   | (with_reducible exact ih4 _ _ _ _ _ _ _ _ _ _ _ _ _ _)
   | (with_reducible exact flow_Loops.mono _ _ _ _ _ _)
   | (with_reducible exact flow_Order.mono _ _ _ _ _ _)
   | (with_reducible exact flow_Prev.mono _ _ _ _ _ _)
   | (with_reducible exact flow_Reach.mono _ _ _ _ _ _)
   | (with_reducible exact plnkeep_Light.mono _ _ _ _ _ _)
   | (with_reducible exact plnlaw4_first.mono _)
   | (with_reducible exact LeO.refl _)
   | (with_reducible exact LeO.none _)
   | (with_reducible refine LeO.ite ?_ ?_)
   | (with_reducible refine LeO.bind ?_ (fun _ => ?_))
   | exact ih0 _ _ _ _ _ _ _ _ _
   | exact ih1 _ _ _ _ _ _ _ _ _ _ _
   | exact ih2 _ _ _ _ _ _ _ _ _ _ _
   | exact ih3 _ _ _ _ _ _ _ _ _ _ _ _
   | exact ih4 _ _ _ _ _ _ _ _ _ _ _ _ _ _
   | exact flow_Loops.mono _ _ _ _ _ _
   | exact flow_Order.mono _ _ _ _ _ _
   | exact flow_Prev.mono _ _ _ _ _ _
   | exact flow_Reach.mono _ _ _ _ _ _
   | exact plnkeep_Light.mono _ _ _ _ _ _
   | exact plnlaw4_first.mono _
   | exact LeO.none _
   | refine LeO.ite ?_ ?_
   | refine LeO.bind ?_ (fun _ => ?_)
  ·intro y0 y1 y2 y3 y4 y5 y6 y7 y8 y9 y10 y11 y12 y13
   unfold plnlaw4_FlowOrders.l2
   repeat' first
   | (with_reducible exact ih0 _ _ _ _ _ _ _ _ _)
   | (with_reducible exact ih1 _ _ _ _ _ _ _ _ _ _ _)
   | (with_reducible exact ih2 _ _ _ _ _ _ _ _ _ _ _)
   | (with_reducible exact ih3 _ _ _ _ _ _ _ _ _ _ _ _)
   | (with_reducible exact ih4 _ _ _ _ _ _ _ _ _ _ _ _ _ _)
   | (with_reducible exact flow_Loops.mono _ _ _ _ _ _)
   | (with_reducible exact flow_Order.mono _ _ _ _ _ _)
   | (with_reducible exact flow_Prev.mono _ _ _ _ _ _)
   | (with_reducible exact flow_Reach.mono _ _ _ _ _ _)
   | (with_reducible exact plnkeep_Light.mono _ _ _ _ _ _)
   | (with_reducible exact plnlaw4_first.mono _)
   | (with_reducible exact LeO.refl _)
   | (with_reducible exact LeO.none _)
   | (with_reducible refine LeO.ite ?_ ?_)
   | (with_reducible refine LeO.bind ?_ (fun _ => ?_))
   | exact ih0 _ _ _ _ _ _ _ _ _
   | exact ih1 _ _ _ _ _ _ _ _ _ _ _
   | exact ih2 _ _ _ _ _ _ _ _ _ _ _
   | exact ih3 _ _ _ _ _ _ _ _ _ _ _ _
   | exact ih4 _ _ _ _ _ _ _ _ _ _ _ _ _ _
   | exact flow_Loops.mono _ _ _ _ _ _
   | exact flow_Order.mono _ _ _ _ _ _
   | exact flow_Prev.mono _ _ _ _ _ _
   | exact flow_Reach.mono _ _ _ _ _ _
   | exact plnkeep_Light.mono _ _ _ _ _ _
   | exact plnlaw4_first.mono _
   | exact LeO.none _
   | refine LeO.ite ?_ ?_
   | refine LeO.bind ?_ (fun _ => ?_)
theorem plnlaw4_FlowOrders.mono : ∀ a0 a1 a2 a3 a4 k, LeO (plnlaw4_FlowOrders.f k a0 a1 a2 a3 a4) (plnlaw4_FlowOrders.f (k + 1) a0 a1 a2 a3 a4) := by
 intro a0 a1 a2 a3 a4 k
 obtain ⟨ih0, ih1, ih2, ih3, ih4⟩ := plnlaw4_FlowOrders.mono_l k
 unfold plnlaw4_FlowOrders.f
 repeat' first
   | (with_reducible exact ih0 _ _ _ _ _ _ _ _ _)
   | (with_reducible exact ih1 _ _ _ _ _ _ _ _ _ _ _)
   | (with_reducible exact ih2 _ _ _ _ _ _ _ _ _ _ _)
   | (with_reducible exact ih3 _ _ _ _ _ _ _ _ _ _ _ _)
   | (with_reducible exact ih4 _ _ _ _ _ _ _ _ _ _ _ _ _ _)
   | (with_reducible exact flow_Loops.mono _ _ _ _ _ _)
   | (with_reducible exact flow_Order.mono _ _ _ _ _ _)
   | (with_reducible exact flow_Prev.mono _ _ _ _ _ _)
   | (with_reducible exact flow_Reach.mono _ _ _ _ _ _)
   | (with_reducible exact plnkeep_Light.mono _ _ _ _ _ _)
   | (with_reducible exact plnlaw4_first.mono _)
   | (with_reducible exact LeO.refl _)
   | (with_reducible exact LeO.none _)
   | (with_reducible refine LeO.ite ?_ ?_)
   | (with_reducible refine LeO.bind ?_ (fun _ => ?_))
   | exact ih0 _ _ _ _ _ _ _ _ _
   | exact ih1 _ _ _ _ _ _ _ _ _ _ _
   | exact ih2 _ _ _ _ _ _ _ _ _ _ _
   | exact ih3 _ _ _ _ _ _ _ _ _ _ _ _
   | exact ih4 _ _ _ _ _ _ _ _ _ _ _ _ _ _
   | exact flow_Loops.mono _ _ _ _ _ _
   | exact flow_Order.mono _ _ _ _ _ _
   | exact flow_Prev.mono _ _ _ _ _ _
   | exact flow_Reach.mono _ _ _ _ _ _
   | exact plnkeep_Light.mono _ _ _ _ _ _
   | exact plnlaw4_first.mono _
   | exact LeO.none _
   | refine LeO.ite ?_ ?_
   | refine LeO.bind ?_ (fun _ => ?_)
def plnlaw4_FlowOrders.T5 : Bool × List (List Nat × List Nat) := (true, [([], []), ([0], [0]), ([], []), ([2, 1], [2]), ([], []), ([4, 3], [4]), ([1, 5, 0, 1], [1]), ([3, 6, 0, 1, 2, 3, 6], [3]), ([5, 7, 0, 1, 2, 3, 4, 5, 6, 7], [5])])
def plnlaw4_FlowOrders.B5 : List Nat := [0, 1, 0, 7, 0, 31, 63, 127, 255]
theorem plnlaw4_FlowOrders.tab5 : rtab .any (opsOf Try.f4 5) = plnlaw4_FlowOrders.T5 := by kernel_rfl
theorem plnlaw4_FlowOrders.bits5 : waitsOk plnlaw4_FlowOrders.T5.2 plnlaw4_FlowOrders.B5 = true := by kernel_rfl
def plnlaw4_FlowOrders.T20 : Bool × List (List Nat × List Nat) := (true, [([], []), ([], []), ([0, 1], [0, 1]), ([2], [2]), ([], []), ([], []), ([4, 5], [4, 5]), ([6], [6]), ([7], [7]), ([3, 8], [3, 8])])
def plnlaw4_FlowOrders.B20 : List Nat := [0, 0, 3, 7, 0, 0, 48, 112, 240, 511]
theorem plnlaw4_FlowOrders.tab20 : rtab .any (opsOf Try.f4 20) = plnlaw4_FlowOrders.T20 := by kernel_rfl
theorem plnlaw4_FlowOrders.bits20 : waitsOk plnlaw4_FlowOrders.T20.2 plnlaw4_FlowOrders.B20 = true := by kernel_rfl
def plnlaw4_FlowOrders.T30 : Bool × List (List Nat × List Nat) := (true, [([], []), ([0], [0]), ([1], [1]), ([1], [1]), ([2, 3, 1], [1, 2, 3]), ([4, 1], [1, 4]), ([1], [1]), ([1], [1]), ([6, 7, 1], [1, 6, 7]), ([8, 1], [1, 8]), ([5, 9, 1], [1, 5, 9]), ([1, 10], [1, 10]), ([11, 1, 0, 1, 2, 3, 4, 5, 6, 7, 8, 9, 10, 11], [0, 11])])
def plnlaw4_FlowOrders.B30 : List Nat := [0, 1, 3, 3, 15, 31, 3, 3, 195, 451, 1023, 2047, 4095]
theorem plnlaw4_FlowOrders.tab30 : rtab .any (opsOf Try.f4 30) = plnlaw4_FlowOrders.T30 := by kernel_rfl
theorem plnlaw4_FlowOrders.bits30 : waitsOk plnlaw4_FlowOrders.T30.2 plnlaw4_FlowOrders.B30 = true := by kernel_rfl
def plnlaw4_FlowOrders.T31 : Bool × List (List Nat × List Nat) := (true, [([], []), ([0], [0]), ([1], [1]), ([1], [1]), ([2, 3, 1], [1, 2, 3]), ([4, 1], [1, 4]), ([1], [1]), ([1], [1]), ([6, 7, 1], [1, 6, 7]), ([8, 1], [1, 8]), ([5, 9, 1], [1, 5, 9]), ([1, 10], [1, 10]), ([11, 1, 0, 1, 2, 3, 4, 5, 6, 7, 8, 9, 10, 11], [0, 11])])
def plnlaw4_FlowOrders.B31 : List Nat := [0, 1, 3, 3, 15, 31, 3, 3, 195, 451, 1023, 2047, 4095]
theorem plnlaw4_FlowOrders.tab31 : rtab .any (opsOf Try.f4 31) = plnlaw4_FlowOrders.T31 := by kernel_rfl
theorem plnlaw4_FlowOrders.bits31 : waitsOk plnlaw4_FlowOrders.T31.2 plnlaw4_FlowOrders.B31 = true := by kernel_rfl
set_option maxHeartbeats 8000000 in
set_option maxRecDepth 100000 in
theorem plnlaw4_FlowOrders.calls (k : Nat) (a0_0 : ByteArray) (a0_1 : Bool) (A0_2 : Option Addr) (c0_2 : Nat) (l0_2 : List Int) (a0_3 : Int) (A0_4 : Option Addr) (c0_4 : Nat) (l0_4 : List (S54)) (r : Bool) (w : World) (hr0_2 : Kd.C (Kd.int .i64) w A0_2 l0_2.length l0_2) (hc0_2 : l0_2.length ≤ c0_2) (hr0_4 : Kd.C k54 w A0_4 l0_4.length l0_4) (hc0_4 : l0_4.length ≤ c0_4) (h : plnlaw4_FlowOrders.f k a0_0 a0_1 l0_2 a0_3 l0_4 = some r) :
  Calls Try.prog 4 #[.agg #[.string a0_0, .bool a0_1, .slice A0_2 l0_2.length c0_2, .int .i64 a0_3, .slice A0_4 l0_4.length c0_4]] w fun e w' => e = .returned (.bool r) ∧ Below w.heap.size w w' := by
 have hu25 := Try.underlying25
 have HR0_2 := Aside0.mk hr0_2
 have HC0_2 := Aside0.mk hc0_2
 clear hr0_2 hc0_2
 have HR0_4 := Aside0.mk hr0_4
 have HC0_4 := Aside0.mk hc0_4
 clear hr0_4 hc0_4; have HB := Aside0.mk (Below.refl w.heap.size w)
 have H : ((plnlaw4_first.f k).bind fun t327 => (if t327 = true then ((plnkeep_Light.f k a0_0 a0_1 l0_2 a0_3 l0_4).bind fun t328 => (if t328 = true then ((flow_Order.f k a0_0 a0_1 l0_2 a0_3 l0_4).bind fun t330 => ((flow_Reach.f k a0_0 a0_1 l0_2 a0_3 l0_4).bind fun t333 => ((flow_Prev.f k a0_0 a0_1 l0_2 a0_3 l0_4).bind fun t336 => (if (t333.length : Int) = (l0_4.length : Int) then (plnlaw4_FlowOrders.j0 k t330 t333 t336 ((t336.length : Int) != (l0_4.length : Int)) a0_0 a0_1 l0_2 a0_3 l0_4) else (plnlaw4_FlowOrders.j0 k t330 t333 t336 true a0_0 a0_1 l0_2 a0_3 l0_4))))) else ((plnlaw4_first.f k).bind fun t329 => (some t329)))) else (some false))) = some r := h
 clear h
 replace H := Option.bind_eq_some_iff.mp H
 obtain ⟨t327, A20, H⟩ := H
 replace H : (if t327 = true then ((plnkeep_Light.f k a0_0 a0_1 l0_2 a0_3 l0_4).bind fun t328 => (if t328 = true then ((flow_Order.f k a0_0 a0_1 l0_2 a0_3 l0_4).bind fun t330 => ((flow_Reach.f k a0_0 a0_1 l0_2 a0_3 l0_4).bind fun t333 => ((flow_Prev.f k a0_0 a0_1 l0_2 a0_3 l0_4).bind fun t336 => (if (t333.length : Int) = (l0_4.length : Int) then (plnlaw4_FlowOrders.j0 k t330 t333 t336 ((t336.length : Int) != (l0_4.length : Int)) a0_0 a0_1 l0_2 a0_3 l0_4) else (plnlaw4_FlowOrders.j0 k t330 t333 t336 true a0_0 a0_1 l0_2 a0_3 l0_4))))) else ((plnlaw4_first.f k).bind fun t329 => (some t329)))) else (some false)) = some r := H
 have A2 := Aside0.mk A20
 clear A20
 by_cases c3 : t327 = true
 ·subst c3
  have H1 : ((plnkeep_Light.f k a0_0 a0_1 l0_2 a0_3 l0_4).bind fun t328 => (if t328 = true then ((flow_Order.f k a0_0 a0_1 l0_2 a0_3 l0_4).bind fun t330 => ((flow_Reach.f k a0_0 a0_1 l0_2 a0_3 l0_4).bind fun t333 => ((flow_Prev.f k a0_0 a0_1 l0_2 a0_3 l0_4).bind fun t336 => (if (t333.length : Int) = (l0_4.length : Int) then (plnlaw4_FlowOrders.j0 k t330 t333 t336 ((t336.length : Int) != (l0_4.length : Int)) a0_0 a0_1 l0_2 a0_3 l0_4) else (plnlaw4_FlowOrders.j0 k t330 t333 t336 true a0_0 a0_1 l0_2 a0_3 l0_4))))) else ((plnlaw4_first.f k).bind fun t329 => (some t329)))) = some r := by rw [if_pos rfl] at H; exact H
  clear H; have H := H1; clear H1
  replace H := Option.bind_eq_some_iff.mp H
  obtain ⟨t328, A40, H⟩ := H
  replace H : (if t328 = true then ((flow_Order.f k a0_0 a0_1 l0_2 a0_3 l0_4).bind fun t330 => ((flow_Reach.f k a0_0 a0_1 l0_2 a0_3 l0_4).bind fun t333 => ((flow_Prev.f k a0_0 a0_1 l0_2 a0_3 l0_4).bind fun t336 => (if (t333.length : Int) = (l0_4.length : Int) then (plnlaw4_FlowOrders.j0 k t330 t333 t336 ((t336.length : Int) != (l0_4.length : Int)) a0_0 a0_1 l0_2 a0_3 l0_4) else (plnlaw4_FlowOrders.j0 k t330 t333 t336 true a0_0 a0_1 l0_2 a0_3 l0_4))))) else ((plnlaw4_first.f k).bind fun t329 => (some t329))) = some r := H
  have A4 := Aside0.mk A40
  clear A40
  by_cases c5 : t328 = true
  ·subst c5
   have H1 : ((flow_Order.f k a0_0 a0_1 l0_2 a0_3 l0_4).bind fun t330 => ((flow_Reach.f k a0_0 a0_1 l0_2 a0_3 l0_4).bind fun t333 => ((flow_Prev.f k a0_0 a0_1 l0_2 a0_3 l0_4).bind fun t336 => (if (t333.length : Int) = (l0_4.length : Int) then (plnlaw4_FlowOrders.j0 k t330 t333 t336 ((t336.length : Int) != (l0_4.length : Int)) a0_0 a0_1 l0_2 a0_3 l0_4) else (plnlaw4_FlowOrders.j0 k t330 t333 t336 true a0_0 a0_1 l0_2 a0_3 l0_4))))) = some r := by rw [if_pos rfl] at H; exact H
   clear H; have H := H1; clear H1
   replace H := Option.bind_eq_some_iff.mp H
   obtain ⟨t330, A60, H⟩ := H
   replace H : ((flow_Reach.f k a0_0 a0_1 l0_2 a0_3 l0_4).bind fun t333 => ((flow_Prev.f k a0_0 a0_1 l0_2 a0_3 l0_4).bind fun t336 => (if (t333.length : Int) = (l0_4.length : Int) then (plnlaw4_FlowOrders.j0 k t330 t333 t336 ((t336.length : Int) != (l0_4.length : Int)) a0_0 a0_1 l0_2 a0_3 l0_4) else (plnlaw4_FlowOrders.j0 k t330 t333 t336 true a0_0 a0_1 l0_2 a0_3 l0_4)))) = some r := H
   have A6 := Aside0.mk A60
   clear A60
   replace H := Option.bind_eq_some_iff.mp H
   obtain ⟨t333, A70, H⟩ := H
   replace H : ((flow_Prev.f k a0_0 a0_1 l0_2 a0_3 l0_4).bind fun t336 => (if (t333.length : Int) = (l0_4.length : Int) then (plnlaw4_FlowOrders.j0 k t330 t333 t336 ((t336.length : Int) != (l0_4.length : Int)) a0_0 a0_1 l0_2 a0_3 l0_4) else (plnlaw4_FlowOrders.j0 k t330 t333 t336 true a0_0 a0_1 l0_2 a0_3 l0_4))) = some r := H
   have A7 := Aside0.mk A70
   clear A70
   replace H := Option.bind_eq_some_iff.mp H
   obtain ⟨t336, A80, H⟩ := H
   replace H : (if (t333.length : Int) = (l0_4.length : Int) then (plnlaw4_FlowOrders.j0 k t330 t333 t336 ((t336.length : Int) != (l0_4.length : Int)) a0_0 a0_1 l0_2 a0_3 l0_4) else (plnlaw4_FlowOrders.j0 k t330 t333 t336 true a0_0 a0_1 l0_2 a0_3 l0_4)) = some r := H
   have A8 := Aside0.mk A80
   clear A80
   have HC9 := Aside0.mk H
   clear H
   go_enter Try.func4, Try.ntmps4
   try go_wp2_with (first | ((with_reducible refine gate_dst (N := 1) rfl ?_); (try (refine gate_guard (by rfl) ?_; dsimp only)); refine box_event ?hg (N := 1) ?hd (cs := #[.string a0_0, .bool a0_1, .slice A0_2 l0_2.length c0_2, .int .i64 a0_3, .slice A0_4 l0_4.length c0_4]) (t := 25) ?hr ?_; (case hd => rfl); (case hg => rfl); (case hr => first | (go_simp; done) | (go_simp; rfl)); intro gb326 hg w10 hbox hb; have n0_ := Aside0.mk (below_step (by repeat (first | (with_reducible first | exact HB.out | apply below_alloc | apply pw_below_drewN | apply below_drew1) | exact HB.out)) hb); have n1_ := Aside0.mk (hbox); have n2_ := Aside0.mk ((by rw [hg]; exact (below_size (by repeat (first | (with_reducible first | exact HB.out | apply below_alloc | apply pw_below_drewN | apply below_drew1) | exact HB.out))) : w.heap.size ≤ gb326)); have n3_ := Aside0.mk ((by rw [hg]; exact (below_size (by repeat (first | (with_reducible first | exact HB.out | apply below_alloc | apply pw_below_drewN | apply below_drew1) | exact HB.out))) : w.heap.size ≤ gb326)); clear HB; have HB := n0_; have BK326 := n1_; have GW326 := n2_; have GE326 := n3_; clear n0_ n1_ n2_ n3_; clear hb hbox hg) | ((with_reducible refine gate_callee (f := 16) rfl ?_); refine goesL_ (some 15) rfl rfl Try.func16 (by kernel_rfl) rfl #[] rfl (by (try simp only [List.map_toArray, List.map_cons, List.map_nil]); first | done | rfl | (simp only [List.length_drop, List.length_take]; rfl)) ?_; (with_reducible refine (plnlaw4_first.calls k  true _ A2.out).mono ?_); rintro e w11 ⟨rfl, hb⟩; refine ⟨_, rfl, ?_⟩; have n0_ := Aside0.mk (blk_below (g := gb326) (o := .cells #[.string a0_0, .bool a0_1, .slice A0_2 l0_2.length c0_2, .int .i64 a0_3, .slice A0_4 l0_4.length c0_4] 25 (0, 0)) (by (with_reducible repeat (first | refine blk_drewN ?_ _ | refine blk_drew ?_ | refine blk_alloc ?_ _)); exact BK326.out) hb); have n1_ := Aside0.mk (below_step (by repeat (first | (with_reducible first | exact HB.out | apply below_alloc | apply pw_below_drewN | apply below_drew1 | refine below_set ?_ GE326.out) | exact HB.out)) hb); clear BK326; clear HB; have BK326 := n0_; have HB := n1_; clear n0_ n1_; (try clear hb); (try clear hb2); (try clear hk); (try clear hi); have hcz12_0 : w11.cell? ⟨gb326, 0, none⟩ = some (.string a0_0) := (blk_cell BK326.out 0).trans rfl; have hcz12_1 : w11.cell? ⟨gb326, 1, none⟩ = some (.bool a0_1) := (blk_cell BK326.out 1).trans rfl; have hcz12_2 : w11.cell? ⟨gb326, 2, none⟩ = some (.slice A0_2 l0_2.length c0_2) := (blk_cell BK326.out 2).trans rfl; have hcz12_3 : w11.cell? ⟨gb326, 3, none⟩ = some (.int .i64 a0_3) := (blk_cell BK326.out 3).trans rfl; have hcz12_4 : w11.cell? ⟨gb326, 4, none⟩ = some (.slice A0_4 l0_4.length c0_4) := (blk_cell BK326.out 4).trans rfl; have hfz12_0 := blk_frozen BK326.out 0; have hfz12_1 := blk_frozen BK326.out 1; have hfz12_2 := blk_frozen BK326.out 2; have hfz12_3 := blk_frozen BK326.out 3; have hfz12_4 := blk_frozen BK326.out 4) | ((with_reducible refine gate_callee (f := 17) rfl ?_); refine goesL_ (some 18) rfl rfl Try.func17 (by kernel_rfl) rfl #[.agg #[.string a0_0, .bool a0_1, .slice A0_2 l0_2.length c0_2, .int .i64 a0_3, .slice A0_4 l0_4.length c0_4]] rfl (by (try simp only [List.map_toArray, List.map_cons, List.map_nil]); first | done | rfl | (simp only [List.length_drop, List.length_take]; rfl)) ?_; (with_reducible refine (plnkeep_Light.calls k a0_0 a0_1 _ _ l0_2 a0_3 _ _ l0_4 true _ ?side1 ?side2 ?side3 ?side4 A4.out).mono ?_); (case side1 => repeat (first | exact (Kd.C_below HR0_2.out HB.out) | (with_reducible refine Kd.C_alloc ?_ _) | (with_reducible refine Kd.C_drewN ?_ _) | (with_reducible refine Kd.C_drew ?_))); (case side2 => exact HC0_2.out); (case side3 => repeat (first | exact (Kd.C_below HR0_4.out HB.out) | (with_reducible refine Kd.C_alloc ?_ _) | (with_reducible refine Kd.C_drewN ?_ _) | (with_reducible refine Kd.C_drew ?_))); (case side4 => exact HC0_4.out); rintro e w13 ⟨rfl, hb⟩; refine ⟨_, rfl, ?_⟩; have n0_ := Aside0.mk (blk_below (g := gb326) (o := .cells #[.string a0_0, .bool a0_1, .slice A0_2 l0_2.length c0_2, .int .i64 a0_3, .slice A0_4 l0_4.length c0_4] 25 (0, 0)) (by (with_reducible repeat (first | refine blk_drewN ?_ _ | refine blk_drew ?_ | refine blk_alloc ?_ _)); exact BK326.out) hb); have n1_ := Aside0.mk (below_step (by repeat (first | (with_reducible first | exact HB.out | apply below_alloc | apply pw_below_drewN | apply below_drew1 | refine below_set ?_ GE326.out) | exact HB.out)) hb); clear BK326; clear HB; have BK326 := n0_; have HB := n1_; clear n0_ n1_; (try clear hb); (try clear hb2); (try clear hk); (try clear hi)))
   have n0_ := Aside0.mk (blk_drew BK326.out); have n1_ := Aside0.mk (below_drew1 HB.out); clear BK326 HB; have BK326 := n0_; have HB := n1_; clear n0_ n1_
   refine start_ (n := 9) (S := fun w' => w'.cell? ⟨gb326, 0, none⟩ = some (.string a0_0) ∧ w'.cell? ⟨gb326, 1, none⟩ = some (.bool a0_1) ∧ w'.cell? ⟨gb326, 2, none⟩ = some (.slice A0_2 l0_2.length c0_2) ∧ w'.cell? ⟨gb326, 3, none⟩ = some (.int .i64 a0_3) ∧ w'.cell? ⟨gb326, 4, none⟩ = some (.slice A0_4 l0_4.length c0_4)) (ds := []) #[false, false, false, false, false, false, false, false, false] (by kernel_rfl) rfl rfl ⟨(blk_cell BK326.out 0).trans rfl, (blk_cell BK326.out 1).trans rfl, (blk_cell BK326.out 2).trans rfl, (blk_cell BK326.out 3).trans rfl, (blk_cell BK326.out 4).trans rfl⟩ (fun hHeld => ?_); refine with_tabW plnlaw4_FlowOrders.tab5 plnlaw4_FlowOrders.bits5 (fun HT_ HW_ => ?_)
   generalize w13.drew = w14 at BK326 HB hHeld ⊢
   refine take_ (i := 0) (N := some 21) (v := ?_) (a' := ?_) #[true, false, false, false, false, false, false, false, false] rfl rfl (take_ofW HT_.out HW_.out (by kernel_rfl)) (fun _ _ _ h => h) (Or.inl ⟨by rfl, ?_⟩) hHeld ?_ ?_
   rotate_left
   ·rintro w' ⟨s0, s1, s2, s3, s4⟩
    go_simp
    with_reducible rfl
   rotate_left
   ·simp only [Act.put, List.setIfInBounds_toArray, List.set_cons_zero, List.set_cons_succ, i64_w, i32_w]; rfl
   refine take_ (i := 2) (N := some 23) (v := ?_) (a' := ?_) #[true, false, true, false, false, false, false, false, false] rfl rfl (take_ofW HT_.out HW_.out (by kernel_rfl)) (fun _ _ _ h => h) (Or.inl ⟨by rfl, ?_⟩) hHeld ?_ ?_
   rotate_left
   ·rintro w' ⟨s0, s1, s2, s3, s4⟩
    go_simp
    with_reducible rfl
   rotate_left
   ·simp only [Act.put, List.setIfInBounds_toArray, List.set_cons_zero, List.set_cons_succ, i64_w, i32_w]; rfl
   refine take_ (i := 4) (N := some 25) (v := ?_) (a' := ?_) #[true, false, true, false, true, false, false, false, false] rfl rfl (take_ofW HT_.out HW_.out (by kernel_rfl)) (fun _ _ _ h => h) (Or.inl ⟨by rfl, ?_⟩) hHeld ?_ ?_
   rotate_left
   ·rintro w' ⟨s0, s1, s2, s3, s4⟩
    go_simp
    with_reducible rfl
   rotate_left
   ·simp only [Act.put, List.setIfInBounds_toArray, List.set_cons_zero, List.set_cons_succ, i64_w, i32_w]; rfl
   refine one_ (i := 1) (N := some 22) #[true, true, true, false, true, false, false, false, false] rfl rfl (one_of HT_.out (by kernel_rfl)) (by decide) (fun K hK => ?_)
   refine goes_ Try.func27 (by kernel_rfl) rfl #[.agg #[.string a0_0, .bool a0_1, .slice A0_2 l0_2.length c0_2, .int .i64 a0_3, .slice A0_4 l0_4.length c0_4]] (by rfl) rfl rfl (by (try simp only [List.map_toArray, List.map_cons, List.map_nil]); first | done | rfl | (simp only [List.length_drop, List.length_take]; rfl)) ?_
   with_reducible refine (flow_Order.calls k a0_0 a0_1 _ _ l0_2 a0_3 _ _ l0_4 t330 _ ?side1 ?side2 ?side3 ?side4 A6.out).mono ?_
   (case side1 => repeat (first | exact (Kd.C_below HR0_2.out HB.out) | (with_reducible refine Kd.C_alloc ?_ _) | (with_reducible refine Kd.C_drewN ?_ _) | (with_reducible refine Kd.C_drew ?_)))
   (case side2 => exact HC0_2.out)
   (case side3 => repeat (first | exact (Kd.C_below HR0_4.out HB.out) | (with_reducible refine Kd.C_alloc ?_ _) | (with_reducible refine Kd.C_drewN ?_ _) | (with_reducible refine Kd.C_drew ?_)))
   (case side4 => exact HC0_4.out)
   rintro e w15 ⟨v331, rfl, ho0, hb⟩
   refine ⟨_, rfl, ?_⟩
   have n0_ := Aside0.mk (Kd.R_lower ho0 (below_size (by repeat (first | (with_reducible first | exact HB.out | apply below_alloc | apply pw_below_drewN | apply below_drew1 | refine below_set ?_ GE326.out) | exact HB.out)))); have n1_ := Aside0.mk (blk_below (g := gb326) (o := .cells #[.string a0_0, .bool a0_1, .slice A0_2 l0_2.length c0_2, .int .i64 a0_3, .slice A0_4 l0_4.length c0_4] 25 (0, 0)) (by (with_reducible repeat (first | refine blk_drewN ?_ _ | refine blk_drew ?_ | refine blk_alloc ?_ _)); exact BK326.out) hb); have n2_ := Aside0.mk (below_step (by repeat (first | (with_reducible first | exact HB.out | apply below_alloc | apply pw_below_drewN | apply below_drew1 | refine below_set ?_ GE326.out) | exact HB.out)) hb); clear BK326 HB; have HO332 := n0_; have BK326 := n1_; have HB := n2_; clear n0_ n1_ n2_; (try clear hb); (try clear hb2); (try clear hk); (try clear hi); (try clear ho0)
   refine hK.out _ _ ⟨(blk_cell BK326.out 0).trans rfl, (blk_cell BK326.out 1).trans rfl, (blk_cell BK326.out 2).trans rfl, (blk_cell BK326.out 3).trans rfl, (blk_cell BK326.out 4).trans rfl⟩ (fun hHeld => ?_)
   clear hK K; refine norm_ (a' := ?_) ?_ ?_; rotate_left
   ·show Act.put _ (some 22) _ = _; simp only [Act.put, List.setIfInBounds_toArray, List.set_cons_zero, List.set_cons_succ, i64_w, i32_w]; rfl
   refine one_ (i := 3) (N := some 24) #[true, true, true, true, true, false, false, false, false] rfl rfl (one_of HT_.out (by kernel_rfl)) (by decide) (fun K hK => ?_)
   refine goes_ Try.func25 (by kernel_rfl) rfl #[.agg #[.string a0_0, .bool a0_1, .slice A0_2 l0_2.length c0_2, .int .i64 a0_3, .slice A0_4 l0_4.length c0_4]] (by rfl) rfl rfl (by (try simp only [List.map_toArray, List.map_cons, List.map_nil]); first | done | rfl | (simp only [List.length_drop, List.length_take]; rfl)) ?_
   with_reducible refine (flow_Reach.calls k a0_0 a0_1 _ _ l0_2 a0_3 _ _ l0_4 t333 _ ?side1 ?side2 ?side3 ?side4 A7.out).mono ?_
   (case side1 => repeat (first | exact (Kd.C_below HR0_2.out HB.out) | (with_reducible refine Kd.C_alloc ?_ _) | (with_reducible refine Kd.C_drewN ?_ _) | (with_reducible refine Kd.C_drew ?_)))
   (case side2 => exact HC0_2.out)
   (case side3 => repeat (first | exact (Kd.C_below HR0_4.out HB.out) | (with_reducible refine Kd.C_alloc ?_ _) | (with_reducible refine Kd.C_drewN ?_ _) | (with_reducible refine Kd.C_drew ?_)))
   (case side4 => exact HC0_4.out)
   rintro e w16 ⟨v334, rfl, ho0, hb⟩
   refine ⟨_, rfl, ?_⟩
   have n0_ := Aside0.mk (Kd.R_below (by (with_reducible repeat (first | apply Kd.R_alloc | apply Kd.R_drewN | apply Kd.R_drew)); exact HO332.out) hb); have n1_ := Aside0.mk (Kd.R_lower ho0 (below_size (by repeat (first | (with_reducible first | exact HB.out | apply below_alloc | apply pw_below_drewN | apply below_drew1 | refine below_set ?_ GE326.out) | exact HB.out)))); have n2_ := Aside0.mk (blk_below (g := gb326) (o := .cells #[.string a0_0, .bool a0_1, .slice A0_2 l0_2.length c0_2, .int .i64 a0_3, .slice A0_4 l0_4.length c0_4] 25 (0, 0)) (by (with_reducible repeat (first | refine blk_drewN ?_ _ | refine blk_drew ?_ | refine blk_alloc ?_ _)); exact BK326.out) hb); have n3_ := Aside0.mk (below_step (by repeat (first | (with_reducible first | exact HB.out | apply below_alloc | apply pw_below_drewN | apply below_drew1 | refine below_set ?_ GE326.out) | exact HB.out)) hb); clear HO332 BK326 HB; have HO332 := n0_; have HO335 := n1_; have BK326 := n2_; have HB := n3_; clear n0_ n1_ n2_ n3_; (try clear hb); (try clear hb2); (try clear hk); (try clear hi); (try clear ho0)
   refine hK.out _ _ ⟨(blk_cell BK326.out 0).trans rfl, (blk_cell BK326.out 1).trans rfl, (blk_cell BK326.out 2).trans rfl, (blk_cell BK326.out 3).trans rfl, (blk_cell BK326.out 4).trans rfl⟩ (fun hHeld => ?_)
   clear hK K; refine norm_ (a' := ?_) ?_ ?_; rotate_left
   ·show Act.put _ (some 24) _ = _; simp only [Act.put, List.setIfInBounds_toArray, List.set_cons_zero, List.set_cons_succ, i64_w, i32_w]; rfl
   refine one_ (i := 5) (N := some 26) #[true, true, true, true, true, true, false, false, false] rfl rfl (one_of HT_.out (by kernel_rfl)) (by decide) (fun K hK => ?_)
   refine goes_ Try.func22 (by kernel_rfl) rfl #[.agg #[.string a0_0, .bool a0_1, .slice A0_2 l0_2.length c0_2, .int .i64 a0_3, .slice A0_4 l0_4.length c0_4]] (by rfl) rfl rfl (by (try simp only [List.map_toArray, List.map_cons, List.map_nil]); first | done | rfl | (simp only [List.length_drop, List.length_take]; rfl)) ?_
   with_reducible refine (flow_Prev.calls k a0_0 a0_1 _ _ l0_2 a0_3 _ _ l0_4 t336 _ ?side1 ?side2 ?side3 ?side4 A8.out).mono ?_
   (case side1 => repeat (first | exact (Kd.C_below HR0_2.out HB.out) | (with_reducible refine Kd.C_alloc ?_ _) | (with_reducible refine Kd.C_drewN ?_ _) | (with_reducible refine Kd.C_drew ?_)))
   (case side2 => exact HC0_2.out)
   (case side3 => repeat (first | exact (Kd.C_below HR0_4.out HB.out) | (with_reducible refine Kd.C_alloc ?_ _) | (with_reducible refine Kd.C_drewN ?_ _) | (with_reducible refine Kd.C_drew ?_)))
   (case side4 => exact HC0_4.out)
   rintro e w17 ⟨v337, rfl, ho0, hb⟩
   refine ⟨_, rfl, ?_⟩
   have n0_ := Aside0.mk (Kd.R_below (by (with_reducible repeat (first | apply Kd.R_alloc | apply Kd.R_drewN | apply Kd.R_drew)); exact HO332.out) hb); have n1_ := Aside0.mk (Kd.R_below (by (with_reducible repeat (first | apply Kd.R_alloc | apply Kd.R_drewN | apply Kd.R_drew)); exact HO335.out) hb); have n2_ := Aside0.mk (Kd.S_lower (Kd.S_new' ho0 (Kd.R_lt (by (with_reducible repeat (first | apply Kd.R_alloc | apply Kd.R_drewN | apply Kd.R_drew)); exact HO332.out))) (below_size (by repeat (first | (with_reducible first | exact HB.out | apply below_alloc | apply pw_below_drewN | apply below_drew1 | refine below_set ?_ GE326.out) | exact HB.out)))); have n3_ := Aside0.mk (blk_below (g := gb326) (o := .cells #[.string a0_0, .bool a0_1, .slice A0_2 l0_2.length c0_2, .int .i64 a0_3, .slice A0_4 l0_4.length c0_4] 25 (0, 0)) (by (with_reducible repeat (first | refine blk_drewN ?_ _ | refine blk_drew ?_ | refine blk_alloc ?_ _)); exact BK326.out) hb); have n4_ := Aside0.mk (below_step (by repeat (first | (with_reducible first | exact HB.out | apply below_alloc | apply pw_below_drewN | apply below_drew1 | refine below_set ?_ GE326.out) | exact HB.out)) hb); clear HO332 HO335 BK326 HB; have HO332 := n0_; have HO335 := n1_; have HO338 := n2_; have BK326 := n3_; have HB := n4_; clear n0_ n1_ n2_ n3_ n4_; (try clear hb); (try clear hb2); (try clear hk); (try clear hi); (try clear ho0)
   refine hK.out _ _ ⟨(blk_cell BK326.out 0).trans rfl, (blk_cell BK326.out 1).trans rfl, (blk_cell BK326.out 2).trans rfl, (blk_cell BK326.out 3).trans rfl, (blk_cell BK326.out 4).trans rfl⟩ (fun hHeld => ?_)
   clear hK K; refine norm_ (a' := ?_) ?_ ?_; rotate_left
   ·show Act.put _ (some 26) _ = _; simp only [Act.put, List.setIfInBounds_toArray, List.set_cons_zero, List.set_cons_succ, i64_w, i32_w]; rfl
   refine pure_ (i := 6) (N := some 3) (v := ?_) (a' := ?_) #[true, true, true, true, true, true, true, false, false] rfl rfl (any_of HT_.out (by kernel_rfl)) (fun _ _ _ h => h) (Or.inl ⟨by rfl, ?_⟩) ?_ ?_
   rotate_left
   ·intro w'
    go_simp
    with_reducible rfl
   rotate_left
   ·simp only [Act.put, List.setIfInBounds_toArray, List.set_cons_zero, List.set_cons_succ, i64_w, i32_w]; rfl
   refine pure_ (i := 7) (N := some 4) (v := ?_) (a' := ?_) #[true, true, true, true, true, true, true, true, false] rfl rfl (any_of HT_.out (by kernel_rfl)) (fun _ _ _ h => h) (Or.inl ⟨by rfl, ?_⟩) ?_ ?_
   rotate_left
   ·intro w'
    go_simp
    with_reducible rfl
   rotate_left
   ·simp only [Act.put, List.setIfInBounds_toArray, List.set_cons_zero, List.set_cons_succ, i64_w, i32_w]; rfl
   refine pure_ (i := 8) (N := some 5) (v := ?_) (a' := ?_) #[true, true, true, true, true, true, true, true, true] rfl rfl (any_of HT_.out (by kernel_rfl)) (fun _ _ _ h => h) (Or.inl ⟨by rfl, ?_⟩) ?_ ?_
   rotate_left
   ·intro w'
    go_simp
    with_reducible rfl
   rotate_left
   ·simp only [Act.put, List.setIfInBounds_toArray, List.set_cons_zero, List.set_cons_succ, i64_w, i32_w]; rfl
   refine done_ (done_of HT_.out (by kernel_rfl)) ?_
   go_upto_region 6 with (fail)
   go_cut [40] (fun v40 wc => ∃ (kq : Nat) (x40_8 : Bool), v40 = .bool x40_8 ∧ Aside0 (plnlaw4_FlowOrders.j0 kq t330 t333 t336 x40_8 a0_0 a0_1 l0_2 a0_3 l0_4 = some r) ∧ Aside0 (kq ≤ k) ∧ Aside0 (Kd.R (Kd.int .i64) 3 wc w.heap.size (fun _ => True) v331 t330) ∧ Aside0 (Kd.R Kd.bool 4 wc w.heap.size (fun _ => True) v334 t333) ∧ Aside0 (Kd.S (Kd.slice 3 (Kd.int .i64)) 22 wc w.heap.size (fun k_ => some k_ ≠ (v331 : Value).ownBlock) v337 t336) ∧ Aside0 (wc.heap[gb326]? = some (.cells #[.string a0_0, .bool a0_1, (.slice A0_2 l0_2.length c0_2), .int .i64 a0_3, (.slice A0_4 l0_4.length c0_4)] 25 (0, 0))) ∧ Aside0 (Below w.heap.size w wc))
   case first =>
    have H := HC9.out
    clear HC9
    by_cases c18 : (t333.length : Int) = (l0_4.length : Int)
    ·rw [if_pos c18] at H
     have c18b0 : ((t333.length : Int) == (l0_4.length : Int)) = true := beq_iff_eq.mpr c18
     have c18b1 : ((t333.length : Int) != (l0_4.length : Int)) = false := bne_eq_false_iff_eq.mpr c18
     have c18b2 : (t333.length == l0_4.length) = true := by first | simpa using c18 | (simp at c18 ⊢; omega)
     clear c18
     (first | rw [c18b0] | (simp only [i64_w, i32_w]; rw [c18b0]) | skip)
     have H' := Aside0.mk H
     clear H
     obtain ⟨Ao19, co19, eo19⟩ := Kd.R_slice HO335.out
     subst eo19
     have hcz20_0 : w17.cell? ⟨gb326, 0, none⟩ = some (.string a0_0) := (blk_cell BK326.out 0).trans rfl
     have hcz20_1 : w17.cell? ⟨gb326, 1, none⟩ = some (.bool a0_1) := (blk_cell BK326.out 1).trans rfl
     have hcz20_2 : w17.cell? ⟨gb326, 2, none⟩ = some (.slice A0_2 l0_2.length c0_2) := (blk_cell BK326.out 2).trans rfl
     have hcz20_3 : w17.cell? ⟨gb326, 3, none⟩ = some (.int .i64 a0_3) := (blk_cell BK326.out 3).trans rfl
     have hcz20_4 : w17.cell? ⟨gb326, 4, none⟩ = some (.slice A0_4 l0_4.length c0_4) := (blk_cell BK326.out 4).trans rfl
     have hfz20_0 := blk_frozen BK326.out 0
     have hfz20_1 := blk_frozen BK326.out 1
     have hfz20_2 := blk_frozen BK326.out 2
     have hfz20_3 := blk_frozen BK326.out 3
     have hfz20_4 := blk_frozen BK326.out 4
     obtain ⟨Ao21, co21, eo21⟩ := Kd.S_slice HO338.out
     subst eo21
     go_wp2
     go_meet
     case rel => exact ⟨_, (((t336.length : Int) != (l0_4.length : Int))), (by first | rfl | (simp; done) | (simp [*]; done)), H', ⟨by first | omega | exact Nat.le_refl _⟩, ⟨by (with_reducible repeat (first | apply Kd.R_alloc | apply Kd.R_drewN | apply Kd.R_drew)); exact HO332.out⟩, ⟨by (with_reducible repeat (first | apply Kd.R_alloc | apply Kd.R_drewN | apply Kd.R_drew)); exact HO335.out⟩, ⟨by (with_reducible repeat (first | apply Kd.S_alloc | apply Kd.S_drewN | apply Kd.S_drew)); exact Kd.S_mono HO338.out (fun _ hk => hk.2)⟩, ⟨by (with_reducible repeat (first | refine blk_drewN ?_ _ | refine blk_drew ?_ | refine blk_alloc ?_ _)); exact BK326.out⟩, ⟨by repeat (first | (with_reducible first | exact HB.out | apply below_alloc | apply pw_below_drewN | apply below_drew1 | refine below_set ?_ GE326.out) | exact HB.out)⟩⟩
    ·rw [if_neg c18] at H
     have c18b0 : ((t333.length : Int) == (l0_4.length : Int)) = false := beq_eq_false_iff_ne.mpr c18
     have c18b1 : ((t333.length : Int) != (l0_4.length : Int)) = true := bne_iff_ne.mpr c18
     have c18b2 : (t333.length == l0_4.length) = false := by first | simpa using c18 | (simp at c18 ⊢; omega)
     (first | rw [c18b0] | (simp only [i64_w, i32_w]; rw [c18b0]) | skip)
     have H' := Aside0.mk H
     clear H
     obtain ⟨Ao22, co22, eo22⟩ := Kd.R_slice HO335.out
     subst eo22
     have hcz23_0 : w17.cell? ⟨gb326, 0, none⟩ = some (.string a0_0) := (blk_cell BK326.out 0).trans rfl
     have hcz23_1 : w17.cell? ⟨gb326, 1, none⟩ = some (.bool a0_1) := (blk_cell BK326.out 1).trans rfl
     have hcz23_2 : w17.cell? ⟨gb326, 2, none⟩ = some (.slice A0_2 l0_2.length c0_2) := (blk_cell BK326.out 2).trans rfl
     have hcz23_3 : w17.cell? ⟨gb326, 3, none⟩ = some (.int .i64 a0_3) := (blk_cell BK326.out 3).trans rfl
     have hcz23_4 : w17.cell? ⟨gb326, 4, none⟩ = some (.slice A0_4 l0_4.length c0_4) := (blk_cell BK326.out 4).trans rfl
     have hfz23_0 := blk_frozen BK326.out 0
     have hfz23_1 := blk_frozen BK326.out 1
     have hfz23_2 := blk_frozen BK326.out 2
     have hfz23_3 := blk_frozen BK326.out 3
     have hfz23_4 := blk_frozen BK326.out 4
     go_wp2
     go_meet
     case rel => exact ⟨_, (true), (by first | rfl | (simp; done) | (simp [*]; done)), H', ⟨by first | omega | exact Nat.le_refl _⟩, ⟨by (with_reducible repeat (first | apply Kd.R_alloc | apply Kd.R_drewN | apply Kd.R_drew)); exact HO332.out⟩, ⟨by (with_reducible repeat (first | apply Kd.R_alloc | apply Kd.R_drewN | apply Kd.R_drew)); exact HO335.out⟩, ⟨by (with_reducible repeat (first | apply Kd.S_alloc | apply Kd.S_drewN | apply Kd.S_drew)); exact Kd.S_mono HO338.out (fun _ hk => hk.2)⟩, ⟨by (with_reducible repeat (first | refine blk_drewN ?_ _ | refine blk_drew ?_ | refine blk_alloc ?_ _)); exact BK326.out⟩, ⟨by repeat (first | (with_reducible first | exact HB.out | apply below_alloc | apply pw_below_drewN | apply below_drew1 | refine below_set ?_ GE326.out) | exact HB.out)⟩⟩
   case rest =>
    clear HC9
    try clear c1
    try clear c2
    try clear p2
    try clear c3
    try clear c4
    try clear c5
    try clear c16
    try clear c17
    try clear c18
    try clear c18b0
    try clear c18b1
    try clear c18b2
    try clear c22
    try clear hcz12_0
    try clear hcz12_1
    try clear hcz12_2
    try clear hcz12_3
    try clear hcz12_4
    try clear hcz20_0
    try clear hcz20_1
    try clear hcz20_2
    try clear hcz20_3
    try clear hcz20_4
    try clear hcz23_0
    try clear hcz23_1
    try clear hcz23_2
    try clear hcz23_3
    try clear hcz23_4
    try clear hfz12_0
    try clear hfz12_1
    try clear hfz12_2
    try clear hfz12_3
    try clear hfz12_4
    try clear hfz20_0
    try clear hfz20_1
    try clear hfz20_2
    try clear hfz20_3
    try clear hfz20_4
    try clear hfz23_0
    try clear hfz23_1
    try clear hfz23_2
    try clear hfz23_3
    try clear hfz23_4
    obtain ⟨kq, x40_8, rfl, HA, HJ8, HO_3, HO_4, HO_5, BK326, HB⟩ := hcut
    cases kq with
    | zero => exact absurd HA.out (by simp [plnlaw4_FlowOrders.j0])
    | succ kj8 =>
     have H := HA.out
     clear HA
     simp only [plnlaw4_FlowOrders.j0] at H
     by_cases c24 : x40_8 = true
     ·subst c24
      have H1 : (some false) = some r := by rw [if_pos rfl] at H; exact H
      clear H; have H := H1; clear H1
      obtain rfl := Option.some.inj H
      go_wp2
      go_ret
      exact ⟨by first | rfl | (simp [errW_none, errW_some] <;> rfl) | (simp [*, errW_none, errW_some] <;> rfl), by repeat (first | (with_reducible first | exact HB.out | apply below_alloc | apply pw_below_drewN | apply below_drew1 | refine below_set ?_ GE326.out) | exact HB.out)⟩
     ·replace c24 := Bool.eq_false_iff.mpr c24
      subst c24
      have H1 : (if 0 ≤ (t333.length : Int) then (if ((t333.length : Int) : Int).toNat ≤ 35184372088832 then (plnlaw4_FlowOrders.l0 kj8 t330 t333 t336 (List.replicate ((t333.length : Int) : Int).toNat 0) 0 0 a0_0 a0_1 l0_2 a0_3 l0_4) else (none)) else (none)) = some r := by rw [if_neg (show ¬ (false = true) by decide)] at H; exact H
      clear H; have H := H1; clear H1
      by_cases c25 : 0 ≤ (t333.length : Int)
      ·rw [if_pos c25] at H
       have c25b0 := eq_true c25
       have c25b1 : decide (0 ≤ (t333.length : Int)) = true := decide_eq_true c25
       clear c25
       by_cases c26 : ((t333.length : Int) : Int).toNat ≤ 35184372088832
       ·rw [if_pos c26] at H
        have c26b0 := eq_true c26
        have c26b1 : decide (((t333.length : Int) : Int).toNat ≤ 35184372088832) = true := decide_eq_true c26
        clear c26
        obtain ⟨y339, hy339⟩ : ∃ y_ : List Int, y_ = (List.replicate ((t333.length : Int) : Int).toNat 0) := ⟨_, rfl⟩
        replace H : (plnlaw4_FlowOrders.l0 kj8 t330 t333 t336 y339 0 0 a0_0 a0_1 l0_2 a0_3 l0_4) = some r := by first | (rw [hy339]; with_reducible exact H) | (have H2_ := (Option.bind_some _ _).symm.trans H; rw [hy339]; with_reducible exact H2_) | (have H2_ := (Option.bind_some _ _).symm.trans H; with_reducible exact H2_) | with_reducible exact H | (rw [hy339]; exact H) | exact H
        have Ny339 := Aside0.mk hy339
        clear hy339
        have H' := Aside0.mk H
        clear H
        obtain ⟨Ao27, co27, eo27⟩ := Kd.R_slice HO_4.out
        subst eo27
        go_wp2_with (first | ((with_reducible refine gate_dst (N := 43) rfl ?_); (try (refine gate_guard (by rfl) ?_; dsimp only)); refine Kd.R_make (Kd.int .i64) _ 3 rfl (N := 43) rfl 22 _ _ rfl (t333.length : Int) rfl rfl Try.underlying22 (.int .i64 0) 8 info3 rfl (by decide) (by omega) 0 (ok := fun _ => True) (okp := fun _ => True) rfl (fun _ hk => hk) trivial (of_decide_eq_true (by first | (with_reducible assumption) | assumption)) (Nat.le_trans (Nat.mul_le_mul_right _ (of_decide_eq_true (by first | (with_reducible assumption) | assumption) : (t333.length : Int).toNat ≤ 35184372088832)) (by omega)) (Below.refl _ _) (Nat.le_refl _) ?_; intro v340 w28 ho29 hb hg_ hnew_; clear hg_ hnew_; (first | rw [← Ny339.out] at ho29 | (simp only [Int.reduceToNat] at ho29; rw [← Ny339.out] at ho29)); have n0_ := Aside0.mk (Kd.R_elder' (by (with_reducible repeat (first | apply Kd.R_alloc | apply Kd.R_drewN | apply Kd.R_drew)); exact HO_3.out) (Kd.R_base ho29) hb); have n1_ := Aside0.mk (Kd.R_below (by (with_reducible repeat (first | apply Kd.R_alloc | apply Kd.R_drewN | apply Kd.R_drew)); exact HO_4.out) hb); have n2_ := Aside0.mk (Kd.S_elder' (by (with_reducible repeat (first | apply Kd.S_alloc | apply Kd.S_drewN | apply Kd.S_drew)); exact HO_5.out) (Kd.R_base ho29) hb); have n3_ := Aside0.mk (Kd.R_lower (Kd.R_new' ho29 (Kd.R_lt (by (with_reducible repeat (first | apply Kd.R_alloc | apply Kd.R_drewN | apply Kd.R_drew)); exact HO_3.out))) (below_size (by repeat (first | (with_reducible first | exact HB.out | apply below_alloc | apply pw_below_drewN | apply below_drew1 | refine below_set ?_ GE326.out) | exact HB.out)))); have n4_ := Aside0.mk (blk_below (g := gb326) (o := .cells #[.string a0_0, .bool a0_1, .slice A0_2 l0_2.length c0_2, .int .i64 a0_3, .slice A0_4 l0_4.length c0_4] 25 (0, 0)) (by (with_reducible repeat (first | refine blk_drewN ?_ _ | refine blk_drew ?_ | refine blk_alloc ?_ _)); exact BK326.out) hb); have n5_ := Aside0.mk (below_step (by repeat (first | (with_reducible first | exact HB.out | apply below_alloc | apply pw_below_drewN | apply below_drew1 | refine below_set ?_ GE326.out) | exact HB.out)) hb); clear HO_3; clear HO_4; clear HO_5; clear BK326; clear HB; have HO_3 := n0_; have HO_4 := n1_; have HO_5 := n2_; have HO341 := n3_; have BK326 := n4_; have HB := n5_; clear n0_ n1_ n2_ n3_ n4_ n5_; clear hb ho29))
        go_loopg [8] kj8 (fun kq v8 w' => ∃ (x6_2 : List Int) (x8_2 : Int), v8 = .int .i64 x8_2 ∧ Aside0 (plnlaw4_FlowOrders.l0 kq t330 t333 t336 x6_2 0 x8_2 a0_0 a0_1 l0_2 a0_3 l0_4 = some r) ∧ Aside0 (kq ≤ kj8) ∧ Aside0 (Kd.R (Kd.int .i64) 3 w' w.heap.size (fun k_ => some k_ ≠ (v340 : Value).ownBlock) v331 t330) ∧ Aside0 (Kd.R Kd.bool 4 w' w.heap.size (fun _ => True) (.slice Ao27 t333.length co27) t333) ∧ Aside0 (Kd.S (Kd.slice 3 (Kd.int .i64)) 22 w' w.heap.size (fun k_ => some k_ ≠ (v331 : Value).ownBlock ∧ some k_ ≠ (v340 : Value).ownBlock) v337 t336) ∧ Aside0 (Kd.R (Kd.int .i64) 3 w' w.heap.size (fun k_ => some k_ ≠ (v331 : Value).ownBlock) v340 x6_2) ∧ Aside0 (w'.heap[gb326]? = some (.cells #[.string a0_0, .bool a0_1, (.slice A0_2 l0_2.length c0_2), .int .i64 a0_3, (.slice A0_4 l0_4.length c0_4)] 25 (0, 0))) ∧ Aside0 (Below w.heap.size w w'))
        case atStart => exact ⟨(y339), (0), (by first | rfl | (simp; done) | (simp [*]; done)), H', ⟨Nat.le_refl _⟩, ⟨by (with_reducible repeat (first | apply Kd.R_alloc | apply Kd.R_drewN | apply Kd.R_drew)); exact Kd.R_mono HO_3.out (fun _ hk => hk.2)⟩, ⟨by (with_reducible repeat (first | apply Kd.R_alloc | apply Kd.R_drewN | apply Kd.R_drew)); exact HO_4.out⟩, ⟨by (with_reducible repeat (first | apply Kd.S_alloc | apply Kd.S_drewN | apply Kd.S_drew)); exact HO_5.out⟩, ⟨by (with_reducible repeat (first | apply Kd.R_alloc | apply Kd.R_drewN | apply Kd.R_drew)); exact Kd.R_mono HO341.out (fun _ hk => hk.2)⟩, ⟨by (with_reducible repeat (first | refine blk_drewN ?_ _ | refine blk_drew ?_ | refine blk_alloc ?_ _)); exact BK326.out⟩, ⟨by repeat (first | (with_reducible first | exact HB.out | apply below_alloc | apply pw_below_drewN | apply below_drew1 | refine below_set ?_ GE326.out) | exact HB.out)⟩⟩
        case round =>
         clear H'
         try clear c1
         try clear c2
         try clear p2
         try clear c3
         try clear c4
         try clear c5
         try clear c16
         try clear c17
         try clear c18
         try clear c18b0
         try clear c18b1
         try clear c18b2
         try clear c22
         try clear c24
         try clear c25
         try clear c25b0
         try clear c25b1
         try clear c26
         try clear c26b0
         try clear c26b1
         try clear c27
         try clear hcz12_0
         try clear hcz12_1
         try clear hcz12_2
         try clear hcz12_3
         try clear hcz12_4
         try clear hcz20_0
         try clear hcz20_1
         try clear hcz20_2
         try clear hcz20_3
         try clear hcz20_4
         try clear hcz23_0
         try clear hcz23_1
         try clear hcz23_2
         try clear hcz23_3
         try clear hcz23_4
         try clear hfz12_0
         try clear hfz12_1
         try clear hfz12_2
         try clear hfz12_3
         try clear hfz12_4
         try clear hfz20_0
         try clear hfz20_1
         try clear hfz20_2
         try clear hfz20_3
         try clear hfz20_4
         try clear hfz23_0
         try clear hfz23_1
         try clear hfz23_2
         try clear hfz23_3
         try clear hfz23_4
         try clear p2
         obtain ⟨x6_2, x8_2, rfl, HA, HK2, HO_3, HO_4, HO_5, HO_6, BK326, HB⟩ := hrel
         cases gk with
         | zero => exact absurd HA.out (by simp [plnlaw4_FlowOrders.l0])
         | succ k2 =>
          have H := HA.out
          clear HA
          simp only [plnlaw4_FlowOrders.l0] at H
          by_cases c30 : x8_2 < (t330.length : Int)
          ·rw [if_pos c30] at H
           have c30b0 : decide (x8_2 < (t330.length : Int)) = true := decide_eq_true c30
           clear c30
           by_cases c31 : 0 ≤ x8_2
           ·rw [if_pos c31] at H
            have c31b0 : decide (0 ≤ x8_2) = true := decide_eq_true c31
            clear c31
            by_cases c32 : (rd t330 x8_2) < 0
            ·rw [if_pos c32] at H
             have c32b0 : decide ((rd t330 x8_2) < 0) = true := decide_eq_true c32
             clear c32
             obtain rfl := Option.some.inj H
             obtain ⟨Ao33, co33, eo33⟩ := Kd.R_slice HO_3.out
             subst eo33
             have p342 : 0 ≤ (x8_2 : Int) := of_decide_eq_true (by first | (with_reducible assumption) | assumption)
             have q342 : x8_2 < (t330.length : Int) := of_decide_eq_true (by first | (with_reducible assumption) | assumption)
             obtain ⟨ad342, e342, hx342_0⟩ := Kd.at_int (Kd.R_reads' HO_3.out).2.2 x8_2 p342 q342
             cases e342
             replace p342 := eq_true p342
             replace q342 := eq_true q342
             go_wp2
             go_ret
             exact ⟨by first | rfl | (simp [errW_none, errW_some] <;> rfl) | (simp [*, errW_none, errW_some] <;> rfl), by repeat (first | (with_reducible first | exact HB.out | apply below_alloc | apply pw_below_drewN | apply below_drew1 | refine below_set ?_ GE326.out) | exact HB.out)⟩
            ·rw [if_neg c32] at H
             have c32b0 : decide ((rd t330 x8_2) < 0) = false := decide_eq_false c32
             clear c32
             by_cases c34 : (rd t330 x8_2) ≥ (x6_2.length : Int)
             ·rw [if_pos c34] at H
              have c34b0 : decide ((x6_2.length : Int) ≤ (rd t330 x8_2)) = true := decide_eq_true c34
              clear c34
              obtain rfl := Option.some.inj H
              obtain ⟨Ao35, co35, eo35⟩ := Kd.R_slice HO_3.out
              subst eo35
              have p342 : 0 ≤ (x8_2 : Int) := of_decide_eq_true (by first | (with_reducible assumption) | assumption)
              have q342 : x8_2 < (t330.length : Int) := of_decide_eq_true (by first | (with_reducible assumption) | assumption)
              obtain ⟨ad342, e342, hx342_0⟩ := Kd.at_int (Kd.R_reads' HO_3.out).2.2 x8_2 p342 q342
              cases e342
              replace p342 := eq_true p342
              replace q342 := eq_true q342
              have p343 : 0 ≤ (x8_2 : Int) := of_decide_eq_true (by first | (with_reducible assumption) | assumption)
              have q343 : x8_2 < (t330.length : Int) := of_decide_eq_true (by first | (with_reducible assumption) | assumption)
              obtain ⟨ad343, e343, hx343_0⟩ := Kd.at_int (Kd.R_reads' HO_3.out).2.2 x8_2 p343 q343
              obtain rfl : ad342 = ad343 := (by injection e343)
              replace p343 := eq_true p343
              replace q343 := eq_true q343
              obtain ⟨Ao36, co36, eo36⟩ := Kd.R_slice HO_6.out
              subst eo36
              go_wp2
              go_ret
              exact ⟨by first | rfl | (simp [errW_none, errW_some] <;> rfl) | (simp [*, errW_none, errW_some] <;> rfl), by repeat (first | (with_reducible first | exact HB.out | apply below_alloc | apply pw_below_drewN | apply below_drew1 | refine below_set ?_ GE326.out) | exact HB.out)⟩
             ·rw [if_neg c34] at H
              have c34b0 : decide ((x6_2.length : Int) ≤ (rd t330 x8_2)) = false := decide_eq_false c34
              clear c34
              by_cases c37 : 0 ≤ (rd t330 x8_2)
              ·rw [if_pos c37] at H
               have c37b0 : decide (0 ≤ (rd t330 x8_2)) = true := decide_eq_true c37
               clear c37
               by_cases c38 : (rd t330 x8_2) < (x6_2.length : Int)
               ·rw [if_pos c38] at H
                have c38b0 : decide ((rd t330 x8_2) < (x6_2.length : Int)) = true := decide_eq_true c38
                clear c38
                by_cases c39 : (rd x6_2 (rd t330 x8_2)) = 0
                ·rw [if_pos c39] at H
                 have c39b0 : ((rd x6_2 (rd t330 x8_2)) == 0) = true := beq_iff_eq.mpr c39
                 have c39b1 : ((rd x6_2 (rd t330 x8_2)) != 0) = false := bne_eq_false_iff_eq.mpr c39
                 clear c39
                 by_cases c40 : x8_2 = 0
                 ·rw [if_pos c40] at H
                  have c40b0 : (x8_2 == 0) = true := beq_iff_eq.mpr c40
                  have c40b1 : (x8_2 != 0) = false := bne_eq_false_iff_eq.mpr c40
                  clear c40
                  by_cases c41 : (rd t330 x8_2) = 0
                  ·rw [if_pos c41] at H
                   have c41b0 : ((rd t330 x8_2) == 0) = true := beq_iff_eq.mpr c41
                   have c41b1 : ((rd t330 x8_2) != 0) = false := bne_eq_false_iff_eq.mpr c41
                   clear c41
                   obtain ⟨y348, hy348⟩ : ∃ y_ : List Int, y_ = (x6_2.set ((rd t330 x8_2) : Int).toNat (wrap64 (x8_2 + 1))) := ⟨_, rfl⟩
                   replace H : (plnlaw4_FlowOrders.l0 k2 t330 t333 t336 y348 0 (wrap64 (x8_2 + 1)) a0_0 a0_1 l0_2 a0_3 l0_4) = some r := by first | (rw [hy348]; with_reducible exact H) | (have H2_ := (Option.bind_some _ _).symm.trans H; rw [hy348]; with_reducible exact H2_) | (have H2_ := (Option.bind_some _ _).symm.trans H; with_reducible exact H2_) | with_reducible exact H | (rw [hy348]; exact H) | exact H
                   have Ny348 := Aside0.mk hy348
                   clear hy348
                   have H' := Aside0.mk H
                   clear H
                   obtain ⟨Ao43, co43, eo43⟩ := Kd.R_slice HO_3.out
                   subst eo43
                   have p342 : 0 ≤ (x8_2 : Int) := of_decide_eq_true (by first | (with_reducible assumption) | assumption)
                   have q342 : x8_2 < (t330.length : Int) := of_decide_eq_true (by first | (with_reducible assumption) | assumption)
                   obtain ⟨ad342, e342, hx342_0⟩ := Kd.at_int (Kd.R_reads' HO_3.out).2.2 x8_2 p342 q342
                   cases e342
                   replace p342 := eq_true p342
                   replace q342 := eq_true q342
                   have p343 : 0 ≤ (x8_2 : Int) := of_decide_eq_true (by first | (with_reducible assumption) | assumption)
                   have q343 : x8_2 < (t330.length : Int) := of_decide_eq_true (by first | (with_reducible assumption) | assumption)
                   obtain ⟨ad343, e343, hx343_0⟩ := Kd.at_int (Kd.R_reads' HO_3.out).2.2 x8_2 p343 q343
                   obtain rfl : ad342 = ad343 := (by injection e343)
                   replace p343 := eq_true p343
                   replace q343 := eq_true q343
                   obtain ⟨Ao44, co44, eo44⟩ := Kd.R_slice HO_6.out
                   subst eo44
                   have p344 : 0 ≤ (x8_2 : Int) := of_decide_eq_true (by first | (with_reducible assumption) | assumption)
                   have q344 : x8_2 < (t330.length : Int) := of_decide_eq_true (by first | (with_reducible assumption) | assumption)
                   obtain ⟨ad344, e344, hx344_0⟩ := Kd.at_int (Kd.R_reads' HO_3.out).2.2 x8_2 p344 q344
                   obtain rfl : ad342 = ad344 := (by injection e344)
                   replace p344 := eq_true p344
                   replace q344 := eq_true q344
                   have p345 : 0 ≤ ((rd t330 x8_2) : Int) := of_decide_eq_true (by first | (with_reducible assumption) | assumption)
                   have q345 : (rd t330 x8_2) < (x6_2.length : Int) := of_decide_eq_true (by first | (with_reducible assumption) | assumption)
                   obtain ⟨ad345, e345, hx345_0⟩ := Kd.at_int (Kd.R_reads' HO_6.out).2.2 (rd t330 x8_2) p345 q345
                   cases e345
                   replace p345 := eq_true p345
                   replace q345 := eq_true q345
                   have p346 : 0 ≤ (x8_2 : Int) := of_decide_eq_true (by first | (with_reducible assumption) | assumption)
                   have q346 : x8_2 < (t330.length : Int) := of_decide_eq_true (by first | (with_reducible assumption) | assumption)
                   obtain ⟨ad346, e346, hx346_0⟩ := Kd.at_int (Kd.R_reads' HO_3.out).2.2 x8_2 p346 q346
                   obtain rfl : ad342 = ad346 := (by injection e346)
                   replace p346 := eq_true p346
                   replace q346 := eq_true q346
                   have p347 : 0 ≤ (x8_2 : Int) := of_decide_eq_true (by first | (with_reducible assumption) | assumption)
                   have q347 : x8_2 < (t330.length : Int) := of_decide_eq_true (by first | (with_reducible assumption) | assumption)
                   obtain ⟨ad347, e347, hx347_0⟩ := Kd.at_int (Kd.R_reads' HO_3.out).2.2 x8_2 p347 q347
                   obtain rfl : ad342 = ad347 := (by injection e347)
                   replace p347 := eq_true p347
                   replace q347 := eq_true q347
                   have p42 : 0 ≤ ((rd t330 x8_2) : Int) := of_decide_eq_true (by first | (with_reducible assumption) | assumption)
                   have q42 : ((rd t330 x8_2) : Int) < ((x6_2.length : Int) : Int) := of_decide_eq_true (by first | (with_reducible assumption) | assumption)
                   obtain ⟨go42, co42, eo42, gb42, gl42, cl42, HG42⟩ := Kd.R_form HO_6.out (by omega)
                   (first | cases eo42 | (injection eo42 with ea_ en_ ec_; (first | subst ea_ | (injection ea_ with ea_; subst ea_)); subst ec_; clear en_))
                   have GB42 := Aside0.mk gb42
                   have GG42 := Aside0.mk HG42
                   clear gb42 gl42 HG42
                   (first | simp only [add_plain] at hx345_0 | skip)
                   obtain ⟨hx42_0, hf42_0⟩ := Kd.R_celln 0 HO_6.out ((rd t330 x8_2) : Int) p42 q42
                   replace p42 := eq_true p42
                   replace q42 := eq_true q42
                   have HP45 := Kd.R_putg HO_6.out ((rd t330 x8_2) : Int) (wrap64 (x8_2 + 1))
                   go_wp2_with (first | ((with_reducible refine gate_store (t := 3) (p := 92) rfl ?_); refine store_event (t := 3) (p := 92) (v := ?vo_w46) (w1 := (wr.setCell ⟨go42, ((rd t330 x8_2) : Int).toNat, none⟩ (.int .i64 (wrap64 (x8_2 + 1))))) ?hg ?ho ?hn ?hr ?_; (case ho => rfl); (case hg => rfl); (case hn => rfl); (case hr => first | (go_simp; done) | (go_simp; rfl)); intro w46 hw; have hg : wr.grownBy w46 (some go42) := (by rw [hw]; exact HP45.2); have hp_ : Kd.R (Kd.int .i64) 3 w46 w.heap.size (fun k_ => some k_ ≠ (.slice (some ad342) t330.length co43 : Value).ownBlock) (.slice (some ⟨go42, 0, none⟩) x6_2.length co44) y348 := (by rw [hw, Ny348.out]; exact HP45.1); clear HP45; have n0_ := Aside0.mk (Kd.R_after (v := (.slice (some ⟨go42, 0, none⟩) x6_2.length co44)) (v1 := (.slice (some ⟨go42, 0, none⟩) x6_2.length co44)) (ok := (fun _ => True)) (by (with_reducible repeat (first | apply Kd.R_alloc | apply Kd.R_drewN | apply Kd.R_drew)); exact Kd.R_mono HO_3.out (fun _ hk => ⟨trivial, hk⟩)) hg (.inl rfl)); have n1_ := Aside0.mk (Kd.R_over' (v := (.slice (some ⟨go42, 0, none⟩) x6_2.length co44)) (by (with_reducible repeat (first | apply Kd.R_alloc | apply Kd.R_drewN | apply Kd.R_drew)); exact HO_4.out) (Kd.R_typed HO_6.out) (by decide) hg); have n2_ := Aside0.mk (Kd.S_after (v := (.slice (some ⟨go42, 0, none⟩) x6_2.length co44)) (v1 := (.slice (some ⟨go42, 0, none⟩) x6_2.length co44)) (ok := (fun k_ => some k_ ≠ (.slice (some ad342) t330.length co43 : Value).ownBlock)) (by (with_reducible repeat (first | apply Kd.S_alloc | apply Kd.S_drewN | apply Kd.S_drew)); exact HO_5.out) hg (.inl rfl)); have n3_ := Aside0.mk (hp_); have n4_ := Aside0.mk (blk_grown (g := gb326) (o := .cells #[.string a0_0, .bool a0_1, .slice A0_2 l0_2.length c0_2, .int .i64 a0_3, .slice A0_4 l0_4.length c0_4] 25 (0, 0)) (by (with_reducible repeat (first | refine blk_drewN ?_ _ | refine blk_drew ?_ | refine blk_alloc ?_ _)); exact BK326.out) hg (Kd.R_ne HO_6.out BK326.out (by decide))); have n5_ := Aside0.mk ((by rw [hw]; exact below_set (HB.out) GB42.out : Below w.heap.size w w46)); clear HO_3; clear HO_4; clear HO_5; clear HO_6; clear BK326; clear HB; have HO_3 := n0_; have HO_4 := n1_; have HO_5 := n2_; have HO_6 := n3_; have BK326 := n4_; have HB := n5_; clear n0_ n1_ n2_ n3_ n4_ n5_; clear hg hw hp_))
                   go_roundg k2
                   case measure => have := HJ8.out; have := HK2.out; omega
                   case rel => exact ⟨(y348), (wrap64 (x8_2 + 1)), (by first | rfl | (simp; done) | (simp [*]; done)), H', ⟨by have := HJ8.out; have := HK2.out; omega⟩, ⟨by (with_reducible repeat (first | apply Kd.R_alloc | apply Kd.R_drewN | apply Kd.R_drew)); exact Kd.R_mono HO_3.out (fun _ hk => hk.2)⟩, ⟨by (with_reducible repeat (first | apply Kd.R_alloc | apply Kd.R_drewN | apply Kd.R_drew)); exact HO_4.out⟩, ⟨by (with_reducible repeat (first | apply Kd.S_alloc | apply Kd.S_drewN | apply Kd.S_drew)); exact HO_5.out⟩, ⟨by (with_reducible repeat (first | apply Kd.R_alloc | apply Kd.R_drewN | apply Kd.R_drew)); exact HO_6.out⟩, ⟨by (with_reducible repeat (first | refine blk_drewN ?_ _ | refine blk_drew ?_ | refine blk_alloc ?_ _)); exact BK326.out⟩, ⟨by repeat (first | (with_reducible first | exact HB.out | apply below_alloc | apply pw_below_drewN | apply below_drew1 | refine below_set ?_ GE326.out) | exact HB.out)⟩⟩
                  ·rw [if_neg c41] at H
                   have c41b0 : ((rd t330 x8_2) == 0) = false := beq_eq_false_iff_ne.mpr c41
                   have c41b1 : ((rd t330 x8_2) != 0) = true := bne_iff_ne.mpr c41
                   obtain rfl := Option.some.inj H
                   obtain ⟨Ao47, co47, eo47⟩ := Kd.R_slice HO_3.out
                   subst eo47
                   have p342 : 0 ≤ (x8_2 : Int) := of_decide_eq_true (by first | (with_reducible assumption) | assumption)
                   have q342 : x8_2 < (t330.length : Int) := of_decide_eq_true (by first | (with_reducible assumption) | assumption)
                   obtain ⟨ad342, e342, hx342_0⟩ := Kd.at_int (Kd.R_reads' HO_3.out).2.2 x8_2 p342 q342
                   cases e342
                   replace p342 := eq_true p342
                   replace q342 := eq_true q342
                   have p343 : 0 ≤ (x8_2 : Int) := of_decide_eq_true (by first | (with_reducible assumption) | assumption)
                   have q343 : x8_2 < (t330.length : Int) := of_decide_eq_true (by first | (with_reducible assumption) | assumption)
                   obtain ⟨ad343, e343, hx343_0⟩ := Kd.at_int (Kd.R_reads' HO_3.out).2.2 x8_2 p343 q343
                   obtain rfl : ad342 = ad343 := (by injection e343)
                   replace p343 := eq_true p343
                   replace q343 := eq_true q343
                   obtain ⟨Ao48, co48, eo48⟩ := Kd.R_slice HO_6.out
                   subst eo48
                   have p344 : 0 ≤ (x8_2 : Int) := of_decide_eq_true (by first | (with_reducible assumption) | assumption)
                   have q344 : x8_2 < (t330.length : Int) := of_decide_eq_true (by first | (with_reducible assumption) | assumption)
                   obtain ⟨ad344, e344, hx344_0⟩ := Kd.at_int (Kd.R_reads' HO_3.out).2.2 x8_2 p344 q344
                   obtain rfl : ad342 = ad344 := (by injection e344)
                   replace p344 := eq_true p344
                   replace q344 := eq_true q344
                   have p345 : 0 ≤ ((rd t330 x8_2) : Int) := of_decide_eq_true (by first | (with_reducible assumption) | assumption)
                   have q345 : (rd t330 x8_2) < (x6_2.length : Int) := of_decide_eq_true (by first | (with_reducible assumption) | assumption)
                   obtain ⟨ad345, e345, hx345_0⟩ := Kd.at_int (Kd.R_reads' HO_6.out).2.2 (rd t330 x8_2) p345 q345
                   cases e345
                   replace p345 := eq_true p345
                   replace q345 := eq_true q345
                   have p346 : 0 ≤ (x8_2 : Int) := of_decide_eq_true (by first | (with_reducible assumption) | assumption)
                   have q346 : x8_2 < (t330.length : Int) := of_decide_eq_true (by first | (with_reducible assumption) | assumption)
                   obtain ⟨ad346, e346, hx346_0⟩ := Kd.at_int (Kd.R_reads' HO_3.out).2.2 x8_2 p346 q346
                   obtain rfl : ad342 = ad346 := (by injection e346)
                   replace p346 := eq_true p346
                   replace q346 := eq_true q346
                   go_wp2
                   go_ret
                   exact ⟨by first | rfl | (simp [errW_none, errW_some] <;> rfl) | (simp [*, errW_none, errW_some] <;> rfl), by repeat (first | (with_reducible first | exact HB.out | apply below_alloc | apply pw_below_drewN | apply below_drew1 | refine below_set ?_ GE326.out) | exact HB.out)⟩
                 ·rw [if_neg c40] at H
                  have c40b0 : (x8_2 == 0) = false := beq_eq_false_iff_ne.mpr c40
                  have c40b1 : (x8_2 != 0) = true := bne_iff_ne.mpr c40
                  obtain ⟨y350, hy350⟩ : ∃ y_ : List Int, y_ = (x6_2.set ((rd t330 x8_2) : Int).toNat (wrap64 (x8_2 + 1))) := ⟨_, rfl⟩
                  replace H : (plnlaw4_FlowOrders.l0 k2 t330 t333 t336 y350 0 (wrap64 (x8_2 + 1)) a0_0 a0_1 l0_2 a0_3 l0_4) = some r := by first | (rw [hy350]; with_reducible exact H) | (have H2_ := (Option.bind_some _ _).symm.trans H; rw [hy350]; with_reducible exact H2_) | (have H2_ := (Option.bind_some _ _).symm.trans H; with_reducible exact H2_) | with_reducible exact H | (rw [hy350]; exact H) | exact H
                  have Ny350 := Aside0.mk hy350
                  clear hy350
                  have H' := Aside0.mk H
                  clear H
                  obtain ⟨Ao50, co50, eo50⟩ := Kd.R_slice HO_3.out
                  subst eo50
                  have p342 : 0 ≤ (x8_2 : Int) := of_decide_eq_true (by first | (with_reducible assumption) | assumption)
                  have q342 : x8_2 < (t330.length : Int) := of_decide_eq_true (by first | (with_reducible assumption) | assumption)
                  obtain ⟨ad342, e342, hx342_0⟩ := Kd.at_int (Kd.R_reads' HO_3.out).2.2 x8_2 p342 q342
                  cases e342
                  replace p342 := eq_true p342
                  replace q342 := eq_true q342
                  have p343 : 0 ≤ (x8_2 : Int) := of_decide_eq_true (by first | (with_reducible assumption) | assumption)
                  have q343 : x8_2 < (t330.length : Int) := of_decide_eq_true (by first | (with_reducible assumption) | assumption)
                  obtain ⟨ad343, e343, hx343_0⟩ := Kd.at_int (Kd.R_reads' HO_3.out).2.2 x8_2 p343 q343
                  obtain rfl : ad342 = ad343 := (by injection e343)
                  replace p343 := eq_true p343
                  replace q343 := eq_true q343
                  obtain ⟨Ao51, co51, eo51⟩ := Kd.R_slice HO_6.out
                  subst eo51
                  have p344 : 0 ≤ (x8_2 : Int) := of_decide_eq_true (by first | (with_reducible assumption) | assumption)
                  have q344 : x8_2 < (t330.length : Int) := of_decide_eq_true (by first | (with_reducible assumption) | assumption)
                  obtain ⟨ad344, e344, hx344_0⟩ := Kd.at_int (Kd.R_reads' HO_3.out).2.2 x8_2 p344 q344
                  obtain rfl : ad342 = ad344 := (by injection e344)
                  replace p344 := eq_true p344
                  replace q344 := eq_true q344
                  have p345 : 0 ≤ ((rd t330 x8_2) : Int) := of_decide_eq_true (by first | (with_reducible assumption) | assumption)
                  have q345 : (rd t330 x8_2) < (x6_2.length : Int) := of_decide_eq_true (by first | (with_reducible assumption) | assumption)
                  obtain ⟨ad345, e345, hx345_0⟩ := Kd.at_int (Kd.R_reads' HO_6.out).2.2 (rd t330 x8_2) p345 q345
                  cases e345
                  replace p345 := eq_true p345
                  replace q345 := eq_true q345
                  have p349 : 0 ≤ (x8_2 : Int) := of_decide_eq_true (by first | (with_reducible assumption) | assumption)
                  have q349 : x8_2 < (t330.length : Int) := of_decide_eq_true (by first | (with_reducible assumption) | assumption)
                  obtain ⟨ad349, e349, hx349_0⟩ := Kd.at_int (Kd.R_reads' HO_3.out).2.2 x8_2 p349 q349
                  obtain rfl : ad342 = ad349 := (by injection e349)
                  replace p349 := eq_true p349
                  replace q349 := eq_true q349
                  have p49 : 0 ≤ ((rd t330 x8_2) : Int) := of_decide_eq_true (by first | (with_reducible assumption) | assumption)
                  have q49 : ((rd t330 x8_2) : Int) < ((x6_2.length : Int) : Int) := of_decide_eq_true (by first | (with_reducible assumption) | assumption)
                  obtain ⟨go49, co49, eo49, gb49, gl49, cl49, HG49⟩ := Kd.R_form HO_6.out (by omega)
                  (first | cases eo49 | (injection eo49 with ea_ en_ ec_; (first | subst ea_ | (injection ea_ with ea_; subst ea_)); subst ec_; clear en_))
                  have GB49 := Aside0.mk gb49
                  have GG49 := Aside0.mk HG49
                  clear gb49 gl49 HG49
                  (first | simp only [add_plain] at hx345_0 | skip)
                  obtain ⟨hx49_0, hf49_0⟩ := Kd.R_celln 0 HO_6.out ((rd t330 x8_2) : Int) p49 q49
                  replace p49 := eq_true p49
                  replace q49 := eq_true q49
                  have HP52 := Kd.R_putg HO_6.out ((rd t330 x8_2) : Int) (wrap64 (x8_2 + 1))
                  go_wp2_with (first | ((with_reducible refine gate_store (t := 3) (p := 92) rfl ?_); refine store_event (t := 3) (p := 92) (v := ?vo_w53) (w1 := (wr.setCell ⟨go49, ((rd t330 x8_2) : Int).toNat, none⟩ (.int .i64 (wrap64 (x8_2 + 1))))) ?hg ?ho ?hn ?hr ?_; (case ho => rfl); (case hg => rfl); (case hn => rfl); (case hr => first | (go_simp; done) | (go_simp; rfl)); intro w53 hw; have hg : wr.grownBy w53 (some go49) := (by rw [hw]; exact HP52.2); have hp_ : Kd.R (Kd.int .i64) 3 w53 w.heap.size (fun k_ => some k_ ≠ (.slice (some ad342) t330.length co50 : Value).ownBlock) (.slice (some ⟨go49, 0, none⟩) x6_2.length co51) y350 := (by rw [hw, Ny350.out]; exact HP52.1); clear HP52; have n0_ := Aside0.mk (Kd.R_after (v := (.slice (some ⟨go49, 0, none⟩) x6_2.length co51)) (v1 := (.slice (some ⟨go49, 0, none⟩) x6_2.length co51)) (ok := (fun _ => True)) (by (with_reducible repeat (first | apply Kd.R_alloc | apply Kd.R_drewN | apply Kd.R_drew)); exact Kd.R_mono HO_3.out (fun _ hk => ⟨trivial, hk⟩)) hg (.inl rfl)); have n1_ := Aside0.mk (Kd.R_over' (v := (.slice (some ⟨go49, 0, none⟩) x6_2.length co51)) (by (with_reducible repeat (first | apply Kd.R_alloc | apply Kd.R_drewN | apply Kd.R_drew)); exact HO_4.out) (Kd.R_typed HO_6.out) (by decide) hg); have n2_ := Aside0.mk (Kd.S_after (v := (.slice (some ⟨go49, 0, none⟩) x6_2.length co51)) (v1 := (.slice (some ⟨go49, 0, none⟩) x6_2.length co51)) (ok := (fun k_ => some k_ ≠ (.slice (some ad342) t330.length co50 : Value).ownBlock)) (by (with_reducible repeat (first | apply Kd.S_alloc | apply Kd.S_drewN | apply Kd.S_drew)); exact HO_5.out) hg (.inl rfl)); have n3_ := Aside0.mk (hp_); have n4_ := Aside0.mk (blk_grown (g := gb326) (o := .cells #[.string a0_0, .bool a0_1, .slice A0_2 l0_2.length c0_2, .int .i64 a0_3, .slice A0_4 l0_4.length c0_4] 25 (0, 0)) (by (with_reducible repeat (first | refine blk_drewN ?_ _ | refine blk_drew ?_ | refine blk_alloc ?_ _)); exact BK326.out) hg (Kd.R_ne HO_6.out BK326.out (by decide))); have n5_ := Aside0.mk ((by rw [hw]; exact below_set (HB.out) GB49.out : Below w.heap.size w w53)); clear HO_3; clear HO_4; clear HO_5; clear HO_6; clear BK326; clear HB; have HO_3 := n0_; have HO_4 := n1_; have HO_5 := n2_; have HO_6 := n3_; have BK326 := n4_; have HB := n5_; clear n0_ n1_ n2_ n3_ n4_ n5_; clear hg hw hp_))
                  go_roundg k2
                  case measure => have := HJ8.out; have := HK2.out; omega
                  case rel => exact ⟨(y350), (wrap64 (x8_2 + 1)), (by first | rfl | (simp; done) | (simp [*]; done)), H', ⟨by have := HJ8.out; have := HK2.out; omega⟩, ⟨by (with_reducible repeat (first | apply Kd.R_alloc | apply Kd.R_drewN | apply Kd.R_drew)); exact Kd.R_mono HO_3.out (fun _ hk => hk.2)⟩, ⟨by (with_reducible repeat (first | apply Kd.R_alloc | apply Kd.R_drewN | apply Kd.R_drew)); exact HO_4.out⟩, ⟨by (with_reducible repeat (first | apply Kd.S_alloc | apply Kd.S_drewN | apply Kd.S_drew)); exact HO_5.out⟩, ⟨by (with_reducible repeat (first | apply Kd.R_alloc | apply Kd.R_drewN | apply Kd.R_drew)); exact HO_6.out⟩, ⟨by (with_reducible repeat (first | refine blk_drewN ?_ _ | refine blk_drew ?_ | refine blk_alloc ?_ _)); exact BK326.out⟩, ⟨by repeat (first | (with_reducible first | exact HB.out | apply below_alloc | apply pw_below_drewN | apply below_drew1 | refine below_set ?_ GE326.out) | exact HB.out)⟩⟩
                ·rw [if_neg c39] at H
                 have c39b0 : ((rd x6_2 (rd t330 x8_2)) == 0) = false := beq_eq_false_iff_ne.mpr c39
                 have c39b1 : ((rd x6_2 (rd t330 x8_2)) != 0) = true := bne_iff_ne.mpr c39
                 obtain rfl := Option.some.inj H
                 obtain ⟨Ao54, co54, eo54⟩ := Kd.R_slice HO_3.out
                 subst eo54
                 have p342 : 0 ≤ (x8_2 : Int) := of_decide_eq_true (by first | (with_reducible assumption) | assumption)
                 have q342 : x8_2 < (t330.length : Int) := of_decide_eq_true (by first | (with_reducible assumption) | assumption)
                 obtain ⟨ad342, e342, hx342_0⟩ := Kd.at_int (Kd.R_reads' HO_3.out).2.2 x8_2 p342 q342
                 cases e342
                 replace p342 := eq_true p342
                 replace q342 := eq_true q342
                 have p343 : 0 ≤ (x8_2 : Int) := of_decide_eq_true (by first | (with_reducible assumption) | assumption)
                 have q343 : x8_2 < (t330.length : Int) := of_decide_eq_true (by first | (with_reducible assumption) | assumption)
                 obtain ⟨ad343, e343, hx343_0⟩ := Kd.at_int (Kd.R_reads' HO_3.out).2.2 x8_2 p343 q343
                 obtain rfl : ad342 = ad343 := (by injection e343)
                 replace p343 := eq_true p343
                 replace q343 := eq_true q343
                 obtain ⟨Ao55, co55, eo55⟩ := Kd.R_slice HO_6.out
                 subst eo55
                 have p344 : 0 ≤ (x8_2 : Int) := of_decide_eq_true (by first | (with_reducible assumption) | assumption)
                 have q344 : x8_2 < (t330.length : Int) := of_decide_eq_true (by first | (with_reducible assumption) | assumption)
                 obtain ⟨ad344, e344, hx344_0⟩ := Kd.at_int (Kd.R_reads' HO_3.out).2.2 x8_2 p344 q344
                 obtain rfl : ad342 = ad344 := (by injection e344)
                 replace p344 := eq_true p344
                 replace q344 := eq_true q344
                 have p345 : 0 ≤ ((rd t330 x8_2) : Int) := of_decide_eq_true (by first | (with_reducible assumption) | assumption)
                 have q345 : (rd t330 x8_2) < (x6_2.length : Int) := of_decide_eq_true (by first | (with_reducible assumption) | assumption)
                 obtain ⟨ad345, e345, hx345_0⟩ := Kd.at_int (Kd.R_reads' HO_6.out).2.2 (rd t330 x8_2) p345 q345
                 cases e345
                 replace p345 := eq_true p345
                 replace q345 := eq_true q345
                 go_wp2
                 go_ret
                 exact ⟨by first | rfl | (simp [errW_none, errW_some] <;> rfl) | (simp [*, errW_none, errW_some] <;> rfl), by repeat (first | (with_reducible first | exact HB.out | apply below_alloc | apply pw_below_drewN | apply below_drew1 | refine below_set ?_ GE326.out) | exact HB.out)⟩
               ·rw [if_neg c38] at H
                exact absurd H (by simp)
              ·rw [if_neg c37] at H
               exact absurd H (by simp)
           ·rw [if_neg c31] at H
            exact absurd H (by simp)
          ·rw [if_neg c30] at H
           have c30b0 : decide (x8_2 < (t330.length : Int)) = false := decide_eq_false c30
           clear c30
           have H' := Aside0.mk H
           clear H
           obtain ⟨Ao56, co56, eo56⟩ := Kd.R_slice HO_3.out
           subst eo56
           go_wp2
           go_loopg [7, 9, 10] k2 (fun kq v7 v9 v10 w' => ∃ (x7_3 : Int) (x9_3 : Bool) (x10_3 : Int), v7 = .int .i64 x7_3 ∧ v9 = .bool x9_3 ∧ v10 = .int .i64 x10_3 ∧ Aside0 (plnlaw4_FlowOrders.l1 kq t333 t336 x6_2 x7_3 x9_3 x10_3 a0_0 a0_1 l0_2 a0_3 l0_4 = some r) ∧ Aside0 (kq ≤ k2) ∧ Aside0 (Kd.R Kd.bool 4 w' w.heap.size (fun _ => True) (.slice Ao27 t333.length co27) t333) ∧ Aside0 (Kd.S (Kd.slice 3 (Kd.int .i64)) 22 w' w.heap.size (fun k_ => some k_ ≠ (v340 : Value).ownBlock) v337 t336) ∧ Aside0 (Kd.R (Kd.int .i64) 3 w' w.heap.size (fun _ => True) v340 x6_2) ∧ Aside0 (w'.heap[gb326]? = some (.cells #[.string a0_0, .bool a0_1, (.slice A0_2 l0_2.length c0_2), .int .i64 a0_3, (.slice A0_4 l0_4.length c0_4)] 25 (0, 0))) ∧ Aside0 (Below w.heap.size w w'))
           case atStart => exact ⟨(0), (false), (0), (by first | rfl | (simp; done) | (simp [*]; done)), (by first | rfl | (simp; done) | (simp [*]; done)), (by first | rfl | (simp; done) | (simp [*]; done)), H', ⟨Nat.le_refl _⟩, ⟨by (with_reducible repeat (first | apply Kd.R_alloc | apply Kd.R_drewN | apply Kd.R_drew)); exact HO_4.out⟩, ⟨by (with_reducible repeat (first | apply Kd.S_alloc | apply Kd.S_drewN | apply Kd.S_drew)); exact Kd.S_mono HO_5.out (fun _ hk => hk.2)⟩, ⟨by (with_reducible repeat (first | apply Kd.R_alloc | apply Kd.R_drewN | apply Kd.R_drew)); exact Kd.R_mono HO_6.out (fun _ hk => trivial)⟩, ⟨by (with_reducible repeat (first | refine blk_drewN ?_ _ | refine blk_drew ?_ | refine blk_alloc ?_ _)); exact BK326.out⟩, ⟨by repeat (first | (with_reducible first | exact HB.out | apply below_alloc | apply pw_below_drewN | apply below_drew1 | refine below_set ?_ GE326.out) | exact HB.out)⟩⟩
           case round =>
            clear H'
            try clear c1
            try clear c2
            try clear p2
            try clear c3
            try clear p3
            try clear q3
            try clear hx3
            try clear c4
            try clear p4
            try clear q4
            try clear hx4
            try clear hf4
            try clear c5
            try clear p6
            try clear c16
            try clear c17
            try clear c18
            try clear c18b0
            try clear c18b1
            try clear c18b2
            try clear c22
            try clear c24
            try clear c25
            try clear c25b0
            try clear c25b1
            try clear c26
            try clear c26b0
            try clear c26b1
            try clear c27
            try clear c30
            try clear c30b0
            try clear c31
            try clear c31b0
            try clear c32
            try clear c32b0
            try clear c34
            try clear c34b0
            try clear p34
            try clear q34
            try clear hx34
            try clear c37
            try clear c37b0
            try clear c38
            try clear c38b0
            try clear c39
            try clear c39b0
            try clear c39b1
            try clear c40
            try clear c40b0
            try clear c40b1
            try clear c41
            try clear c41b0
            try clear c41b1
            try clear p42
            try clear q42
            try clear hx42
            try clear hf42
            try clear p49
            try clear q49
            try clear hx49
            try clear hf49
            try clear hcz12_0
            try clear hcz12_1
            try clear hcz12_2
            try clear hcz12_3
            try clear hcz12_4
            try clear hcz20_0
            try clear hcz20_1
            try clear hcz20_2
            try clear hcz20_3
            try clear hcz20_4
            try clear hcz23_0
            try clear hcz23_1
            try clear hcz23_2
            try clear hcz23_3
            try clear hcz23_4
            try clear hfz12_0
            try clear hfz12_1
            try clear hfz12_2
            try clear hfz12_3
            try clear hfz12_4
            try clear hfz20_0
            try clear hfz20_1
            try clear hfz20_2
            try clear hfz20_3
            try clear hfz20_4
            try clear hfz23_0
            try clear hfz23_1
            try clear hfz23_2
            try clear hfz23_3
            try clear hfz23_4
            try clear hx342_0
            try clear hx343_0
            try clear hx344_0
            try clear hx345_0
            try clear hx346_0
            try clear hx347_0
            try clear hx349_0
            try clear hx42_0
            try clear hx49_0
            try clear p2
            try clear p342
            try clear p343
            try clear p344
            try clear p345
            try clear p346
            try clear p347
            try clear p349
            try clear p42
            try clear p49
            try clear q342
            try clear q343
            try clear q344
            try clear q345
            try clear q346
            try clear q347
            try clear q349
            try clear q42
            try clear q49
            obtain ⟨x7_3, x9_3, x10_3, rfl, rfl, rfl, HA, HK3, HO_4, HO_5, HO_6, BK326, HB⟩ := hrel
            cases gk with
            | zero => exact absurd HA.out (by simp [plnlaw4_FlowOrders.l1])
            | succ k3 =>
             have H := HA.out
             clear HA
             simp only [plnlaw4_FlowOrders.l1] at H
             by_cases c57 : x10_3 < (t333.length : Int)
             ·rw [if_pos c57] at H
              have c57b0 : decide (x10_3 < (t333.length : Int)) = true := decide_eq_true c57
              clear c57
              by_cases c58 : 0 ≤ x10_3
              ·rw [if_pos c58] at H
               have c58b0 : decide (0 ≤ x10_3) = true := decide_eq_true c58
               clear c58
               by_cases c59 : x10_3 < (x6_2.length : Int)
               ·rw [if_pos c59] at H
                have c59b0 : decide (x10_3 < (x6_2.length : Int)) = true := decide_eq_true c59
                clear c59
                by_cases c60 : ((rdOf false t333 x10_3) != (decide ((rd x6_2 x10_3) > 0))) = true
                ·rw [if_pos c60] at H
                 have c60b0 : ((rdOf false t333 x10_3) != (decide ((rd x6_2 x10_3) > 0))) = true := c60
                 (try (have c60b1 : decide ((rdOf false t333 x10_3) = (decide ((rd x6_2 x10_3) > 0))) = false := by simpa using c60))
                 (try (have c60b2 : ((rdOf false t333 x10_3) == (decide ((rd x6_2 x10_3) > 0))) = false := by simpa using c60))
                 (try (have c60b3 : ¬ ((rdOf false t333 x10_3) = (decide ((rd x6_2 x10_3) > 0))) := by simpa using c60))
                 clear c60
                 obtain rfl := Option.some.inj H
                 try go_wp2
                 have n0_ := Aside0.mk (Kd.R_drew HO_4.out); have n1_ := Aside0.mk (Kd.S_drew HO_5.out); have n2_ := Aside0.mk (Kd.R_drew HO_6.out); have n3_ := Aside0.mk (blk_drew BK326.out); have n4_ := Aside0.mk (below_drew1 HB.out); clear HO_4 HO_5 HO_6 BK326 HB; have HO_4 := n0_; have HO_5 := n1_; have HO_6 := n2_; have BK326 := n3_; have HB := n4_; clear n0_ n1_ n2_ n3_ n4_
                 have p352 : 0 ≤ (x10_3 : Int) := of_decide_eq_true (by first | (with_reducible assumption) | assumption)
                 have q352 : x10_3 < (t333.length : Int) := of_decide_eq_true (by first | (with_reducible assumption) | assumption)
                 obtain ⟨ad352, e352, hx352_0⟩ := Kd.at_bool (Kd.R_reads' HO_4.out).2.2 x10_3 p352 q352
                 cases e352
                 replace p352 := eq_true p352
                 replace q352 := eq_true q352
                 obtain ⟨Ao62, co62, eo62⟩ := Kd.R_slice HO_6.out
                 (first | subst eo62 | (injection eo62 with f1_ f2_ f3_; have f4_ := f1_.symm; have f5_ := f3_.symm; clear f1_ f2_ f3_; subst f4_; subst f5_))
                 have p353 : 0 ≤ (x10_3 : Int) := of_decide_eq_true (by first | (with_reducible assumption) | assumption)
                 have q353 : x10_3 < (x6_2.length : Int) := of_decide_eq_true (by first | (with_reducible assumption) | assumption)
                 obtain ⟨ad353, e353, hx353_0⟩ := Kd.at_int (Kd.R_reads' HO_6.out).2.2 x10_3 p353 q353
                 cases e353
                 replace p353 := eq_true p353
                 replace q353 := eq_true q353
                 refine start_ (n := 10) (S := fun w' => w'.cell? (ad352.add (x10_3).toNat) = some (.bool (rdOf false t333 x10_3)) ∧ w'.cell? (ad353.add (x10_3).toNat) = some (.int .i64 (rd x6_2 x10_3))) (ds := []) #[false, false, false, false, false, false, false, false, false, false] (by kernel_rfl) rfl rfl ⟨hx352_0, hx353_0⟩ (fun hHeld => ?_); refine with_tabW plnlaw4_FlowOrders.tab20 plnlaw4_FlowOrders.bits20 (fun HT_ HW_ => ?_)
                 generalize wr.drew = w61 at HO_4 HO_5 HO_6 BK326 HB hx352_0 hx353_0 hHeld ⊢
                 refine pure_ (i := 0) (N := some 99) (v := ?_) (a' := ?_) #[true, false, false, false, false, false, false, false, false, false] rfl rfl (any_of HT_.out (by kernel_rfl)) (fun _ _ _ h => h) (Or.inl ⟨by rfl, ?_⟩) ?_ ?_
                 rotate_left
                 ·intro w'
                  go_simp
                  with_reducible rfl
                 rotate_left
                 ·simp only [Act.put, List.setIfInBounds_toArray, List.set_cons_zero, List.set_cons_succ, i64_w, i32_w]; rfl
                 refine pure_ (i := 1) (N := some 100) (v := ?_) (a' := ?_) #[true, true, false, false, false, false, false, false, false, false] rfl rfl (any_of HT_.out (by kernel_rfl)) (fun _ _ _ h => h) (Or.inl ⟨by rfl, ?_⟩) ?_ ?_
                 rotate_left
                 ·intro w'
                  go_simp
                  with_reducible rfl
                 rotate_left
                 ·simp only [Act.put, List.setIfInBounds_toArray, List.set_cons_zero, List.set_cons_succ, i64_w, i32_w]; rfl
                 refine pure_ (i := 2) (N := some 101) (v := ?_) (a' := ?_) #[true, true, true, false, false, false, false, false, false, false] rfl rfl (any_of HT_.out (by kernel_rfl)) (fun _ _ _ h => h) (Or.inl ⟨by rfl, ?_⟩) ?_ ?_
                 rotate_left
                 ·intro w'
                  go_simp
                  with_reducible rfl
                 rotate_left
                 ·simp only [Act.put, List.setIfInBounds_toArray, List.set_cons_zero, List.set_cons_succ, i64_w, i32_w]; rfl
                 refine pure_ (i := 4) (N := some 103) (v := ?_) (a' := ?_) #[true, true, true, false, true, false, false, false, false, false] rfl rfl (any_of HT_.out (by kernel_rfl)) (fun _ _ _ h => h) (Or.inl ⟨by rfl, ?_⟩) ?_ ?_
                 rotate_left
                 ·intro w'
                  go_simp
                  with_reducible rfl
                 rotate_left
                 ·simp only [Act.put, List.setIfInBounds_toArray, List.set_cons_zero, List.set_cons_succ, i64_w, i32_w]; rfl
                 refine pure_ (i := 5) (N := some 104) (v := ?_) (a' := ?_) #[true, true, true, false, true, true, false, false, false, false] rfl rfl (any_of HT_.out (by kernel_rfl)) (fun _ _ _ h => h) (Or.inl ⟨by rfl, ?_⟩) ?_ ?_
                 rotate_left
                 ·intro w'
                  go_simp
                  with_reducible rfl
                 rotate_left
                 ·simp only [Act.put, List.setIfInBounds_toArray, List.set_cons_zero, List.set_cons_succ, i64_w, i32_w]; rfl
                 refine pure_ (i := 6) (N := some 105) (v := ?_) (a' := ?_) #[true, true, true, false, true, true, true, false, false, false] rfl rfl (any_of HT_.out (by kernel_rfl)) (fun _ _ _ h => h) (Or.inl ⟨by rfl, ?_⟩) ?_ ?_
                 rotate_left
                 ·intro w'
                  go_simp
                  with_reducible rfl
                 rotate_left
                 ·simp only [Act.put, List.setIfInBounds_toArray, List.set_cons_zero, List.set_cons_succ, i64_w, i32_w]; rfl
                 refine take_ (i := 3) (N := some 102) (v := ?_) (a' := ?_) #[true, true, true, true, true, true, true, false, false, false] rfl rfl (take_ofW HT_.out HW_.out (by kernel_rfl)) (fun _ _ _ h => h) (Or.inl ⟨by rfl, ?_⟩) hHeld ?_ ?_
                 rotate_left
                 ·rintro w' ⟨s0, s1⟩
                  go_simp
                  with_reducible rfl
                 rotate_left
                 ·simp only [Act.put, List.setIfInBounds_toArray, List.set_cons_zero, List.set_cons_succ, i64_w, i32_w]; rfl
                 refine take_ (i := 7) (N := some 106) (v := ?_) (a' := ?_) #[true, true, true, true, true, true, true, true, false, false] rfl rfl (take_ofW HT_.out HW_.out (by kernel_rfl)) (fun _ _ _ h => h) (Or.inl ⟨by rfl, ?_⟩) hHeld ?_ ?_
                 rotate_left
                 ·rintro w' ⟨s0, s1⟩
                  go_simp
                  with_reducible rfl
                 rotate_left
                 ·simp only [Act.put, List.setIfInBounds_toArray, List.set_cons_zero, List.set_cons_succ, i64_w, i32_w]; rfl
                 refine pure_ (i := 8) (N := some 107) (v := ?_) (a' := ?_) #[true, true, true, true, true, true, true, true, true, false] rfl rfl (any_of HT_.out (by kernel_rfl)) (fun _ _ _ h => h) (Or.inl ⟨by rfl, ?_⟩) ?_ ?_
                 rotate_left
                 ·intro w'
                  go_simp
                  with_reducible rfl
                 rotate_left
                 ·simp only [Act.put, List.setIfInBounds_toArray, List.set_cons_zero, List.set_cons_succ, i64_w, i32_w]; rfl
                 refine pure_ (i := 9) (N := some 108) (v := ?_) (a' := ?_) #[true, true, true, true, true, true, true, true, true, true] rfl rfl (any_of HT_.out (by kernel_rfl)) (fun _ _ _ h => h) (Or.inl ⟨by rfl, ?_⟩) ?_ ?_
                 rotate_left
                 ·intro w'
                  go_simp
                  with_reducible rfl
                 rotate_left
                 ·simp only [Act.put, List.setIfInBounds_toArray, List.set_cons_zero, List.set_cons_succ, i64_w, i32_w]; rfl
                 refine done_ (done_of HT_.out (by kernel_rfl)) ?_
                 try go_wp2
                 go_ret
                 exact ⟨by first | rfl | (simp [errW_none, errW_some] <;> rfl) | (simp [*, errW_none, errW_some] <;> rfl), by repeat (first | (with_reducible first | exact HB.out | apply below_alloc | apply pw_below_drewN | apply below_drew1 | refine below_set ?_ GE326.out) | exact HB.out)⟩
                ·rw [if_neg c60] at H
                 have c60b0 : ((rdOf false t333 x10_3) != (decide ((rd x6_2 x10_3) > 0))) = false := by simpa using c60
                 (try (have c60b1 : decide ((rdOf false t333 x10_3) = (decide ((rd x6_2 x10_3) > 0))) = true := by simpa using c60))
                 (try (have c60b2 : ((rdOf false t333 x10_3) == (decide ((rd x6_2 x10_3) > 0))) = true := by simpa using c60))
                 clear c60
                 have HC63 := Aside0.mk H
                 clear H
                 try go_wp2
                 have n0_ := Aside0.mk (Kd.R_drew HO_4.out); have n1_ := Aside0.mk (Kd.S_drew HO_5.out); have n2_ := Aside0.mk (Kd.R_drew HO_6.out); have n3_ := Aside0.mk (blk_drew BK326.out); have n4_ := Aside0.mk (below_drew1 HB.out); clear HO_4 HO_5 HO_6 BK326 HB; have HO_4 := n0_; have HO_5 := n1_; have HO_6 := n2_; have BK326 := n3_; have HB := n4_; clear n0_ n1_ n2_ n3_ n4_
                 have p352 : 0 ≤ (x10_3 : Int) := of_decide_eq_true (by first | (with_reducible assumption) | assumption)
                 have q352 : x10_3 < (t333.length : Int) := of_decide_eq_true (by first | (with_reducible assumption) | assumption)
                 obtain ⟨ad352, e352, hx352_0⟩ := Kd.at_bool (Kd.R_reads' HO_4.out).2.2 x10_3 p352 q352
                 cases e352
                 replace p352 := eq_true p352
                 replace q352 := eq_true q352
                 obtain ⟨Ao65, co65, eo65⟩ := Kd.R_slice HO_6.out
                 (first | subst eo65 | (injection eo65 with f1_ f2_ f3_; have f4_ := f1_.symm; have f5_ := f3_.symm; clear f1_ f2_ f3_; subst f4_; subst f5_))
                 have p353 : 0 ≤ (x10_3 : Int) := of_decide_eq_true (by first | (with_reducible assumption) | assumption)
                 have q353 : x10_3 < (x6_2.length : Int) := of_decide_eq_true (by first | (with_reducible assumption) | assumption)
                 obtain ⟨ad353, e353, hx353_0⟩ := Kd.at_int (Kd.R_reads' HO_6.out).2.2 x10_3 p353 q353
                 cases e353
                 replace p353 := eq_true p353
                 replace q353 := eq_true q353
                 refine start_ (n := 10) (S := fun w' => w'.cell? (ad352.add (x10_3).toNat) = some (.bool (rdOf false t333 x10_3)) ∧ w'.cell? (ad353.add (x10_3).toNat) = some (.int .i64 (rd x6_2 x10_3))) (ds := []) #[false, false, false, false, false, false, false, false, false, false] (by kernel_rfl) rfl rfl ⟨hx352_0, hx353_0⟩ (fun hHeld => ?_); refine with_tabW plnlaw4_FlowOrders.tab20 plnlaw4_FlowOrders.bits20 (fun HT_ HW_ => ?_)
                 generalize wr.drew = w64 at HO_4 HO_5 HO_6 BK326 HB hx352_0 hx353_0 hHeld ⊢
                 refine pure_ (i := 0) (N := some 99) (v := ?_) (a' := ?_) #[true, false, false, false, false, false, false, false, false, false] rfl rfl (any_of HT_.out (by kernel_rfl)) (fun _ _ _ h => h) (Or.inl ⟨by rfl, ?_⟩) ?_ ?_
                 rotate_left
                 ·intro w'
                  go_simp
                  with_reducible rfl
                 rotate_left
                 ·simp only [Act.put, List.setIfInBounds_toArray, List.set_cons_zero, List.set_cons_succ, i64_w, i32_w]; rfl
                 refine pure_ (i := 1) (N := some 100) (v := ?_) (a' := ?_) #[true, true, false, false, false, false, false, false, false, false] rfl rfl (any_of HT_.out (by kernel_rfl)) (fun _ _ _ h => h) (Or.inl ⟨by rfl, ?_⟩) ?_ ?_
                 rotate_left
                 ·intro w'
                  go_simp
                  with_reducible rfl
                 rotate_left
                 ·simp only [Act.put, List.setIfInBounds_toArray, List.set_cons_zero, List.set_cons_succ, i64_w, i32_w]; rfl
                 refine pure_ (i := 2) (N := some 101) (v := ?_) (a' := ?_) #[true, true, true, false, false, false, false, false, false, false] rfl rfl (any_of HT_.out (by kernel_rfl)) (fun _ _ _ h => h) (Or.inl ⟨by rfl, ?_⟩) ?_ ?_
                 rotate_left
                 ·intro w'
                  go_simp
                  with_reducible rfl
                 rotate_left
                 ·simp only [Act.put, List.setIfInBounds_toArray, List.set_cons_zero, List.set_cons_succ, i64_w, i32_w]; rfl
                 refine pure_ (i := 4) (N := some 103) (v := ?_) (a' := ?_) #[true, true, true, false, true, false, false, false, false, false] rfl rfl (any_of HT_.out (by kernel_rfl)) (fun _ _ _ h => h) (Or.inl ⟨by rfl, ?_⟩) ?_ ?_
                 rotate_left
                 ·intro w'
                  go_simp
                  with_reducible rfl
                 rotate_left
                 ·simp only [Act.put, List.setIfInBounds_toArray, List.set_cons_zero, List.set_cons_succ, i64_w, i32_w]; rfl
                 refine pure_ (i := 5) (N := some 104) (v := ?_) (a' := ?_) #[true, true, true, false, true, true, false, false, false, false] rfl rfl (any_of HT_.out (by kernel_rfl)) (fun _ _ _ h => h) (Or.inl ⟨by rfl, ?_⟩) ?_ ?_
                 rotate_left
                 ·intro w'
                  go_simp
                  with_reducible rfl
                 rotate_left
                 ·simp only [Act.put, List.setIfInBounds_toArray, List.set_cons_zero, List.set_cons_succ, i64_w, i32_w]; rfl
                 refine pure_ (i := 6) (N := some 105) (v := ?_) (a' := ?_) #[true, true, true, false, true, true, true, false, false, false] rfl rfl (any_of HT_.out (by kernel_rfl)) (fun _ _ _ h => h) (Or.inl ⟨by rfl, ?_⟩) ?_ ?_
                 rotate_left
                 ·intro w'
                  go_simp
                  with_reducible rfl
                 rotate_left
                 ·simp only [Act.put, List.setIfInBounds_toArray, List.set_cons_zero, List.set_cons_succ, i64_w, i32_w]; rfl
                 refine take_ (i := 3) (N := some 102) (v := ?_) (a' := ?_) #[true, true, true, true, true, true, true, false, false, false] rfl rfl (take_ofW HT_.out HW_.out (by kernel_rfl)) (fun _ _ _ h => h) (Or.inl ⟨by rfl, ?_⟩) hHeld ?_ ?_
                 rotate_left
                 ·rintro w' ⟨s0, s1⟩
                  go_simp
                  with_reducible rfl
                 rotate_left
                 ·simp only [Act.put, List.setIfInBounds_toArray, List.set_cons_zero, List.set_cons_succ, i64_w, i32_w]; rfl
                 refine take_ (i := 7) (N := some 106) (v := ?_) (a' := ?_) #[true, true, true, true, true, true, true, true, false, false] rfl rfl (take_ofW HT_.out HW_.out (by kernel_rfl)) (fun _ _ _ h => h) (Or.inl ⟨by rfl, ?_⟩) hHeld ?_ ?_
                 rotate_left
                 ·rintro w' ⟨s0, s1⟩
                  go_simp
                  with_reducible rfl
                 rotate_left
                 ·simp only [Act.put, List.setIfInBounds_toArray, List.set_cons_zero, List.set_cons_succ, i64_w, i32_w]; rfl
                 refine pure_ (i := 8) (N := some 107) (v := ?_) (a' := ?_) #[true, true, true, true, true, true, true, true, true, false] rfl rfl (any_of HT_.out (by kernel_rfl)) (fun _ _ _ h => h) (Or.inl ⟨by rfl, ?_⟩) ?_ ?_
                 rotate_left
                 ·intro w'
                  go_simp
                  with_reducible rfl
                 rotate_left
                 ·simp only [Act.put, List.setIfInBounds_toArray, List.set_cons_zero, List.set_cons_succ, i64_w, i32_w]; rfl
                 refine pure_ (i := 9) (N := some 108) (v := ?_) (a' := ?_) #[true, true, true, true, true, true, true, true, true, true] rfl rfl (any_of HT_.out (by kernel_rfl)) (fun _ _ _ h => h) (Or.inl ⟨by rfl, ?_⟩) ?_ ?_
                 rotate_left
                 ·intro w'
                  go_simp
                  with_reducible rfl
                 rotate_left
                 ·simp only [Act.put, List.setIfInBounds_toArray, List.set_cons_zero, List.set_cons_succ, i64_w, i32_w]; rfl
                 refine done_ (done_of HT_.out (by kernel_rfl)) ?_
                 go_upto_region 22 with (fail)
                 go_cut [117] (fun v117 wc => ∃ (kq : Nat) (x117_62 : Bool), v117 = .bool x117_62 ∧ Aside0 (plnlaw4_FlowOrders.j3 kq t333 t336 x6_2 x7_3 x9_3 x10_3 x117_62 a0_0 a0_1 l0_2 a0_3 l0_4 = some r) ∧ Aside0 (kq ≤ k3) ∧ Aside0 (Kd.R Kd.bool 4 wc w.heap.size (fun _ => True) (.slice (some ad352) t333.length co27) t333) ∧ Aside0 (Kd.S (Kd.slice 3 (Kd.int .i64)) 22 wc w.heap.size (fun k_ => some k_ ≠ ((.slice (some ad353) x6_2.length co65) : Value).ownBlock) v337 t336) ∧ Aside0 (Kd.R (Kd.int .i64) 3 wc w.heap.size (fun _ => True) (.slice (some ad353) x6_2.length co65) x6_2) ∧ Aside0 (wc.heap[gb326]? = some (.cells #[.string a0_0, .bool a0_1, (.slice A0_2 l0_2.length c0_2), .int .i64 a0_3, (.slice A0_4 l0_4.length c0_4)] 25 (0, 0))) ∧ Aside0 (Below w.heap.size w wc))
                 case first =>
                  have H := HC63.out
                  clear HC63
                  obtain ⟨bq66, hbq66⟩ : ∃ b_ : Bool, b_ = (rdOf false t333 x10_3) := ⟨_, rfl⟩
                  replace H : (if bq66 = true then (plnlaw4_FlowOrders.j3 k3 t333 t336 x6_2 x7_3 x9_3 x10_3 (x10_3 == 0) a0_0 a0_1 l0_2 a0_3 l0_4) else (plnlaw4_FlowOrders.j3 k3 t333 t336 x6_2 x7_3 x9_3 x10_3 true a0_0 a0_1 l0_2 a0_3 l0_4)) = some r := by rw [← hbq66] at H; exact H
                  have Nbq66 := Aside0.mk hbq66
                  clear hbq66
                  (try rw [← Nbq66.out] at hx352_0)
                  (try clear hHeld)
                  (try rw [← Nbq66.out])
                  by_cases c67 : bq66 = true
                  ·subst c67
                   have H1 : (plnlaw4_FlowOrders.j3 k3 t333 t336 x6_2 x7_3 x9_3 x10_3 (x10_3 == 0) a0_0 a0_1 l0_2 a0_3 l0_4) = some r := by rw [if_pos rfl] at H; exact H
                   clear H; have H := H1; clear H1
                   have H' := Aside0.mk H
                   clear H
                   have p354 : 0 ≤ (x10_3 : Int) := of_decide_eq_true (by first | (with_reducible assumption) | assumption)
                   have q354 : x10_3 < (t333.length : Int) := of_decide_eq_true (by first | (with_reducible assumption) | assumption)
                   obtain ⟨ad354, e354, hx354_0⟩ := Kd.at_bool (Kd.R_reads' HO_4.out).2.2 x10_3 p354 q354
                   (try rw [← Nbq66.out] at hx354_0)
                   obtain rfl : ad352 = ad354 := (by injection e354)
                   replace p354 := eq_true p354
                   replace q354 := eq_true q354
                   go_wp2
                   go_meet
                   case rel => exact ⟨_, ((x10_3 == 0)), (by first | rfl | (simp; done) | (simp [*]; done)), H', ⟨by have := HJ8.out; have := HK2.out; have := HK3.out; first | omega | exact Nat.le_refl _⟩, ⟨by (with_reducible repeat (first | apply Kd.R_alloc | apply Kd.R_drewN | apply Kd.R_drew)); exact HO_4.out⟩, ⟨by (with_reducible repeat (first | apply Kd.S_alloc | apply Kd.S_drewN | apply Kd.S_drew)); exact HO_5.out⟩, ⟨by (with_reducible repeat (first | apply Kd.R_alloc | apply Kd.R_drewN | apply Kd.R_drew)); exact HO_6.out⟩, ⟨by (with_reducible repeat (first | refine blk_drewN ?_ _ | refine blk_drew ?_ | refine blk_alloc ?_ _)); exact BK326.out⟩, ⟨by repeat (first | (with_reducible first | exact HB.out | apply below_alloc | apply pw_below_drewN | apply below_drew1 | refine below_set ?_ GE326.out) | exact HB.out)⟩⟩
                  ·replace c67 := Bool.eq_false_iff.mpr c67
                   subst c67
                   have H1 : (plnlaw4_FlowOrders.j3 k3 t333 t336 x6_2 x7_3 x9_3 x10_3 true a0_0 a0_1 l0_2 a0_3 l0_4) = some r := by rw [if_neg (show ¬ (false = true) by decide)] at H; exact H
                   clear H; have H := H1; clear H1
                   have H' := Aside0.mk H
                   clear H
                   have p354 : 0 ≤ (x10_3 : Int) := of_decide_eq_true (by first | (with_reducible assumption) | assumption)
                   have q354 : x10_3 < (t333.length : Int) := of_decide_eq_true (by first | (with_reducible assumption) | assumption)
                   obtain ⟨ad354, e354, hx354_0⟩ := Kd.at_bool (Kd.R_reads' HO_4.out).2.2 x10_3 p354 q354
                   (try rw [← Nbq66.out] at hx354_0)
                   obtain rfl : ad352 = ad354 := (by injection e354)
                   replace p354 := eq_true p354
                   replace q354 := eq_true q354
                   go_wp2
                   go_meet
                   case rel => exact ⟨_, (true), (by first | rfl | (simp; done) | (simp [*]; done)), H', ⟨by have := HJ8.out; have := HK2.out; have := HK3.out; first | omega | exact Nat.le_refl _⟩, ⟨by (with_reducible repeat (first | apply Kd.R_alloc | apply Kd.R_drewN | apply Kd.R_drew)); exact HO_4.out⟩, ⟨by (with_reducible repeat (first | apply Kd.S_alloc | apply Kd.S_drewN | apply Kd.S_drew)); exact HO_5.out⟩, ⟨by (with_reducible repeat (first | apply Kd.R_alloc | apply Kd.R_drewN | apply Kd.R_drew)); exact HO_6.out⟩, ⟨by (with_reducible repeat (first | refine blk_drewN ?_ _ | refine blk_drew ?_ | refine blk_alloc ?_ _)); exact BK326.out⟩, ⟨by repeat (first | (with_reducible first | exact HB.out | apply below_alloc | apply pw_below_drewN | apply below_drew1 | refine below_set ?_ GE326.out) | exact HB.out)⟩⟩
                 case rest =>
                  clear HC63
                  try clear c1
                  try clear c2
                  try clear p2
                  try clear c3
                  try clear p3
                  try clear q3
                  try clear hx3
                  try clear c4
                  try clear p4
                  try clear q4
                  try clear hx4
                  try clear hf4
                  try clear c5
                  try clear c6
                  try clear p6
                  try clear q6
                  try clear c16
                  try clear c17
                  try clear c18
                  try clear c18b0
                  try clear c18b1
                  try clear c18b2
                  try clear c22
                  try clear c24
                  try clear c25
                  try clear c25b0
                  try clear c25b1
                  try clear c26
                  try clear c26b0
                  try clear c26b1
                  try clear c27
                  try clear c30
                  try clear c30b0
                  try clear c31
                  try clear c31b0
                  try clear c32
                  try clear c32b0
                  try clear c34
                  try clear c34b0
                  try clear p34
                  try clear q34
                  try clear hx34
                  try clear p35
                  try clear q35
                  try clear hx35
                  try clear c37
                  try clear c37b0
                  try clear c38
                  try clear c38b0
                  try clear c39
                  try clear c39b0
                  try clear c39b1
                  try clear c40
                  try clear c40b0
                  try clear c40b1
                  try clear c41
                  try clear c41b0
                  try clear c41b1
                  try clear p42
                  try clear q42
                  try clear hx42
                  try clear hf42
                  try clear p49
                  try clear q49
                  try clear hx49
                  try clear hf49
                  try clear c57
                  try clear c57b0
                  try clear c58
                  try clear c58b0
                  try clear c59
                  try clear c59b0
                  try clear c60
                  try clear c60b0
                  try clear c60b1
                  try clear c60b2
                  try clear p64
                  try clear q66
                  try clear c67
                  try clear hcz12_0
                  try clear hcz12_1
                  try clear hcz12_2
                  try clear hcz12_3
                  try clear hcz12_4
                  try clear hcz20_0
                  try clear hcz20_1
                  try clear hcz20_2
                  try clear hcz20_3
                  try clear hcz20_4
                  try clear hcz23_0
                  try clear hcz23_1
                  try clear hcz23_2
                  try clear hcz23_3
                  try clear hcz23_4
                  try clear hfz12_0
                  try clear hfz12_1
                  try clear hfz12_2
                  try clear hfz12_3
                  try clear hfz12_4
                  try clear hfz20_0
                  try clear hfz20_1
                  try clear hfz20_2
                  try clear hfz20_3
                  try clear hfz20_4
                  try clear hfz23_0
                  try clear hfz23_1
                  try clear hfz23_2
                  try clear hfz23_3
                  try clear hfz23_4
                  try clear hx342_0
                  try clear hx343_0
                  try clear hx344_0
                  try clear hx345_0
                  try clear hx346_0
                  try clear hx347_0
                  try clear hx349_0
                  try clear hx352_0
                  try clear hx353_0
                  try clear hx354_0
                  try clear hx42_0
                  try clear hx49_0
                  try clear p2
                  try clear p3
                  try clear p34
                  try clear p342
                  try clear p343
                  try clear p344
                  try clear p345
                  try clear p346
                  try clear p347
                  try clear p349
                  try clear p352
                  try clear p353
                  try clear p354
                  try clear p4
                  try clear p42
                  try clear p49
                  try clear p6
                  try clear q3
                  try clear q34
                  try clear q342
                  try clear q343
                  try clear q344
                  try clear q345
                  try clear q346
                  try clear q347
                  try clear q349
                  try clear q352
                  try clear q353
                  try clear q354
                  try clear q4
                  try clear q42
                  try clear q49
                  obtain ⟨kq, x117_62, rfl, HA, HJ62, HO_4, HO_5, HO_6, BK326, HB⟩ := hcut
                  cases kq with
                  | zero => exact absurd HA.out (by simp [plnlaw4_FlowOrders.j3])
                  | succ kj62 =>
                   have H := HA.out
                   clear HA
                   simp only [plnlaw4_FlowOrders.j3] at H
                   by_cases c68 : x117_62 = true
                   ·subst c68
                    have H1 : (plnlaw4_FlowOrders.l1 kj62 t333 t336 x6_2 x7_3 x9_3 (wrap64 (x10_3 + 1)) a0_0 a0_1 l0_2 a0_3 l0_4) = some r := by rw [if_pos rfl] at H; exact H
                    clear H; have H := H1; clear H1
                    have H' := Aside0.mk H
                    clear H
                    go_wp2
                    go_roundg kj62
                    case measure => have := HJ8.out; have := HK2.out; have := HK3.out; have := HJ62.out; omega
                    case rel => exact ⟨(x7_3), (x9_3), (wrap64 (x10_3 + 1)), (by first | rfl | (simp; done) | (simp [*]; done)), (by first | rfl | (simp; done) | (simp [*]; done)), (by first | rfl | (simp; done) | (simp [*]; done)), H', ⟨by have := HJ8.out; have := HK2.out; have := HK3.out; have := HJ62.out; omega⟩, ⟨by (with_reducible repeat (first | apply Kd.R_alloc | apply Kd.R_drewN | apply Kd.R_drew)); exact HO_4.out⟩, ⟨by (with_reducible repeat (first | apply Kd.S_alloc | apply Kd.S_drewN | apply Kd.S_drew)); exact HO_5.out⟩, ⟨by (with_reducible repeat (first | apply Kd.R_alloc | apply Kd.R_drewN | apply Kd.R_drew)); exact HO_6.out⟩, ⟨by (with_reducible repeat (first | refine blk_drewN ?_ _ | refine blk_drew ?_ | refine blk_alloc ?_ _)); exact BK326.out⟩, ⟨by repeat (first | (with_reducible first | exact HB.out | apply below_alloc | apply pw_below_drewN | apply below_drew1 | refine below_set ?_ GE326.out) | exact HB.out)⟩⟩
                   ·replace c68 := Bool.eq_false_iff.mpr c68
                    subst c68
                    have H1 : (plnlaw4_FlowOrders.l2 kj62 t333 t336 x6_2 (wrap64 (x7_3 + 1)) x9_3 x10_3 false true 0 a0_0 a0_1 l0_2 a0_3 l0_4) = some r := by rw [if_neg (show ¬ (false = true) by decide)] at H; exact H
                    clear H; have H := H1; clear H1
                    have H' := Aside0.mk H
                    clear H
                    go_wp2
                    go_loopg [11, 12, 13] kj62 (fun kq v11 v12 v13 w' => ∃ (x11_5 : Bool) (x12_5 : Bool) (x13_5 : Int), v11 = .bool x11_5 ∧ v12 = .bool x12_5 ∧ v13 = .int .i64 x13_5 ∧ Aside0 (plnlaw4_FlowOrders.l2 kq t333 t336 x6_2 (wrap64 (x7_3 + 1)) x9_3 x10_3 x11_5 x12_5 x13_5 a0_0 a0_1 l0_2 a0_3 l0_4 = some r) ∧ Aside0 (kq ≤ kj62) ∧ Aside0 (Kd.R Kd.bool 4 w' w.heap.size (fun _ => True) (.slice (some ad352) t333.length co27) t333) ∧ Aside0 (Kd.S (Kd.slice 3 (Kd.int .i64)) 22 w' w.heap.size (fun k_ => some k_ ≠ ((.slice (some ad353) x6_2.length co65) : Value).ownBlock) v337 t336) ∧ Aside0 (Kd.R (Kd.int .i64) 3 w' w.heap.size (fun _ => True) (.slice (some ad353) x6_2.length co65) x6_2) ∧ Aside0 (w'.heap[gb326]? = some (.cells #[.string a0_0, .bool a0_1, (.slice A0_2 l0_2.length c0_2), .int .i64 a0_3, (.slice A0_4 l0_4.length c0_4)] 25 (0, 0))) ∧ Aside0 (Below w.heap.size w w'))
                    case atStart => exact ⟨(false), (true), (0), (by first | rfl | (simp; done) | (simp [*]; done)), (by first | rfl | (simp; done) | (simp [*]; done)), (by first | rfl | (simp; done) | (simp [*]; done)), H', ⟨Nat.le_refl _⟩, ⟨by (with_reducible repeat (first | apply Kd.R_alloc | apply Kd.R_drewN | apply Kd.R_drew)); exact HO_4.out⟩, ⟨by (with_reducible repeat (first | apply Kd.S_alloc | apply Kd.S_drewN | apply Kd.S_drew)); exact HO_5.out⟩, ⟨by (with_reducible repeat (first | apply Kd.R_alloc | apply Kd.R_drewN | apply Kd.R_drew)); exact HO_6.out⟩, ⟨by (with_reducible repeat (first | refine blk_drewN ?_ _ | refine blk_drew ?_ | refine blk_alloc ?_ _)); exact BK326.out⟩, ⟨by repeat (first | (with_reducible first | exact HB.out | apply below_alloc | apply pw_below_drewN | apply below_drew1 | refine below_set ?_ GE326.out) | exact HB.out)⟩⟩
                    case round =>
                     clear H'
                     try clear c1
                     try clear c2
                     try clear p2
                     try clear c3
                     try clear p3
                     try clear q3
                     try clear hx3
                     try clear c4
                     try clear p4
                     try clear q4
                     try clear hx4
                     try clear hf4
                     try clear c5
                     try clear c6
                     try clear p6
                     try clear q6
                     try clear c16
                     try clear c17
                     try clear c18
                     try clear c18b0
                     try clear c18b1
                     try clear c18b2
                     try clear c22
                     try clear c24
                     try clear c25
                     try clear c25b0
                     try clear c25b1
                     try clear c26
                     try clear c26b0
                     try clear c26b1
                     try clear c27
                     try clear c30
                     try clear c30b0
                     try clear c31
                     try clear c31b0
                     try clear c32
                     try clear c32b0
                     try clear c34
                     try clear c34b0
                     try clear p34
                     try clear q34
                     try clear hx34
                     try clear p35
                     try clear q35
                     try clear hx35
                     try clear c37
                     try clear c37b0
                     try clear c38
                     try clear c38b0
                     try clear c39
                     try clear c39b0
                     try clear c39b1
                     try clear c40
                     try clear c40b0
                     try clear c40b1
                     try clear c41
                     try clear c41b0
                     try clear c41b1
                     try clear p42
                     try clear q42
                     try clear hx42
                     try clear hf42
                     try clear p49
                     try clear q49
                     try clear hx49
                     try clear hf49
                     try clear c57
                     try clear c57b0
                     try clear c58
                     try clear c58b0
                     try clear c59
                     try clear c59b0
                     try clear c60
                     try clear c60b0
                     try clear c60b1
                     try clear c60b2
                     try clear p64
                     try clear q66
                     try clear c67
                     try clear c68
                     try clear hcz12_0
                     try clear hcz12_1
                     try clear hcz12_2
                     try clear hcz12_3
                     try clear hcz12_4
                     try clear hcz20_0
                     try clear hcz20_1
                     try clear hcz20_2
                     try clear hcz20_3
                     try clear hcz20_4
                     try clear hcz23_0
                     try clear hcz23_1
                     try clear hcz23_2
                     try clear hcz23_3
                     try clear hcz23_4
                     try clear hfz12_0
                     try clear hfz12_1
                     try clear hfz12_2
                     try clear hfz12_3
                     try clear hfz12_4
                     try clear hfz20_0
                     try clear hfz20_1
                     try clear hfz20_2
                     try clear hfz20_3
                     try clear hfz20_4
                     try clear hfz23_0
                     try clear hfz23_1
                     try clear hfz23_2
                     try clear hfz23_3
                     try clear hfz23_4
                     try clear hx342_0
                     try clear hx343_0
                     try clear hx344_0
                     try clear hx345_0
                     try clear hx346_0
                     try clear hx347_0
                     try clear hx349_0
                     try clear hx352_0
                     try clear hx353_0
                     try clear hx354_0
                     try clear hx42_0
                     try clear hx49_0
                     try clear p2
                     try clear p3
                     try clear p34
                     try clear p342
                     try clear p343
                     try clear p344
                     try clear p345
                     try clear p346
                     try clear p347
                     try clear p349
                     try clear p35
                     try clear p352
                     try clear p353
                     try clear p354
                     try clear p4
                     try clear p42
                     try clear p49
                     try clear p6
                     try clear p64
                     try clear q3
                     try clear q34
                     try clear q342
                     try clear q343
                     try clear q344
                     try clear q345
                     try clear q346
                     try clear q347
                     try clear q349
                     try clear q35
                     try clear q352
                     try clear q353
                     try clear q354
                     try clear q4
                     try clear q42
                     try clear q49
                     try clear q6
                     try clear q66
                     obtain ⟨x11_5, x12_5, x13_5, rfl, rfl, rfl, HA, HK5, HO_4, HO_5, HO_6, BK326, HB⟩ := hrel
                     cases gk with
                     | zero => exact absurd HA.out (by simp [plnlaw4_FlowOrders.l2])
                     | succ k5 =>
                      have H := HA.out
                      clear HA
                      simp only [plnlaw4_FlowOrders.l2] at H
                      by_cases c69 : 0 ≤ x10_3
                      ·rw [if_pos c69] at H
                       have c69b0 : decide (0 ≤ x10_3) = true := decide_eq_true c69
                       clear c69
                       by_cases c70 : x10_3 < (t336.length : Int)
                       ·rw [if_pos c70] at H
                        have c70b0 : decide (x10_3 < (t336.length : Int)) = true := decide_eq_true c70
                        clear c70
                        by_cases c71 : x13_5 < ((rd_L1 t336 x10_3).length : Int)
                        ·rw [if_pos c71] at H
                         have c71b0 : decide (x13_5 < ((rd_L1 t336 x10_3).length : Int)) = true := decide_eq_true c71
                         clear c71
                         by_cases c72 : 0 ≤ x13_5
                         ·rw [if_pos c72] at H
                          have c72b0 : decide (0 ≤ x13_5) = true := decide_eq_true c72
                          clear c72
                          by_cases c73 : (rd (rd_L1 t336 x10_3) x13_5) ≥ 0
                          ·rw [if_pos c73] at H
                           have c73b0 : decide (0 ≤ (rd (rd_L1 t336 x10_3) x13_5)) = true := decide_eq_true c73
                           clear c73
                           by_cases c74 : (rd (rd_L1 t336 x10_3) x13_5) < (x6_2.length : Int)
                           ·rw [if_pos c74] at H
                            have c74b0 : decide ((rd (rd_L1 t336 x10_3) x13_5) < (x6_2.length : Int)) = true := decide_eq_true c74
                            clear c74
                            by_cases c75 : 0 ≤ (rd (rd_L1 t336 x10_3) x13_5)
                            ·rw [if_pos c75] at H
                             have c75b0 : decide (0 ≤ (rd (rd_L1 t336 x10_3) x13_5)) = true := decide_eq_true c75
                             clear c75
                             by_cases c76 : (rd x6_2 (rd (rd_L1 t336 x10_3) x13_5)) > 0
                             ·rw [if_pos c76] at H
                              have c76b0 : decide (0 < (rd x6_2 (rd (rd_L1 t336 x10_3) x13_5))) = true := decide_eq_true c76
                              clear c76
                              by_cases c77 : x11_5 = true
                              ·subst c77
                               have H1 : (if x12_5 = true then (if x10_3 < (x6_2.length : Int) then (plnlaw4_FlowOrders.l2 k5 t333 t336 x6_2 (wrap64 (x7_3 + 1)) x9_3 x10_3 true (decide ((rd x6_2 (rd (rd_L1 t336 x10_3) x13_5)) < (rd x6_2 x10_3))) (wrap64 (x13_5 + 1)) a0_0 a0_1 l0_2 a0_3 l0_4) else (none)) else (plnlaw4_FlowOrders.l2 k5 t333 t336 x6_2 (wrap64 (x7_3 + 1)) x9_3 x10_3 true false (wrap64 (x13_5 + 1)) a0_0 a0_1 l0_2 a0_3 l0_4)) = some r := by rw [if_pos rfl] at H; exact H
                               clear H; have H := H1; clear H1
                               by_cases c78 : x12_5 = true
                               ·subst c78
                                have H1 : (if x10_3 < (x6_2.length : Int) then (plnlaw4_FlowOrders.l2 k5 t333 t336 x6_2 (wrap64 (x7_3 + 1)) x9_3 x10_3 true (decide ((rd x6_2 (rd (rd_L1 t336 x10_3) x13_5)) < (rd x6_2 x10_3))) (wrap64 (x13_5 + 1)) a0_0 a0_1 l0_2 a0_3 l0_4) else (none)) = some r := by rw [if_pos rfl] at H; exact H
                                clear H; have H := H1; clear H1
                                by_cases c79 : x10_3 < (x6_2.length : Int)
                                ·rw [if_pos c79] at H
                                 have c79b0 : decide (x10_3 < (x6_2.length : Int)) = true := decide_eq_true c79
                                 clear c79
                                 have H' := Aside0.mk H
                                 clear H
                                 obtain ⟨Ao80, co80, eo80⟩ := Kd.S_slice HO_5.out
                                 subst eo80
                                 have p355 : 0 ≤ (x10_3 : Int) := of_decide_eq_true (by first | (with_reducible assumption) | assumption)
                                 have q355 : x10_3 < (t336.length : Int) := of_decide_eq_true (by first | (with_reducible assumption) | assumption)
                                 obtain ⟨ad355, A355_0, c355_0, e355, hx355_0, hl355_0, hi355_0⟩ := at_L1 (Kd.S_reads' HO_5.out).2.2 x10_3 p355 q355
                                 cases e355
                                 obtain ⟨ce355, hce355, hMe355, hcc355⟩ := Kd.S_get HO_5.out [] x10_3 p355 (by first | exact q355 | exact of_decide_eq_true (by first | (with_reducible assumption) | assumption) | (have e_ := (Kd.S_reads' HO_5.out).1; omega))
                                 obtain ⟨ve355_0, rfl, ge355_0⟩ := hMe355
                                 have hv355_0 := hcc355 0 _ rfl
                                 rw [Nat.add_zero, show ((Kd.slice 3 (Kd.int .i64))).sz = 1 from rfl, Nat.mul_one] at hv355_0
                                 replace hv355_0 := Option.some.inj (hv355_0.symm.trans hx355_0)
                                 rw [hv355_0] at ge355_0
                                 have HL355_0 := Aside0.mk (show Kd.R (Kd.int .i64) 3 _ _ _ _ (rd_L1 t336 x10_3) from ge355_0); clear hv355_0 ge355_0 hcc355 hce355
                                 have HR355_0 := Aside0.mk hi355_0
                                 have HC355_0 := Aside0.mk hl355_0
                                 clear hi355_0 hl355_0
                                 replace p355 := eq_true p355
                                 replace q355 := eq_true q355
                                 have p356 : 0 ≤ (x10_3 : Int) := of_decide_eq_true (by first | (with_reducible assumption) | assumption)
                                 have q356 : x10_3 < (t336.length : Int) := of_decide_eq_true (by first | (with_reducible assumption) | assumption)
                                 obtain ⟨ad356, A356_0, c356_0, e356, hx356_0, hl356_0, hi356_0⟩ := at_L1 (Kd.S_reads' HO_5.out).2.2 x10_3 p356 q356
                                 obtain rfl : ad355 = ad356 := (by injection e356)
                                 obtain ⟨ce356, hce356, hMe356, hcc356⟩ := Kd.S_get HO_5.out [] x10_3 p356 (by first | exact q356 | exact of_decide_eq_true (by first | (with_reducible assumption) | assumption) | (have e_ := (Kd.S_reads' HO_5.out).1; omega))
                                 obtain ⟨ve356_0, rfl, ge356_0⟩ := hMe356
                                 have hv356_0 := hcc356 0 _ rfl
                                 rw [Nat.add_zero, show ((Kd.slice 3 (Kd.int .i64))).sz = 1 from rfl, Nat.mul_one] at hv356_0
                                 replace hv356_0 := Option.some.inj (hv356_0.symm.trans hx356_0)
                                 rw [hv356_0] at ge356_0
                                 have HL356_0 := Aside0.mk (show Kd.R (Kd.int .i64) 3 _ _ _ _ (rd_L1 t336 x10_3) from ge356_0); clear hv356_0 ge356_0 hcc356 hce356
                                 have HR356_0 := Aside0.mk hi356_0
                                 have HC356_0 := Aside0.mk hl356_0
                                 clear hi356_0 hl356_0
                                 replace p356 := eq_true p356
                                 replace q356 := eq_true q356
                                 have ea_ := Option.some.inj (hx355_0.symm.trans hx356_0)
                                 injection ea_ with ea_ en_ ec_
                                 subst ea_
                                 subst ec_
                                 clear en_
                                 have p357 : 0 ≤ (x13_5 : Int) := of_decide_eq_true (by first | (with_reducible assumption) | assumption)
                                 have q357 : x13_5 < ((rd_L1 t336 x10_3).length : Int) := of_decide_eq_true (by first | (with_reducible assumption) | assumption)
                                 obtain ⟨ad357, e357, hx357_0⟩ := Kd.at_int (by repeat (first | (with_reducible exact HR356_0.out) | (with_reducible refine Kd.C_alloc ?_ _) | (with_reducible refine Kd.C_drewN ?_ _) | (with_reducible refine Kd.C_drew ?_) | exact HR356_0.out)) x13_5 p357 q357
                                 cases e357
                                 replace p357 := eq_true p357
                                 replace q357 := eq_true q357
                                 have p358 : 0 ≤ ((rd (rd_L1 t336 x10_3) x13_5) : Int) := of_decide_eq_true (by first | (with_reducible assumption) | assumption)
                                 have q358 : (rd (rd_L1 t336 x10_3) x13_5) < (x6_2.length : Int) := of_decide_eq_true (by first | (with_reducible assumption) | assumption)
                                 obtain ⟨ad358, e358, hx358_0⟩ := Kd.at_int (Kd.R_reads' HO_6.out).2.2 (rd (rd_L1 t336 x10_3) x13_5) p358 q358
                                 obtain rfl : ad353 = ad358 := (by injection e358)
                                 replace p358 := eq_true p358
                                 replace q358 := eq_true q358
                                 try go_wp2
                                 have n0_ := Aside0.mk (Kd.R_drew HO_4.out); have n1_ := Aside0.mk (Kd.S_drew HO_5.out); have n2_ := Aside0.mk (Kd.R_drew HO_6.out); have n3_ := Aside0.mk (Kd.R_drew HL355_0.out); have n4_ := Aside0.mk (Kd.R_drew HL356_0.out); have n5_ := Aside0.mk (blk_drew BK326.out); have n6_ := Aside0.mk (Kd.C_drew HR355_0.out); have n7_ := Aside0.mk (Kd.C_drew HR356_0.out); have n8_ := Aside0.mk (below_drew1 HB.out); clear HO_4 HO_5 HO_6 HL355_0 HL356_0 BK326 HR355_0 HR356_0 HB; have HO_4 := n0_; have HO_5 := n1_; have HO_6 := n2_; have HL355_0 := n3_; have HL356_0 := n4_; have BK326 := n5_; have HR355_0 := n6_; have HR356_0 := n7_; have HB := n8_; clear n0_ n1_ n2_ n3_ n4_ n5_ n6_ n7_ n8_
                                 refine start_ (n := 13) (S := fun w' => True) (ds := []) #[false, false, false, false, false, false, false, false, false, false, false, false, false] (by kernel_rfl) rfl rfl trivial (fun hHeld => ?_); refine with_tabW plnlaw4_FlowOrders.tab30 plnlaw4_FlowOrders.bits30 (fun HT_ HW_ => ?_)
                                 generalize wr.drew = w81 at HO_4 HO_5 HO_6 HL355_0 HL356_0 BK326 HR355_0 HR356_0 HB hHeld ⊢
                                 refine pure_ (i := 0) (N := some 151) (v := ?_) (a' := ?_) #[true, false, false, false, false, false, false, false, false, false, false, false, false] rfl rfl (any_of HT_.out (by kernel_rfl)) (fun _ _ _ h => h) (Or.inl ⟨by rfl, ?_⟩) ?_ ?_
                                 rotate_left
                                 ·intro w'
                                  go_simp
                                  with_reducible rfl
                                 rotate_left
                                 ·simp only [Act.put, List.setIfInBounds_toArray, List.set_cons_zero, List.set_cons_succ, i64_w, i32_w]; rfl
                                 refine pure_ (i := 1) (N := some 152) (v := ?_) (a' := ?_) #[true, true, false, false, false, false, false, false, false, false, false, false, false] rfl rfl (any_of HT_.out (by kernel_rfl)) (fun _ _ _ h => h) (Or.inl ⟨by rfl, ?_⟩) ?_ ?_
                                 rotate_left
                                 ·intro w'
                                  go_simp
                                  with_reducible rfl
                                 rotate_left
                                 ·simp only [Act.put, List.setIfInBounds_toArray, List.set_cons_zero, List.set_cons_succ, i64_w, i32_w]; rfl
                                 refine pure_ (i := 2) (N := some 153) (v := undef) (a' := ?_) #[true, true, true, false, false, false, false, false, false, false, false, false, false] rfl rfl (any_of HT_.out (by kernel_rfl)) (fun _ _ _ h => h) (Or.inr ⟨by rfl, rfl⟩) ?_ ?_
                                 rotate_left
                                 ·simp only [Act.put, List.setIfInBounds_toArray, List.set_cons_zero, List.set_cons_succ, i64_w, i32_w]; rfl
                                 refine pure_ (i := 3) (N := some 154) (v := undef) (a' := ?_) #[true, true, true, true, false, false, false, false, false, false, false, false, false] rfl rfl (any_of HT_.out (by kernel_rfl)) (fun _ _ _ h => h) (Or.inr ⟨by rfl, rfl⟩) ?_ ?_
                                 rotate_left
                                 ·simp only [Act.put, List.setIfInBounds_toArray, List.set_cons_zero, List.set_cons_succ, i64_w, i32_w]; rfl
                                 refine pure_ (i := 4) (N := some 155) (v := undef) (a' := ?_) #[true, true, true, true, true, false, false, false, false, false, false, false, false] rfl rfl (any_of HT_.out (by kernel_rfl)) (fun _ _ _ h => h) (Or.inr ⟨by rfl, rfl⟩) ?_ ?_
                                 rotate_left
                                 ·simp only [Act.put, List.setIfInBounds_toArray, List.set_cons_zero, List.set_cons_succ, i64_w, i32_w]; rfl
                                 refine pure_ (i := 5) (N := some 156) (v := undef) (a' := ?_) #[true, true, true, true, true, true, false, false, false, false, false, false, false] rfl rfl (any_of HT_.out (by kernel_rfl)) (fun _ _ _ h => h) (Or.inr ⟨by rfl, rfl⟩) ?_ ?_
                                 rotate_left
                                 ·simp only [Act.put, List.setIfInBounds_toArray, List.set_cons_zero, List.set_cons_succ, i64_w, i32_w]; rfl
                                 refine pure_ (i := 6) (N := some 157) (v := undef) (a' := ?_) #[true, true, true, true, true, true, true, false, false, false, false, false, false] rfl rfl (any_of HT_.out (by kernel_rfl)) (fun _ _ _ h => h) (Or.inr ⟨by rfl, rfl⟩) ?_ ?_
                                 rotate_left
                                 ·simp only [Act.put, List.setIfInBounds_toArray, List.set_cons_zero, List.set_cons_succ, i64_w, i32_w]; rfl
                                 refine pure_ (i := 7) (N := some 158) (v := undef) (a' := ?_) #[true, true, true, true, true, true, true, true, false, false, false, false, false] rfl rfl (any_of HT_.out (by kernel_rfl)) (fun _ _ _ h => h) (Or.inr ⟨by rfl, rfl⟩) ?_ ?_
                                 rotate_left
                                 ·simp only [Act.put, List.setIfInBounds_toArray, List.set_cons_zero, List.set_cons_succ, i64_w, i32_w]; rfl
                                 refine pure_ (i := 8) (N := some 159) (v := undef) (a' := ?_) #[true, true, true, true, true, true, true, true, true, false, false, false, false] rfl rfl (any_of HT_.out (by kernel_rfl)) (fun _ _ _ h => h) (Or.inr ⟨by rfl, rfl⟩) ?_ ?_
                                 rotate_left
                                 ·simp only [Act.put, List.setIfInBounds_toArray, List.set_cons_zero, List.set_cons_succ, i64_w, i32_w]; rfl
                                 refine pure_ (i := 9) (N := some 160) (v := undef) (a' := ?_) #[true, true, true, true, true, true, true, true, true, true, false, false, false] rfl rfl (any_of HT_.out (by kernel_rfl)) (fun _ _ _ h => h) (Or.inr ⟨by rfl, rfl⟩) ?_ ?_
                                 rotate_left
                                 ·simp only [Act.put, List.setIfInBounds_toArray, List.set_cons_zero, List.set_cons_succ, i64_w, i32_w]; rfl
                                 refine pure_ (i := 10) (N := some 161) (v := undef) (a' := ?_) #[true, true, true, true, true, true, true, true, true, true, true, false, false] rfl rfl (any_of HT_.out (by kernel_rfl)) (fun _ _ _ h => h) (Or.inr ⟨by rfl, rfl⟩) ?_ ?_
                                 rotate_left
                                 ·simp only [Act.put, List.setIfInBounds_toArray, List.set_cons_zero, List.set_cons_succ, i64_w, i32_w]; rfl
                                 refine pure_ (i := 11) (N := some 162) (v := ?_) (a' := ?_) #[true, true, true, true, true, true, true, true, true, true, true, true, false] rfl rfl (any_of HT_.out (by kernel_rfl)) (fun _ _ _ h => h) (Or.inl ⟨by rfl, ?_⟩) ?_ ?_
                                 rotate_left
                                 ·intro w'
                                  go_simp
                                  with_reducible rfl
                                 rotate_left
                                 ·simp only [Act.put, List.setIfInBounds_toArray, List.set_cons_zero, List.set_cons_succ, i64_w, i32_w]; rfl
                                 refine pure_ (i := 12) (N := some 11) (v := ?_) (a' := ?_) #[true, true, true, true, true, true, true, true, true, true, true, true, true] rfl rfl (any_of HT_.out (by kernel_rfl)) (fun _ _ _ h => h) (Or.inl ⟨by rfl, ?_⟩) ?_ ?_
                                 rotate_left
                                 ·intro w'
                                  go_simp
                                  with_reducible rfl
                                 rotate_left
                                 ·simp only [Act.put, List.setIfInBounds_toArray, List.set_cons_zero, List.set_cons_succ, i64_w, i32_w]; rfl
                                 refine done_ (done_of HT_.out (by kernel_rfl)) ?_
                                 try go_wp2
                                 have n0_ := Aside0.mk (Kd.R_drew HO_4.out); have n1_ := Aside0.mk (Kd.S_drew HO_5.out); have n2_ := Aside0.mk (Kd.R_drew HO_6.out); have n3_ := Aside0.mk (Kd.R_drew HL355_0.out); have n4_ := Aside0.mk (Kd.R_drew HL356_0.out); have n5_ := Aside0.mk (blk_drew BK326.out); have n6_ := Aside0.mk (Kd.C_drew HR355_0.out); have n7_ := Aside0.mk (Kd.C_drew HR356_0.out); have n8_ := Aside0.mk (below_drew1 HB.out); clear HO_4 HO_5 HO_6 HL355_0 HL356_0 BK326 HR355_0 HR356_0 HB; have HO_4 := n0_; have HO_5 := n1_; have HO_6 := n2_; have HL355_0 := n3_; have HL356_0 := n4_; have BK326 := n5_; have HR355_0 := n6_; have HR356_0 := n7_; have HB := n8_; clear n0_ n1_ n2_ n3_ n4_ n5_ n6_ n7_ n8_
                                 have p359 : 0 ≤ ((rd (rd_L1 t336 x10_3) x13_5) : Int) := of_decide_eq_true (by first | (with_reducible assumption) | assumption)
                                 have q359 : (rd (rd_L1 t336 x10_3) x13_5) < (x6_2.length : Int) := of_decide_eq_true (by first | (with_reducible assumption) | assumption)
                                 obtain ⟨ad359, e359, hx359_0⟩ := Kd.at_int (Kd.R_reads' HO_6.out).2.2 (rd (rd_L1 t336 x10_3) x13_5) p359 q359
                                 obtain rfl : ad353 = ad359 := (by injection e359)
                                 replace p359 := eq_true p359
                                 replace q359 := eq_true q359
                                 have p360 : 0 ≤ (x10_3 : Int) := of_decide_eq_true (by first | (with_reducible assumption) | assumption)
                                 have q360 : x10_3 < (x6_2.length : Int) := of_decide_eq_true (by first | (with_reducible assumption) | assumption)
                                 obtain ⟨ad360, e360, hx360_0⟩ := Kd.at_int (Kd.R_reads' HO_6.out).2.2 x10_3 p360 q360
                                 obtain rfl : ad353 = ad360 := (by injection e360)
                                 replace p360 := eq_true p360
                                 replace q360 := eq_true q360
                                 refine start_ (n := 13) (S := fun w' => w'.cell? (ad353.add ((rd (rd_L1 t336 x10_3) x13_5)).toNat) = some (.int .i64 (rd x6_2 (rd (rd_L1 t336 x10_3) x13_5))) ∧ w'.cell? (ad353.add (x10_3).toNat) = some (.int .i64 (rd x6_2 x10_3))) (ds := []) #[false, false, false, false, false, false, false, false, false, false, false, false, false] (by kernel_rfl) rfl rfl ⟨hx359_0, hx360_0⟩ (fun hHeld => ?_); refine with_tabW plnlaw4_FlowOrders.tab31 plnlaw4_FlowOrders.bits31 (fun HT_ HW_ => ?_)
                                 generalize w81.drew = w82 at HO_4 HO_5 HO_6 HL355_0 HL356_0 BK326 HR355_0 HR356_0 HB hx359_0 hx360_0 hHeld ⊢
                                 refine pure_ (i := 0) (N := some 163) (v := ?_) (a' := ?_) #[true, false, false, false, false, false, false, false, false, false, false, false, false] rfl rfl (any_of HT_.out (by kernel_rfl)) (fun _ _ _ h => h) (Or.inl ⟨by rfl, ?_⟩) ?_ ?_
                                 rotate_left
                                 ·intro w'
                                  go_simp
                                  with_reducible rfl
                                 rotate_left
                                 ·simp only [Act.put, List.setIfInBounds_toArray, List.set_cons_zero, List.set_cons_succ, i64_w, i32_w]; rfl
                                 refine pure_ (i := 1) (N := some 164) (v := ?_) (a' := ?_) #[true, true, false, false, false, false, false, false, false, false, false, false, false] rfl rfl (any_of HT_.out (by kernel_rfl)) (fun _ _ _ h => h) (Or.inl ⟨by rfl, ?_⟩) ?_ ?_
                                 rotate_left
                                 ·intro w'
                                  go_simp
                                  with_reducible rfl
                                 rotate_left
                                 ·simp only [Act.put, List.setIfInBounds_toArray, List.set_cons_zero, List.set_cons_succ, i64_w, i32_w]; rfl
                                 refine pure_ (i := 2) (N := some 165) (v := ?_) (a' := ?_) #[true, true, true, false, false, false, false, false, false, false, false, false, false] rfl rfl (any_of HT_.out (by kernel_rfl)) (fun _ _ _ h => h) (Or.inl ⟨by rfl, ?_⟩) ?_ ?_
                                 rotate_left
                                 ·intro w'
                                  go_simp
                                  with_reducible rfl
                                 rotate_left
                                 ·simp only [Act.put, List.setIfInBounds_toArray, List.set_cons_zero, List.set_cons_succ, i64_w, i32_w]; rfl
                                 refine pure_ (i := 3) (N := some 166) (v := ?_) (a' := ?_) #[true, true, true, true, false, false, false, false, false, false, false, false, false] rfl rfl (any_of HT_.out (by kernel_rfl)) (fun _ _ _ h => h) (Or.inl ⟨by rfl, ?_⟩) ?_ ?_
                                 rotate_left
                                 ·intro w'
                                  go_simp
                                  with_reducible rfl
                                 rotate_left
                                 ·simp only [Act.put, List.setIfInBounds_toArray, List.set_cons_zero, List.set_cons_succ, i64_w, i32_w]; rfl
                                 refine pure_ (i := 4) (N := some 167) (v := ?_) (a' := ?_) #[true, true, true, true, true, false, false, false, false, false, false, false, false] rfl rfl (any_of HT_.out (by kernel_rfl)) (fun _ _ _ h => h) (Or.inl ⟨by rfl, ?_⟩) ?_ ?_
                                 rotate_left
                                 ·intro w'
                                  go_simp
                                  with_reducible rfl
                                 rotate_left
                                 ·simp only [Act.put, List.setIfInBounds_toArray, List.set_cons_zero, List.set_cons_succ, i64_w, i32_w]; rfl
                                 refine pure_ (i := 6) (N := some 169) (v := ?_) (a' := ?_) #[true, true, true, true, true, false, true, false, false, false, false, false, false] rfl rfl (any_of HT_.out (by kernel_rfl)) (fun _ _ _ h => h) (Or.inl ⟨by rfl, ?_⟩) ?_ ?_
                                 rotate_left
                                 ·intro w'
                                  go_simp
                                  with_reducible rfl
                                 rotate_left
                                 ·simp only [Act.put, List.setIfInBounds_toArray, List.set_cons_zero, List.set_cons_succ, i64_w, i32_w]; rfl
                                 refine pure_ (i := 7) (N := some 170) (v := ?_) (a' := ?_) #[true, true, true, true, true, false, true, true, false, false, false, false, false] rfl rfl (any_of HT_.out (by kernel_rfl)) (fun _ _ _ h => h) (Or.inl ⟨by rfl, ?_⟩) ?_ ?_
                                 rotate_left
                                 ·intro w'
                                  go_simp
                                  with_reducible rfl
                                 rotate_left
                                 ·simp only [Act.put, List.setIfInBounds_toArray, List.set_cons_zero, List.set_cons_succ, i64_w, i32_w]; rfl
                                 refine pure_ (i := 8) (N := some 171) (v := ?_) (a' := ?_) #[true, true, true, true, true, false, true, true, true, false, false, false, false] rfl rfl (any_of HT_.out (by kernel_rfl)) (fun _ _ _ h => h) (Or.inl ⟨by rfl, ?_⟩) ?_ ?_
                                 rotate_left
                                 ·intro w'
                                  go_simp
                                  with_reducible rfl
                                 rotate_left
                                 ·simp only [Act.put, List.setIfInBounds_toArray, List.set_cons_zero, List.set_cons_succ, i64_w, i32_w]; rfl
                                 refine take_ (i := 5) (N := some 168) (v := ?_) (a' := ?_) #[true, true, true, true, true, true, true, true, true, false, false, false, false] rfl rfl (take_ofW HT_.out HW_.out (by kernel_rfl)) (fun _ _ _ h => h) (Or.inl ⟨by rfl, ?_⟩) hHeld ?_ ?_
                                 rotate_left
                                 ·rintro w' ⟨s0, s1⟩
                                  go_simp
                                  with_reducible rfl
                                 rotate_left
                                 ·simp only [Act.put, List.setIfInBounds_toArray, List.set_cons_zero, List.set_cons_succ, i64_w, i32_w]; rfl
                                 refine take_ (i := 9) (N := some 172) (v := ?_) (a' := ?_) #[true, true, true, true, true, true, true, true, true, true, false, false, false] rfl rfl (take_ofW HT_.out HW_.out (by kernel_rfl)) (fun _ _ _ h => h) (Or.inl ⟨by rfl, ?_⟩) hHeld ?_ ?_
                                 rotate_left
                                 ·rintro w' ⟨s0, s1⟩
                                  go_simp
                                  with_reducible rfl
                                 rotate_left
                                 ·simp only [Act.put, List.setIfInBounds_toArray, List.set_cons_zero, List.set_cons_succ, i64_w, i32_w]; rfl
                                 refine pure_ (i := 10) (N := some 173) (v := ?_) (a' := ?_) #[true, true, true, true, true, true, true, true, true, true, true, false, false] rfl rfl (any_of HT_.out (by kernel_rfl)) (fun _ _ _ h => h) (Or.inl ⟨by rfl, ?_⟩) ?_ ?_
                                 rotate_left
                                 ·intro w'
                                  go_simp
                                  with_reducible rfl
                                 rotate_left
                                 ·simp only [Act.put, List.setIfInBounds_toArray, List.set_cons_zero, List.set_cons_succ, i64_w, i32_w]; rfl
                                 refine pure_ (i := 11) (N := some 174) (v := ?_) (a' := ?_) #[true, true, true, true, true, true, true, true, true, true, true, true, false] rfl rfl (any_of HT_.out (by kernel_rfl)) (fun _ _ _ h => h) (Or.inl ⟨by rfl, ?_⟩) ?_ ?_
                                 rotate_left
                                 ·intro w'
                                  go_simp
                                  with_reducible rfl
                                 rotate_left
                                 ·simp only [Act.put, List.setIfInBounds_toArray, List.set_cons_zero, List.set_cons_succ, i64_w, i32_w]; rfl
                                 refine pure_ (i := 12) (N := some 12) (v := ?_) (a' := ?_) #[true, true, true, true, true, true, true, true, true, true, true, true, true] rfl rfl (any_of HT_.out (by kernel_rfl)) (fun _ _ _ h => h) (Or.inl ⟨by rfl, ?_⟩) ?_ ?_
                                 rotate_left
                                 ·intro w'
                                  go_simp
                                  with_reducible rfl
                                 rotate_left
                                 ·simp only [Act.put, List.setIfInBounds_toArray, List.set_cons_zero, List.set_cons_succ, i64_w, i32_w]; rfl
                                 refine done_ (done_of HT_.out (by kernel_rfl)) ?_
                                 try go_wp2
                                 go_roundg k5
                                 case measure => have := HJ8.out; have := HK2.out; have := HK3.out; have := HJ62.out; have := HK5.out; omega
                                 case rel => exact ⟨(true), (decide ((rd x6_2 (rd (rd_L1 t336 x10_3) x13_5)) < (rd x6_2 x10_3))), (wrap64 (x13_5 + 1)), (by first | rfl | (simp; done) | (simp [*]; done)), (by first | rfl | (simp; done) | (simp [*]; done)), (by first | rfl | (simp; done) | (simp [*]; done)), H', ⟨by have := HJ8.out; have := HK2.out; have := HK3.out; have := HJ62.out; have := HK5.out; omega⟩, ⟨by (with_reducible repeat (first | apply Kd.R_alloc | apply Kd.R_drewN | apply Kd.R_drew)); exact HO_4.out⟩, ⟨by (with_reducible repeat (first | apply Kd.S_alloc | apply Kd.S_drewN | apply Kd.S_drew)); exact HO_5.out⟩, ⟨by (with_reducible repeat (first | apply Kd.R_alloc | apply Kd.R_drewN | apply Kd.R_drew)); exact HO_6.out⟩, ⟨by (with_reducible repeat (first | refine blk_drewN ?_ _ | refine blk_drew ?_ | refine blk_alloc ?_ _)); exact BK326.out⟩, ⟨by repeat (first | (with_reducible first | exact HB.out | apply below_alloc | apply pw_below_drewN | apply below_drew1 | refine below_set ?_ GE326.out) | exact HB.out)⟩⟩
                                ·rw [if_neg c79] at H
                                 exact absurd H (by simp)
                               ·replace c78 := Bool.eq_false_iff.mpr c78
                                subst c78
                                have H1 : (plnlaw4_FlowOrders.l2 k5 t333 t336 x6_2 (wrap64 (x7_3 + 1)) x9_3 x10_3 true false (wrap64 (x13_5 + 1)) a0_0 a0_1 l0_2 a0_3 l0_4) = some r := by rw [if_neg (show ¬ (false = true) by decide)] at H; exact H
                                clear H; have H := H1; clear H1
                                have H' := Aside0.mk H
                                clear H
                                obtain ⟨Ao83, co83, eo83⟩ := Kd.S_slice HO_5.out
                                subst eo83
                                have p355 : 0 ≤ (x10_3 : Int) := of_decide_eq_true (by first | (with_reducible assumption) | assumption)
                                have q355 : x10_3 < (t336.length : Int) := of_decide_eq_true (by first | (with_reducible assumption) | assumption)
                                obtain ⟨ad355, A355_0, c355_0, e355, hx355_0, hl355_0, hi355_0⟩ := at_L1 (Kd.S_reads' HO_5.out).2.2 x10_3 p355 q355
                                cases e355
                                obtain ⟨ce355, hce355, hMe355, hcc355⟩ := Kd.S_get HO_5.out [] x10_3 p355 (by first | exact q355 | exact of_decide_eq_true (by first | (with_reducible assumption) | assumption) | (have e_ := (Kd.S_reads' HO_5.out).1; omega))
                                obtain ⟨ve355_0, rfl, ge355_0⟩ := hMe355
                                have hv355_0 := hcc355 0 _ rfl
                                rw [Nat.add_zero, show ((Kd.slice 3 (Kd.int .i64))).sz = 1 from rfl, Nat.mul_one] at hv355_0
                                replace hv355_0 := Option.some.inj (hv355_0.symm.trans hx355_0)
                                rw [hv355_0] at ge355_0
                                have HL355_0 := Aside0.mk (show Kd.R (Kd.int .i64) 3 _ _ _ _ (rd_L1 t336 x10_3) from ge355_0); clear hv355_0 ge355_0 hcc355 hce355
                                have HR355_0 := Aside0.mk hi355_0
                                have HC355_0 := Aside0.mk hl355_0
                                clear hi355_0 hl355_0
                                replace p355 := eq_true p355
                                replace q355 := eq_true q355
                                have p356 : 0 ≤ (x10_3 : Int) := of_decide_eq_true (by first | (with_reducible assumption) | assumption)
                                have q356 : x10_3 < (t336.length : Int) := of_decide_eq_true (by first | (with_reducible assumption) | assumption)
                                obtain ⟨ad356, A356_0, c356_0, e356, hx356_0, hl356_0, hi356_0⟩ := at_L1 (Kd.S_reads' HO_5.out).2.2 x10_3 p356 q356
                                obtain rfl : ad355 = ad356 := (by injection e356)
                                obtain ⟨ce356, hce356, hMe356, hcc356⟩ := Kd.S_get HO_5.out [] x10_3 p356 (by first | exact q356 | exact of_decide_eq_true (by first | (with_reducible assumption) | assumption) | (have e_ := (Kd.S_reads' HO_5.out).1; omega))
                                obtain ⟨ve356_0, rfl, ge356_0⟩ := hMe356
                                have hv356_0 := hcc356 0 _ rfl
                                rw [Nat.add_zero, show ((Kd.slice 3 (Kd.int .i64))).sz = 1 from rfl, Nat.mul_one] at hv356_0
                                replace hv356_0 := Option.some.inj (hv356_0.symm.trans hx356_0)
                                rw [hv356_0] at ge356_0
                                have HL356_0 := Aside0.mk (show Kd.R (Kd.int .i64) 3 _ _ _ _ (rd_L1 t336 x10_3) from ge356_0); clear hv356_0 ge356_0 hcc356 hce356
                                have HR356_0 := Aside0.mk hi356_0
                                have HC356_0 := Aside0.mk hl356_0
                                clear hi356_0 hl356_0
                                replace p356 := eq_true p356
                                replace q356 := eq_true q356
                                have ea_ := Option.some.inj (hx355_0.symm.trans hx356_0)
                                injection ea_ with ea_ en_ ec_
                                subst ea_
                                subst ec_
                                clear en_
                                have p357 : 0 ≤ (x13_5 : Int) := of_decide_eq_true (by first | (with_reducible assumption) | assumption)
                                have q357 : x13_5 < ((rd_L1 t336 x10_3).length : Int) := of_decide_eq_true (by first | (with_reducible assumption) | assumption)
                                obtain ⟨ad357, e357, hx357_0⟩ := Kd.at_int (by repeat (first | (with_reducible exact HR356_0.out) | (with_reducible refine Kd.C_alloc ?_ _) | (with_reducible refine Kd.C_drewN ?_ _) | (with_reducible refine Kd.C_drew ?_) | exact HR356_0.out)) x13_5 p357 q357
                                cases e357
                                replace p357 := eq_true p357
                                replace q357 := eq_true q357
                                have p358 : 0 ≤ ((rd (rd_L1 t336 x10_3) x13_5) : Int) := of_decide_eq_true (by first | (with_reducible assumption) | assumption)
                                have q358 : (rd (rd_L1 t336 x10_3) x13_5) < (x6_2.length : Int) := of_decide_eq_true (by first | (with_reducible assumption) | assumption)
                                obtain ⟨ad358, e358, hx358_0⟩ := Kd.at_int (Kd.R_reads' HO_6.out).2.2 (rd (rd_L1 t336 x10_3) x13_5) p358 q358
                                obtain rfl : ad353 = ad358 := (by injection e358)
                                replace p358 := eq_true p358
                                replace q358 := eq_true q358
                                try go_wp2
                                have n0_ := Aside0.mk (Kd.R_drew HO_4.out); have n1_ := Aside0.mk (Kd.S_drew HO_5.out); have n2_ := Aside0.mk (Kd.R_drew HO_6.out); have n3_ := Aside0.mk (Kd.R_drew HL355_0.out); have n4_ := Aside0.mk (Kd.R_drew HL356_0.out); have n5_ := Aside0.mk (blk_drew BK326.out); have n6_ := Aside0.mk (Kd.C_drew HR355_0.out); have n7_ := Aside0.mk (Kd.C_drew HR356_0.out); have n8_ := Aside0.mk (below_drew1 HB.out); clear HO_4 HO_5 HO_6 HL355_0 HL356_0 BK326 HR355_0 HR356_0 HB; have HO_4 := n0_; have HO_5 := n1_; have HO_6 := n2_; have HL355_0 := n3_; have HL356_0 := n4_; have BK326 := n5_; have HR355_0 := n6_; have HR356_0 := n7_; have HB := n8_; clear n0_ n1_ n2_ n3_ n4_ n5_ n6_ n7_ n8_
                                refine start_ (n := 13) (S := fun w' => True) (ds := []) #[false, false, false, false, false, false, false, false, false, false, false, false, false] (by kernel_rfl) rfl rfl trivial (fun hHeld => ?_); refine with_tabW plnlaw4_FlowOrders.tab30 plnlaw4_FlowOrders.bits30 (fun HT_ HW_ => ?_)
                                generalize wr.drew = w84 at HO_4 HO_5 HO_6 HL355_0 HL356_0 BK326 HR355_0 HR356_0 HB hHeld ⊢
                                refine pure_ (i := 0) (N := some 151) (v := ?_) (a' := ?_) #[true, false, false, false, false, false, false, false, false, false, false, false, false] rfl rfl (any_of HT_.out (by kernel_rfl)) (fun _ _ _ h => h) (Or.inl ⟨by rfl, ?_⟩) ?_ ?_
                                rotate_left
                                ·intro w'
                                 go_simp
                                 with_reducible rfl
                                rotate_left
                                ·simp only [Act.put, List.setIfInBounds_toArray, List.set_cons_zero, List.set_cons_succ, i64_w, i32_w]; rfl
                                refine pure_ (i := 1) (N := some 152) (v := ?_) (a' := ?_) #[true, true, false, false, false, false, false, false, false, false, false, false, false] rfl rfl (any_of HT_.out (by kernel_rfl)) (fun _ _ _ h => h) (Or.inl ⟨by rfl, ?_⟩) ?_ ?_
                                rotate_left
                                ·intro w'
                                 go_simp
                                 with_reducible rfl
                                rotate_left
                                ·simp only [Act.put, List.setIfInBounds_toArray, List.set_cons_zero, List.set_cons_succ, i64_w, i32_w]; rfl
                                refine pure_ (i := 2) (N := some 153) (v := undef) (a' := ?_) #[true, true, true, false, false, false, false, false, false, false, false, false, false] rfl rfl (any_of HT_.out (by kernel_rfl)) (fun _ _ _ h => h) (Or.inr ⟨by rfl, rfl⟩) ?_ ?_
                                rotate_left
                                ·simp only [Act.put, List.setIfInBounds_toArray, List.set_cons_zero, List.set_cons_succ, i64_w, i32_w]; rfl
                                refine pure_ (i := 3) (N := some 154) (v := undef) (a' := ?_) #[true, true, true, true, false, false, false, false, false, false, false, false, false] rfl rfl (any_of HT_.out (by kernel_rfl)) (fun _ _ _ h => h) (Or.inr ⟨by rfl, rfl⟩) ?_ ?_
                                rotate_left
                                ·simp only [Act.put, List.setIfInBounds_toArray, List.set_cons_zero, List.set_cons_succ, i64_w, i32_w]; rfl
                                refine pure_ (i := 4) (N := some 155) (v := undef) (a' := ?_) #[true, true, true, true, true, false, false, false, false, false, false, false, false] rfl rfl (any_of HT_.out (by kernel_rfl)) (fun _ _ _ h => h) (Or.inr ⟨by rfl, rfl⟩) ?_ ?_
                                rotate_left
                                ·simp only [Act.put, List.setIfInBounds_toArray, List.set_cons_zero, List.set_cons_succ, i64_w, i32_w]; rfl
                                refine pure_ (i := 5) (N := some 156) (v := undef) (a' := ?_) #[true, true, true, true, true, true, false, false, false, false, false, false, false] rfl rfl (any_of HT_.out (by kernel_rfl)) (fun _ _ _ h => h) (Or.inr ⟨by rfl, rfl⟩) ?_ ?_
                                rotate_left
                                ·simp only [Act.put, List.setIfInBounds_toArray, List.set_cons_zero, List.set_cons_succ, i64_w, i32_w]; rfl
                                refine pure_ (i := 6) (N := some 157) (v := undef) (a' := ?_) #[true, true, true, true, true, true, true, false, false, false, false, false, false] rfl rfl (any_of HT_.out (by kernel_rfl)) (fun _ _ _ h => h) (Or.inr ⟨by rfl, rfl⟩) ?_ ?_
                                rotate_left
                                ·simp only [Act.put, List.setIfInBounds_toArray, List.set_cons_zero, List.set_cons_succ, i64_w, i32_w]; rfl
                                refine pure_ (i := 7) (N := some 158) (v := undef) (a' := ?_) #[true, true, true, true, true, true, true, true, false, false, false, false, false] rfl rfl (any_of HT_.out (by kernel_rfl)) (fun _ _ _ h => h) (Or.inr ⟨by rfl, rfl⟩) ?_ ?_
                                rotate_left
                                ·simp only [Act.put, List.setIfInBounds_toArray, List.set_cons_zero, List.set_cons_succ, i64_w, i32_w]; rfl
                                refine pure_ (i := 8) (N := some 159) (v := undef) (a' := ?_) #[true, true, true, true, true, true, true, true, true, false, false, false, false] rfl rfl (any_of HT_.out (by kernel_rfl)) (fun _ _ _ h => h) (Or.inr ⟨by rfl, rfl⟩) ?_ ?_
                                rotate_left
                                ·simp only [Act.put, List.setIfInBounds_toArray, List.set_cons_zero, List.set_cons_succ, i64_w, i32_w]; rfl
                                refine pure_ (i := 9) (N := some 160) (v := undef) (a' := ?_) #[true, true, true, true, true, true, true, true, true, true, false, false, false] rfl rfl (any_of HT_.out (by kernel_rfl)) (fun _ _ _ h => h) (Or.inr ⟨by rfl, rfl⟩) ?_ ?_
                                rotate_left
                                ·simp only [Act.put, List.setIfInBounds_toArray, List.set_cons_zero, List.set_cons_succ, i64_w, i32_w]; rfl
                                refine pure_ (i := 10) (N := some 161) (v := undef) (a' := ?_) #[true, true, true, true, true, true, true, true, true, true, true, false, false] rfl rfl (any_of HT_.out (by kernel_rfl)) (fun _ _ _ h => h) (Or.inr ⟨by rfl, rfl⟩) ?_ ?_
                                rotate_left
                                ·simp only [Act.put, List.setIfInBounds_toArray, List.set_cons_zero, List.set_cons_succ, i64_w, i32_w]; rfl
                                refine pure_ (i := 11) (N := some 162) (v := ?_) (a' := ?_) #[true, true, true, true, true, true, true, true, true, true, true, true, false] rfl rfl (any_of HT_.out (by kernel_rfl)) (fun _ _ _ h => h) (Or.inl ⟨by rfl, ?_⟩) ?_ ?_
                                rotate_left
                                ·intro w'
                                 go_simp
                                 with_reducible rfl
                                rotate_left
                                ·simp only [Act.put, List.setIfInBounds_toArray, List.set_cons_zero, List.set_cons_succ, i64_w, i32_w]; rfl
                                refine pure_ (i := 12) (N := some 11) (v := ?_) (a' := ?_) #[true, true, true, true, true, true, true, true, true, true, true, true, true] rfl rfl (any_of HT_.out (by kernel_rfl)) (fun _ _ _ h => h) (Or.inl ⟨by rfl, ?_⟩) ?_ ?_
                                rotate_left
                                ·intro w'
                                 go_simp
                                 with_reducible rfl
                                rotate_left
                                ·simp only [Act.put, List.setIfInBounds_toArray, List.set_cons_zero, List.set_cons_succ, i64_w, i32_w]; rfl
                                refine done_ (done_of HT_.out (by kernel_rfl)) ?_
                                try go_wp2
                                have n0_ := Aside0.mk (Kd.R_drew HO_4.out); have n1_ := Aside0.mk (Kd.S_drew HO_5.out); have n2_ := Aside0.mk (Kd.R_drew HO_6.out); have n3_ := Aside0.mk (Kd.R_drew HL355_0.out); have n4_ := Aside0.mk (Kd.R_drew HL356_0.out); have n5_ := Aside0.mk (blk_drew BK326.out); have n6_ := Aside0.mk (Kd.C_drew HR355_0.out); have n7_ := Aside0.mk (Kd.C_drew HR356_0.out); have n8_ := Aside0.mk (below_drew1 HB.out); clear HO_4 HO_5 HO_6 HL355_0 HL356_0 BK326 HR355_0 HR356_0 HB; have HO_4 := n0_; have HO_5 := n1_; have HO_6 := n2_; have HL355_0 := n3_; have HL356_0 := n4_; have BK326 := n5_; have HR355_0 := n6_; have HR356_0 := n7_; have HB := n8_; clear n0_ n1_ n2_ n3_ n4_ n5_ n6_ n7_ n8_
                                refine start_ (n := 13) (S := fun w' => True) (ds := []) #[false, false, false, false, false, false, false, false, false, false, false, false, false] (by kernel_rfl) rfl rfl trivial (fun hHeld => ?_); refine with_tabW plnlaw4_FlowOrders.tab31 plnlaw4_FlowOrders.bits31 (fun HT_ HW_ => ?_)
                                generalize w84.drew = w85 at HO_4 HO_5 HO_6 HL355_0 HL356_0 BK326 HR355_0 HR356_0 HB hHeld ⊢
                                refine pure_ (i := 0) (N := some 163) (v := ?_) (a' := ?_) #[true, false, false, false, false, false, false, false, false, false, false, false, false] rfl rfl (any_of HT_.out (by kernel_rfl)) (fun _ _ _ h => h) (Or.inl ⟨by rfl, ?_⟩) ?_ ?_
                                rotate_left
                                ·intro w'
                                 go_simp
                                 with_reducible rfl
                                rotate_left
                                ·simp only [Act.put, List.setIfInBounds_toArray, List.set_cons_zero, List.set_cons_succ, i64_w, i32_w]; rfl
                                refine pure_ (i := 1) (N := some 164) (v := ?_) (a' := ?_) #[true, true, false, false, false, false, false, false, false, false, false, false, false] rfl rfl (any_of HT_.out (by kernel_rfl)) (fun _ _ _ h => h) (Or.inl ⟨by rfl, ?_⟩) ?_ ?_
                                rotate_left
                                ·intro w'
                                 go_simp
                                 with_reducible rfl
                                rotate_left
                                ·simp only [Act.put, List.setIfInBounds_toArray, List.set_cons_zero, List.set_cons_succ, i64_w, i32_w]; rfl
                                refine pure_ (i := 2) (N := some 165) (v := undef) (a' := ?_) #[true, true, true, false, false, false, false, false, false, false, false, false, false] rfl rfl (any_of HT_.out (by kernel_rfl)) (fun _ _ _ h => h) (Or.inr ⟨by rfl, rfl⟩) ?_ ?_
                                rotate_left
                                ·simp only [Act.put, List.setIfInBounds_toArray, List.set_cons_zero, List.set_cons_succ, i64_w, i32_w]; rfl
                                refine pure_ (i := 3) (N := some 166) (v := undef) (a' := ?_) #[true, true, true, true, false, false, false, false, false, false, false, false, false] rfl rfl (any_of HT_.out (by kernel_rfl)) (fun _ _ _ h => h) (Or.inr ⟨by rfl, rfl⟩) ?_ ?_
                                rotate_left
                                ·simp only [Act.put, List.setIfInBounds_toArray, List.set_cons_zero, List.set_cons_succ, i64_w, i32_w]; rfl
                                refine pure_ (i := 4) (N := some 167) (v := undef) (a' := ?_) #[true, true, true, true, true, false, false, false, false, false, false, false, false] rfl rfl (any_of HT_.out (by kernel_rfl)) (fun _ _ _ h => h) (Or.inr ⟨by rfl, rfl⟩) ?_ ?_
                                rotate_left
                                ·simp only [Act.put, List.setIfInBounds_toArray, List.set_cons_zero, List.set_cons_succ, i64_w, i32_w]; rfl
                                refine pure_ (i := 5) (N := some 168) (v := undef) (a' := ?_) #[true, true, true, true, true, true, false, false, false, false, false, false, false] rfl rfl (any_of HT_.out (by kernel_rfl)) (fun _ _ _ h => h) (Or.inr ⟨by rfl, rfl⟩) ?_ ?_
                                rotate_left
                                ·simp only [Act.put, List.setIfInBounds_toArray, List.set_cons_zero, List.set_cons_succ, i64_w, i32_w]; rfl
                                refine pure_ (i := 6) (N := some 169) (v := undef) (a' := ?_) #[true, true, true, true, true, true, true, false, false, false, false, false, false] rfl rfl (any_of HT_.out (by kernel_rfl)) (fun _ _ _ h => h) (Or.inr ⟨by rfl, rfl⟩) ?_ ?_
                                rotate_left
                                ·simp only [Act.put, List.setIfInBounds_toArray, List.set_cons_zero, List.set_cons_succ, i64_w, i32_w]; rfl
                                refine pure_ (i := 7) (N := some 170) (v := undef) (a' := ?_) #[true, true, true, true, true, true, true, true, false, false, false, false, false] rfl rfl (any_of HT_.out (by kernel_rfl)) (fun _ _ _ h => h) (Or.inr ⟨by rfl, rfl⟩) ?_ ?_
                                rotate_left
                                ·simp only [Act.put, List.setIfInBounds_toArray, List.set_cons_zero, List.set_cons_succ, i64_w, i32_w]; rfl
                                refine pure_ (i := 8) (N := some 171) (v := undef) (a' := ?_) #[true, true, true, true, true, true, true, true, true, false, false, false, false] rfl rfl (any_of HT_.out (by kernel_rfl)) (fun _ _ _ h => h) (Or.inr ⟨by rfl, rfl⟩) ?_ ?_
                                rotate_left
                                ·simp only [Act.put, List.setIfInBounds_toArray, List.set_cons_zero, List.set_cons_succ, i64_w, i32_w]; rfl
                                refine pure_ (i := 9) (N := some 172) (v := undef) (a' := ?_) #[true, true, true, true, true, true, true, true, true, true, false, false, false] rfl rfl (any_of HT_.out (by kernel_rfl)) (fun _ _ _ h => h) (Or.inr ⟨by rfl, rfl⟩) ?_ ?_
                                rotate_left
                                ·simp only [Act.put, List.setIfInBounds_toArray, List.set_cons_zero, List.set_cons_succ, i64_w, i32_w]; rfl
                                refine pure_ (i := 10) (N := some 173) (v := undef) (a' := ?_) #[true, true, true, true, true, true, true, true, true, true, true, false, false] rfl rfl (any_of HT_.out (by kernel_rfl)) (fun _ _ _ h => h) (Or.inr ⟨by rfl, rfl⟩) ?_ ?_
                                rotate_left
                                ·simp only [Act.put, List.setIfInBounds_toArray, List.set_cons_zero, List.set_cons_succ, i64_w, i32_w]; rfl
                                refine pure_ (i := 11) (N := some 174) (v := ?_) (a' := ?_) #[true, true, true, true, true, true, true, true, true, true, true, true, false] rfl rfl (any_of HT_.out (by kernel_rfl)) (fun _ _ _ h => h) (Or.inl ⟨by rfl, ?_⟩) ?_ ?_
                                rotate_left
                                ·intro w'
                                 go_simp
                                 with_reducible rfl
                                rotate_left
                                ·simp only [Act.put, List.setIfInBounds_toArray, List.set_cons_zero, List.set_cons_succ, i64_w, i32_w]; rfl
                                refine pure_ (i := 12) (N := some 12) (v := ?_) (a' := ?_) #[true, true, true, true, true, true, true, true, true, true, true, true, true] rfl rfl (any_of HT_.out (by kernel_rfl)) (fun _ _ _ h => h) (Or.inl ⟨by rfl, ?_⟩) ?_ ?_
                                rotate_left
                                ·intro w'
                                 go_simp
                                 with_reducible rfl
                                rotate_left
                                ·simp only [Act.put, List.setIfInBounds_toArray, List.set_cons_zero, List.set_cons_succ, i64_w, i32_w]; rfl
                                refine done_ (done_of HT_.out (by kernel_rfl)) ?_
                                try go_wp2
                                go_roundg k5
                                case measure => have := HJ8.out; have := HK2.out; have := HK3.out; have := HJ62.out; have := HK5.out; omega
                                case rel => exact ⟨(true), (false), (wrap64 (x13_5 + 1)), (by first | rfl | (simp; done) | (simp [*]; done)), (by first | rfl | (simp; done) | (simp [*]; done)), (by first | rfl | (simp; done) | (simp [*]; done)), H', ⟨by have := HJ8.out; have := HK2.out; have := HK3.out; have := HJ62.out; have := HK5.out; omega⟩, ⟨by (with_reducible repeat (first | apply Kd.R_alloc | apply Kd.R_drewN | apply Kd.R_drew)); exact HO_4.out⟩, ⟨by (with_reducible repeat (first | apply Kd.S_alloc | apply Kd.S_drewN | apply Kd.S_drew)); exact HO_5.out⟩, ⟨by (with_reducible repeat (first | apply Kd.R_alloc | apply Kd.R_drewN | apply Kd.R_drew)); exact HO_6.out⟩, ⟨by (with_reducible repeat (first | refine blk_drewN ?_ _ | refine blk_drew ?_ | refine blk_alloc ?_ _)); exact BK326.out⟩, ⟨by repeat (first | (with_reducible first | exact HB.out | apply below_alloc | apply pw_below_drewN | apply below_drew1 | refine below_set ?_ GE326.out) | exact HB.out)⟩⟩
                              ·replace c77 := Bool.eq_false_iff.mpr c77
                               subst c77
                               have H1 : (if x10_3 < (x6_2.length : Int) then (if x12_5 = true then (plnlaw4_FlowOrders.l2 k5 t333 t336 x6_2 (wrap64 (x7_3 + 1)) x9_3 x10_3 (decide ((rd x6_2 (rd (rd_L1 t336 x10_3) x13_5)) < (rd x6_2 x10_3))) (decide ((rd x6_2 (rd (rd_L1 t336 x10_3) x13_5)) < (rd x6_2 x10_3))) (wrap64 (x13_5 + 1)) a0_0 a0_1 l0_2 a0_3 l0_4) else (plnlaw4_FlowOrders.l2 k5 t333 t336 x6_2 (wrap64 (x7_3 + 1)) x9_3 x10_3 (decide ((rd x6_2 (rd (rd_L1 t336 x10_3) x13_5)) < (rd x6_2 x10_3))) false (wrap64 (x13_5 + 1)) a0_0 a0_1 l0_2 a0_3 l0_4)) else (none)) = some r := by rw [if_neg (show ¬ (false = true) by decide)] at H; exact H
                               clear H; have H := H1; clear H1
                               by_cases c86 : x10_3 < (x6_2.length : Int)
                               ·rw [if_pos c86] at H
                                have c86b0 : decide (x10_3 < (x6_2.length : Int)) = true := decide_eq_true c86
                                clear c86
                                by_cases c87 : x12_5 = true
                                ·subst c87
                                 have H1 : (plnlaw4_FlowOrders.l2 k5 t333 t336 x6_2 (wrap64 (x7_3 + 1)) x9_3 x10_3 (decide ((rd x6_2 (rd (rd_L1 t336 x10_3) x13_5)) < (rd x6_2 x10_3))) (decide ((rd x6_2 (rd (rd_L1 t336 x10_3) x13_5)) < (rd x6_2 x10_3))) (wrap64 (x13_5 + 1)) a0_0 a0_1 l0_2 a0_3 l0_4) = some r := by rw [if_pos rfl] at H; exact H
                                 clear H; have H := H1; clear H1
                                 have H' := Aside0.mk H
                                 clear H
                                 obtain ⟨Ao88, co88, eo88⟩ := Kd.S_slice HO_5.out
                                 subst eo88
                                 have p355 : 0 ≤ (x10_3 : Int) := of_decide_eq_true (by first | (with_reducible assumption) | assumption)
                                 have q355 : x10_3 < (t336.length : Int) := of_decide_eq_true (by first | (with_reducible assumption) | assumption)
                                 obtain ⟨ad355, A355_0, c355_0, e355, hx355_0, hl355_0, hi355_0⟩ := at_L1 (Kd.S_reads' HO_5.out).2.2 x10_3 p355 q355
                                 cases e355
                                 obtain ⟨ce355, hce355, hMe355, hcc355⟩ := Kd.S_get HO_5.out [] x10_3 p355 (by first | exact q355 | exact of_decide_eq_true (by first | (with_reducible assumption) | assumption) | (have e_ := (Kd.S_reads' HO_5.out).1; omega))
                                 obtain ⟨ve355_0, rfl, ge355_0⟩ := hMe355
                                 have hv355_0 := hcc355 0 _ rfl
                                 rw [Nat.add_zero, show ((Kd.slice 3 (Kd.int .i64))).sz = 1 from rfl, Nat.mul_one] at hv355_0
                                 replace hv355_0 := Option.some.inj (hv355_0.symm.trans hx355_0)
                                 rw [hv355_0] at ge355_0
                                 have HL355_0 := Aside0.mk (show Kd.R (Kd.int .i64) 3 _ _ _ _ (rd_L1 t336 x10_3) from ge355_0); clear hv355_0 ge355_0 hcc355 hce355
                                 have HR355_0 := Aside0.mk hi355_0
                                 have HC355_0 := Aside0.mk hl355_0
                                 clear hi355_0 hl355_0
                                 replace p355 := eq_true p355
                                 replace q355 := eq_true q355
                                 have p356 : 0 ≤ (x10_3 : Int) := of_decide_eq_true (by first | (with_reducible assumption) | assumption)
                                 have q356 : x10_3 < (t336.length : Int) := of_decide_eq_true (by first | (with_reducible assumption) | assumption)
                                 obtain ⟨ad356, A356_0, c356_0, e356, hx356_0, hl356_0, hi356_0⟩ := at_L1 (Kd.S_reads' HO_5.out).2.2 x10_3 p356 q356
                                 obtain rfl : ad355 = ad356 := (by injection e356)
                                 obtain ⟨ce356, hce356, hMe356, hcc356⟩ := Kd.S_get HO_5.out [] x10_3 p356 (by first | exact q356 | exact of_decide_eq_true (by first | (with_reducible assumption) | assumption) | (have e_ := (Kd.S_reads' HO_5.out).1; omega))
                                 obtain ⟨ve356_0, rfl, ge356_0⟩ := hMe356
                                 have hv356_0 := hcc356 0 _ rfl
                                 rw [Nat.add_zero, show ((Kd.slice 3 (Kd.int .i64))).sz = 1 from rfl, Nat.mul_one] at hv356_0
                                 replace hv356_0 := Option.some.inj (hv356_0.symm.trans hx356_0)
                                 rw [hv356_0] at ge356_0
                                 have HL356_0 := Aside0.mk (show Kd.R (Kd.int .i64) 3 _ _ _ _ (rd_L1 t336 x10_3) from ge356_0); clear hv356_0 ge356_0 hcc356 hce356
                                 have HR356_0 := Aside0.mk hi356_0
                                 have HC356_0 := Aside0.mk hl356_0
                                 clear hi356_0 hl356_0
                                 replace p356 := eq_true p356
                                 replace q356 := eq_true q356
                                 have ea_ := Option.some.inj (hx355_0.symm.trans hx356_0)
                                 injection ea_ with ea_ en_ ec_
                                 subst ea_
                                 subst ec_
                                 clear en_
                                 have p357 : 0 ≤ (x13_5 : Int) := of_decide_eq_true (by first | (with_reducible assumption) | assumption)
                                 have q357 : x13_5 < ((rd_L1 t336 x10_3).length : Int) := of_decide_eq_true (by first | (with_reducible assumption) | assumption)
                                 obtain ⟨ad357, e357, hx357_0⟩ := Kd.at_int (by repeat (first | (with_reducible exact HR356_0.out) | (with_reducible refine Kd.C_alloc ?_ _) | (with_reducible refine Kd.C_drewN ?_ _) | (with_reducible refine Kd.C_drew ?_) | exact HR356_0.out)) x13_5 p357 q357
                                 cases e357
                                 replace p357 := eq_true p357
                                 replace q357 := eq_true q357
                                 have p358 : 0 ≤ ((rd (rd_L1 t336 x10_3) x13_5) : Int) := of_decide_eq_true (by first | (with_reducible assumption) | assumption)
                                 have q358 : (rd (rd_L1 t336 x10_3) x13_5) < (x6_2.length : Int) := of_decide_eq_true (by first | (with_reducible assumption) | assumption)
                                 obtain ⟨ad358, e358, hx358_0⟩ := Kd.at_int (Kd.R_reads' HO_6.out).2.2 (rd (rd_L1 t336 x10_3) x13_5) p358 q358
                                 obtain rfl : ad353 = ad358 := (by injection e358)
                                 replace p358 := eq_true p358
                                 replace q358 := eq_true q358
                                 try go_wp2
                                 have n0_ := Aside0.mk (Kd.R_drew HO_4.out); have n1_ := Aside0.mk (Kd.S_drew HO_5.out); have n2_ := Aside0.mk (Kd.R_drew HO_6.out); have n3_ := Aside0.mk (Kd.R_drew HL355_0.out); have n4_ := Aside0.mk (Kd.R_drew HL356_0.out); have n5_ := Aside0.mk (blk_drew BK326.out); have n6_ := Aside0.mk (Kd.C_drew HR355_0.out); have n7_ := Aside0.mk (Kd.C_drew HR356_0.out); have n8_ := Aside0.mk (below_drew1 HB.out); clear HO_4 HO_5 HO_6 HL355_0 HL356_0 BK326 HR355_0 HR356_0 HB; have HO_4 := n0_; have HO_5 := n1_; have HO_6 := n2_; have HL355_0 := n3_; have HL356_0 := n4_; have BK326 := n5_; have HR355_0 := n6_; have HR356_0 := n7_; have HB := n8_; clear n0_ n1_ n2_ n3_ n4_ n5_ n6_ n7_ n8_
                                 have p361 : 0 ≤ ((rd (rd_L1 t336 x10_3) x13_5) : Int) := of_decide_eq_true (by first | (with_reducible assumption) | assumption)
                                 have q361 : (rd (rd_L1 t336 x10_3) x13_5) < (x6_2.length : Int) := of_decide_eq_true (by first | (with_reducible assumption) | assumption)
                                 obtain ⟨ad361, e361, hx361_0⟩ := Kd.at_int (Kd.R_reads' HO_6.out).2.2 (rd (rd_L1 t336 x10_3) x13_5) p361 q361
                                 obtain rfl : ad353 = ad361 := (by injection e361)
                                 replace p361 := eq_true p361
                                 replace q361 := eq_true q361
                                 have p362 : 0 ≤ (x10_3 : Int) := of_decide_eq_true (by first | (with_reducible assumption) | assumption)
                                 have q362 : x10_3 < (x6_2.length : Int) := of_decide_eq_true (by first | (with_reducible assumption) | assumption)
                                 obtain ⟨ad362, e362, hx362_0⟩ := Kd.at_int (Kd.R_reads' HO_6.out).2.2 x10_3 p362 q362
                                 obtain rfl : ad353 = ad362 := (by injection e362)
                                 replace p362 := eq_true p362
                                 replace q362 := eq_true q362
                                 refine start_ (n := 13) (S := fun w' => w'.cell? (ad353.add ((rd (rd_L1 t336 x10_3) x13_5)).toNat) = some (.int .i64 (rd x6_2 (rd (rd_L1 t336 x10_3) x13_5))) ∧ w'.cell? (ad353.add (x10_3).toNat) = some (.int .i64 (rd x6_2 x10_3))) (ds := []) #[false, false, false, false, false, false, false, false, false, false, false, false, false] (by kernel_rfl) rfl rfl ⟨hx361_0, hx362_0⟩ (fun hHeld => ?_); refine with_tabW plnlaw4_FlowOrders.tab30 plnlaw4_FlowOrders.bits30 (fun HT_ HW_ => ?_)
                                 generalize wr.drew = w89 at HO_4 HO_5 HO_6 HL355_0 HL356_0 BK326 HR355_0 HR356_0 HB hx361_0 hx362_0 hHeld ⊢
                                 refine pure_ (i := 0) (N := some 151) (v := ?_) (a' := ?_) #[true, false, false, false, false, false, false, false, false, false, false, false, false] rfl rfl (any_of HT_.out (by kernel_rfl)) (fun _ _ _ h => h) (Or.inl ⟨by rfl, ?_⟩) ?_ ?_
                                 rotate_left
                                 ·intro w'
                                  go_simp
                                  with_reducible rfl
                                 rotate_left
                                 ·simp only [Act.put, List.setIfInBounds_toArray, List.set_cons_zero, List.set_cons_succ, i64_w, i32_w]; rfl
                                 refine pure_ (i := 1) (N := some 152) (v := ?_) (a' := ?_) #[true, true, false, false, false, false, false, false, false, false, false, false, false] rfl rfl (any_of HT_.out (by kernel_rfl)) (fun _ _ _ h => h) (Or.inl ⟨by rfl, ?_⟩) ?_ ?_
                                 rotate_left
                                 ·intro w'
                                  go_simp
                                  with_reducible rfl
                                 rotate_left
                                 ·simp only [Act.put, List.setIfInBounds_toArray, List.set_cons_zero, List.set_cons_succ, i64_w, i32_w]; rfl
                                 refine pure_ (i := 2) (N := some 153) (v := ?_) (a' := ?_) #[true, true, true, false, false, false, false, false, false, false, false, false, false] rfl rfl (any_of HT_.out (by kernel_rfl)) (fun _ _ _ h => h) (Or.inl ⟨by rfl, ?_⟩) ?_ ?_
                                 rotate_left
                                 ·intro w'
                                  go_simp
                                  with_reducible rfl
                                 rotate_left
                                 ·simp only [Act.put, List.setIfInBounds_toArray, List.set_cons_zero, List.set_cons_succ, i64_w, i32_w]; rfl
                                 refine pure_ (i := 3) (N := some 154) (v := ?_) (a' := ?_) #[true, true, true, true, false, false, false, false, false, false, false, false, false] rfl rfl (any_of HT_.out (by kernel_rfl)) (fun _ _ _ h => h) (Or.inl ⟨by rfl, ?_⟩) ?_ ?_
                                 rotate_left
                                 ·intro w'
                                  go_simp
                                  with_reducible rfl
                                 rotate_left
                                 ·simp only [Act.put, List.setIfInBounds_toArray, List.set_cons_zero, List.set_cons_succ, i64_w, i32_w]; rfl
                                 refine pure_ (i := 4) (N := some 155) (v := ?_) (a' := ?_) #[true, true, true, true, true, false, false, false, false, false, false, false, false] rfl rfl (any_of HT_.out (by kernel_rfl)) (fun _ _ _ h => h) (Or.inl ⟨by rfl, ?_⟩) ?_ ?_
                                 rotate_left
                                 ·intro w'
                                  go_simp
                                  with_reducible rfl
                                 rotate_left
                                 ·simp only [Act.put, List.setIfInBounds_toArray, List.set_cons_zero, List.set_cons_succ, i64_w, i32_w]; rfl
                                 refine pure_ (i := 6) (N := some 157) (v := ?_) (a' := ?_) #[true, true, true, true, true, false, true, false, false, false, false, false, false] rfl rfl (any_of HT_.out (by kernel_rfl)) (fun _ _ _ h => h) (Or.inl ⟨by rfl, ?_⟩) ?_ ?_
                                 rotate_left
                                 ·intro w'
                                  go_simp
                                  with_reducible rfl
                                 rotate_left
                                 ·simp only [Act.put, List.setIfInBounds_toArray, List.set_cons_zero, List.set_cons_succ, i64_w, i32_w]; rfl
                                 refine pure_ (i := 7) (N := some 158) (v := ?_) (a' := ?_) #[true, true, true, true, true, false, true, true, false, false, false, false, false] rfl rfl (any_of HT_.out (by kernel_rfl)) (fun _ _ _ h => h) (Or.inl ⟨by rfl, ?_⟩) ?_ ?_
                                 rotate_left
                                 ·intro w'
                                  go_simp
                                  with_reducible rfl
                                 rotate_left
                                 ·simp only [Act.put, List.setIfInBounds_toArray, List.set_cons_zero, List.set_cons_succ, i64_w, i32_w]; rfl
                                 refine pure_ (i := 8) (N := some 159) (v := ?_) (a' := ?_) #[true, true, true, true, true, false, true, true, true, false, false, false, false] rfl rfl (any_of HT_.out (by kernel_rfl)) (fun _ _ _ h => h) (Or.inl ⟨by rfl, ?_⟩) ?_ ?_
                                 rotate_left
                                 ·intro w'
                                  go_simp
                                  with_reducible rfl
                                 rotate_left
                                 ·simp only [Act.put, List.setIfInBounds_toArray, List.set_cons_zero, List.set_cons_succ, i64_w, i32_w]; rfl
                                 refine take_ (i := 5) (N := some 156) (v := ?_) (a' := ?_) #[true, true, true, true, true, true, true, true, true, false, false, false, false] rfl rfl (take_ofW HT_.out HW_.out (by kernel_rfl)) (fun _ _ _ h => h) (Or.inl ⟨by rfl, ?_⟩) hHeld ?_ ?_
                                 rotate_left
                                 ·rintro w' ⟨s0, s1⟩
                                  go_simp
                                  with_reducible rfl
                                 rotate_left
                                 ·simp only [Act.put, List.setIfInBounds_toArray, List.set_cons_zero, List.set_cons_succ, i64_w, i32_w]; rfl
                                 refine take_ (i := 9) (N := some 160) (v := ?_) (a' := ?_) #[true, true, true, true, true, true, true, true, true, true, false, false, false] rfl rfl (take_ofW HT_.out HW_.out (by kernel_rfl)) (fun _ _ _ h => h) (Or.inl ⟨by rfl, ?_⟩) hHeld ?_ ?_
                                 rotate_left
                                 ·rintro w' ⟨s0, s1⟩
                                  go_simp
                                  with_reducible rfl
                                 rotate_left
                                 ·simp only [Act.put, List.setIfInBounds_toArray, List.set_cons_zero, List.set_cons_succ, i64_w, i32_w]; rfl
                                 refine pure_ (i := 10) (N := some 161) (v := ?_) (a' := ?_) #[true, true, true, true, true, true, true, true, true, true, true, false, false] rfl rfl (any_of HT_.out (by kernel_rfl)) (fun _ _ _ h => h) (Or.inl ⟨by rfl, ?_⟩) ?_ ?_
                                 rotate_left
                                 ·intro w'
                                  go_simp
                                  with_reducible rfl
                                 rotate_left
                                 ·simp only [Act.put, List.setIfInBounds_toArray, List.set_cons_zero, List.set_cons_succ, i64_w, i32_w]; rfl
                                 refine pure_ (i := 11) (N := some 162) (v := ?_) (a' := ?_) #[true, true, true, true, true, true, true, true, true, true, true, true, false] rfl rfl (any_of HT_.out (by kernel_rfl)) (fun _ _ _ h => h) (Or.inl ⟨by rfl, ?_⟩) ?_ ?_
                                 rotate_left
                                 ·intro w'
                                  go_simp
                                  with_reducible rfl
                                 rotate_left
                                 ·simp only [Act.put, List.setIfInBounds_toArray, List.set_cons_zero, List.set_cons_succ, i64_w, i32_w]; rfl
                                 refine pure_ (i := 12) (N := some 11) (v := ?_) (a' := ?_) #[true, true, true, true, true, true, true, true, true, true, true, true, true] rfl rfl (any_of HT_.out (by kernel_rfl)) (fun _ _ _ h => h) (Or.inl ⟨by rfl, ?_⟩) ?_ ?_
                                 rotate_left
                                 ·intro w'
                                  go_simp
                                  with_reducible rfl
                                 rotate_left
                                 ·simp only [Act.put, List.setIfInBounds_toArray, List.set_cons_zero, List.set_cons_succ, i64_w, i32_w]; rfl
                                 refine done_ (done_of HT_.out (by kernel_rfl)) ?_
                                 try go_wp2
                                 have n0_ := Aside0.mk (Kd.R_drew HO_4.out); have n1_ := Aside0.mk (Kd.S_drew HO_5.out); have n2_ := Aside0.mk (Kd.R_drew HO_6.out); have n3_ := Aside0.mk (Kd.R_drew HL355_0.out); have n4_ := Aside0.mk (Kd.R_drew HL356_0.out); have n5_ := Aside0.mk (blk_drew BK326.out); have n6_ := Aside0.mk (Kd.C_drew HR355_0.out); have n7_ := Aside0.mk (Kd.C_drew HR356_0.out); have n8_ := Aside0.mk (below_drew1 HB.out); clear HO_4 HO_5 HO_6 HL355_0 HL356_0 BK326 HR355_0 HR356_0 HB; have HO_4 := n0_; have HO_5 := n1_; have HO_6 := n2_; have HL355_0 := n3_; have HL356_0 := n4_; have BK326 := n5_; have HR355_0 := n6_; have HR356_0 := n7_; have HB := n8_; clear n0_ n1_ n2_ n3_ n4_ n5_ n6_ n7_ n8_
                                 have p363 : 0 ≤ ((rd (rd_L1 t336 x10_3) x13_5) : Int) := of_decide_eq_true (by first | (with_reducible assumption) | assumption)
                                 have q363 : (rd (rd_L1 t336 x10_3) x13_5) < (x6_2.length : Int) := of_decide_eq_true (by first | (with_reducible assumption) | assumption)
                                 obtain ⟨ad363, e363, hx363_0⟩ := Kd.at_int (Kd.R_reads' HO_6.out).2.2 (rd (rd_L1 t336 x10_3) x13_5) p363 q363
                                 obtain rfl : ad353 = ad363 := (by injection e363)
                                 replace p363 := eq_true p363
                                 replace q363 := eq_true q363
                                 have p364 : 0 ≤ (x10_3 : Int) := of_decide_eq_true (by first | (with_reducible assumption) | assumption)
                                 have q364 : x10_3 < (x6_2.length : Int) := of_decide_eq_true (by first | (with_reducible assumption) | assumption)
                                 obtain ⟨ad364, e364, hx364_0⟩ := Kd.at_int (Kd.R_reads' HO_6.out).2.2 x10_3 p364 q364
                                 obtain rfl : ad353 = ad364 := (by injection e364)
                                 replace p364 := eq_true p364
                                 replace q364 := eq_true q364
                                 refine start_ (n := 13) (S := fun w' => w'.cell? (ad353.add ((rd (rd_L1 t336 x10_3) x13_5)).toNat) = some (.int .i64 (rd x6_2 (rd (rd_L1 t336 x10_3) x13_5))) ∧ w'.cell? (ad353.add (x10_3).toNat) = some (.int .i64 (rd x6_2 x10_3))) (ds := []) #[false, false, false, false, false, false, false, false, false, false, false, false, false] (by kernel_rfl) rfl rfl ⟨hx363_0, hx364_0⟩ (fun hHeld => ?_); refine with_tabW plnlaw4_FlowOrders.tab31 plnlaw4_FlowOrders.bits31 (fun HT_ HW_ => ?_)
                                 generalize w89.drew = w90 at HO_4 HO_5 HO_6 HL355_0 HL356_0 BK326 HR355_0 HR356_0 HB hx363_0 hx364_0 hHeld ⊢
                                 refine pure_ (i := 0) (N := some 163) (v := ?_) (a' := ?_) #[true, false, false, false, false, false, false, false, false, false, false, false, false] rfl rfl (any_of HT_.out (by kernel_rfl)) (fun _ _ _ h => h) (Or.inl ⟨by rfl, ?_⟩) ?_ ?_
                                 rotate_left
                                 ·intro w'
                                  go_simp
                                  with_reducible rfl
                                 rotate_left
                                 ·simp only [Act.put, List.setIfInBounds_toArray, List.set_cons_zero, List.set_cons_succ, i64_w, i32_w]; rfl
                                 refine pure_ (i := 1) (N := some 164) (v := ?_) (a' := ?_) #[true, true, false, false, false, false, false, false, false, false, false, false, false] rfl rfl (any_of HT_.out (by kernel_rfl)) (fun _ _ _ h => h) (Or.inl ⟨by rfl, ?_⟩) ?_ ?_
                                 rotate_left
                                 ·intro w'
                                  go_simp
                                  with_reducible rfl
                                 rotate_left
                                 ·simp only [Act.put, List.setIfInBounds_toArray, List.set_cons_zero, List.set_cons_succ, i64_w, i32_w]; rfl
                                 refine pure_ (i := 2) (N := some 165) (v := ?_) (a' := ?_) #[true, true, true, false, false, false, false, false, false, false, false, false, false] rfl rfl (any_of HT_.out (by kernel_rfl)) (fun _ _ _ h => h) (Or.inl ⟨by rfl, ?_⟩) ?_ ?_
                                 rotate_left
                                 ·intro w'
                                  go_simp
                                  with_reducible rfl
                                 rotate_left
                                 ·simp only [Act.put, List.setIfInBounds_toArray, List.set_cons_zero, List.set_cons_succ, i64_w, i32_w]; rfl
                                 refine pure_ (i := 3) (N := some 166) (v := ?_) (a' := ?_) #[true, true, true, true, false, false, false, false, false, false, false, false, false] rfl rfl (any_of HT_.out (by kernel_rfl)) (fun _ _ _ h => h) (Or.inl ⟨by rfl, ?_⟩) ?_ ?_
                                 rotate_left
                                 ·intro w'
                                  go_simp
                                  with_reducible rfl
                                 rotate_left
                                 ·simp only [Act.put, List.setIfInBounds_toArray, List.set_cons_zero, List.set_cons_succ, i64_w, i32_w]; rfl
                                 refine pure_ (i := 4) (N := some 167) (v := ?_) (a' := ?_) #[true, true, true, true, true, false, false, false, false, false, false, false, false] rfl rfl (any_of HT_.out (by kernel_rfl)) (fun _ _ _ h => h) (Or.inl ⟨by rfl, ?_⟩) ?_ ?_
                                 rotate_left
                                 ·intro w'
                                  go_simp
                                  with_reducible rfl
                                 rotate_left
                                 ·simp only [Act.put, List.setIfInBounds_toArray, List.set_cons_zero, List.set_cons_succ, i64_w, i32_w]; rfl
                                 refine pure_ (i := 6) (N := some 169) (v := ?_) (a' := ?_) #[true, true, true, true, true, false, true, false, false, false, false, false, false] rfl rfl (any_of HT_.out (by kernel_rfl)) (fun _ _ _ h => h) (Or.inl ⟨by rfl, ?_⟩) ?_ ?_
                                 rotate_left
                                 ·intro w'
                                  go_simp
                                  with_reducible rfl
                                 rotate_left
                                 ·simp only [Act.put, List.setIfInBounds_toArray, List.set_cons_zero, List.set_cons_succ, i64_w, i32_w]; rfl
                                 refine pure_ (i := 7) (N := some 170) (v := ?_) (a' := ?_) #[true, true, true, true, true, false, true, true, false, false, false, false, false] rfl rfl (any_of HT_.out (by kernel_rfl)) (fun _ _ _ h => h) (Or.inl ⟨by rfl, ?_⟩) ?_ ?_
                                 rotate_left
                                 ·intro w'
                                  go_simp
                                  with_reducible rfl
                                 rotate_left
                                 ·simp only [Act.put, List.setIfInBounds_toArray, List.set_cons_zero, List.set_cons_succ, i64_w, i32_w]; rfl
                                 refine pure_ (i := 8) (N := some 171) (v := ?_) (a' := ?_) #[true, true, true, true, true, false, true, true, true, false, false, false, false] rfl rfl (any_of HT_.out (by kernel_rfl)) (fun _ _ _ h => h) (Or.inl ⟨by rfl, ?_⟩) ?_ ?_
                                 rotate_left
                                 ·intro w'
                                  go_simp
                                  with_reducible rfl
                                 rotate_left
                                 ·simp only [Act.put, List.setIfInBounds_toArray, List.set_cons_zero, List.set_cons_succ, i64_w, i32_w]; rfl
                                 refine take_ (i := 5) (N := some 168) (v := ?_) (a' := ?_) #[true, true, true, true, true, true, true, true, true, false, false, false, false] rfl rfl (take_ofW HT_.out HW_.out (by kernel_rfl)) (fun _ _ _ h => h) (Or.inl ⟨by rfl, ?_⟩) hHeld ?_ ?_
                                 rotate_left
                                 ·rintro w' ⟨s0, s1⟩
                                  go_simp
                                  with_reducible rfl
                                 rotate_left
                                 ·simp only [Act.put, List.setIfInBounds_toArray, List.set_cons_zero, List.set_cons_succ, i64_w, i32_w]; rfl
                                 refine take_ (i := 9) (N := some 172) (v := ?_) (a' := ?_) #[true, true, true, true, true, true, true, true, true, true, false, false, false] rfl rfl (take_ofW HT_.out HW_.out (by kernel_rfl)) (fun _ _ _ h => h) (Or.inl ⟨by rfl, ?_⟩) hHeld ?_ ?_
                                 rotate_left
                                 ·rintro w' ⟨s0, s1⟩
                                  go_simp
                                  with_reducible rfl
                                 rotate_left
                                 ·simp only [Act.put, List.setIfInBounds_toArray, List.set_cons_zero, List.set_cons_succ, i64_w, i32_w]; rfl
                                 refine pure_ (i := 10) (N := some 173) (v := ?_) (a' := ?_) #[true, true, true, true, true, true, true, true, true, true, true, false, false] rfl rfl (any_of HT_.out (by kernel_rfl)) (fun _ _ _ h => h) (Or.inl ⟨by rfl, ?_⟩) ?_ ?_
                                 rotate_left
                                 ·intro w'
                                  go_simp
                                  with_reducible rfl
                                 rotate_left
                                 ·simp only [Act.put, List.setIfInBounds_toArray, List.set_cons_zero, List.set_cons_succ, i64_w, i32_w]; rfl
                                 refine pure_ (i := 11) (N := some 174) (v := ?_) (a' := ?_) #[true, true, true, true, true, true, true, true, true, true, true, true, false] rfl rfl (any_of HT_.out (by kernel_rfl)) (fun _ _ _ h => h) (Or.inl ⟨by rfl, ?_⟩) ?_ ?_
                                 rotate_left
                                 ·intro w'
                                  go_simp
                                  with_reducible rfl
                                 rotate_left
                                 ·simp only [Act.put, List.setIfInBounds_toArray, List.set_cons_zero, List.set_cons_succ, i64_w, i32_w]; rfl
                                 refine pure_ (i := 12) (N := some 12) (v := ?_) (a' := ?_) #[true, true, true, true, true, true, true, true, true, true, true, true, true] rfl rfl (any_of HT_.out (by kernel_rfl)) (fun _ _ _ h => h) (Or.inl ⟨by rfl, ?_⟩) ?_ ?_
                                 rotate_left
                                 ·intro w'
                                  go_simp
                                  with_reducible rfl
                                 rotate_left
                                 ·simp only [Act.put, List.setIfInBounds_toArray, List.set_cons_zero, List.set_cons_succ, i64_w, i32_w]; rfl
                                 refine done_ (done_of HT_.out (by kernel_rfl)) ?_
                                 try go_wp2
                                 go_roundg k5
                                 case measure => have := HJ8.out; have := HK2.out; have := HK3.out; have := HJ62.out; have := HK5.out; omega
                                 case rel => exact ⟨(decide ((rd x6_2 (rd (rd_L1 t336 x10_3) x13_5)) < (rd x6_2 x10_3))), (decide ((rd x6_2 (rd (rd_L1 t336 x10_3) x13_5)) < (rd x6_2 x10_3))), (wrap64 (x13_5 + 1)), (by first | rfl | (simp; done) | (simp [*]; done)), (by first | rfl | (simp; done) | (simp [*]; done)), (by first | rfl | (simp; done) | (simp [*]; done)), H', ⟨by have := HJ8.out; have := HK2.out; have := HK3.out; have := HJ62.out; have := HK5.out; omega⟩, ⟨by (with_reducible repeat (first | apply Kd.R_alloc | apply Kd.R_drewN | apply Kd.R_drew)); exact HO_4.out⟩, ⟨by (with_reducible repeat (first | apply Kd.S_alloc | apply Kd.S_drewN | apply Kd.S_drew)); exact HO_5.out⟩, ⟨by (with_reducible repeat (first | apply Kd.R_alloc | apply Kd.R_drewN | apply Kd.R_drew)); exact HO_6.out⟩, ⟨by (with_reducible repeat (first | refine blk_drewN ?_ _ | refine blk_drew ?_ | refine blk_alloc ?_ _)); exact BK326.out⟩, ⟨by repeat (first | (with_reducible first | exact HB.out | apply below_alloc | apply pw_below_drewN | apply below_drew1 | refine below_set ?_ GE326.out) | exact HB.out)⟩⟩
                                ·replace c87 := Bool.eq_false_iff.mpr c87
                                 subst c87
                                 have H1 : (plnlaw4_FlowOrders.l2 k5 t333 t336 x6_2 (wrap64 (x7_3 + 1)) x9_3 x10_3 (decide ((rd x6_2 (rd (rd_L1 t336 x10_3) x13_5)) < (rd x6_2 x10_3))) false (wrap64 (x13_5 + 1)) a0_0 a0_1 l0_2 a0_3 l0_4) = some r := by rw [if_neg (show ¬ (false = true) by decide)] at H; exact H
                                 clear H; have H := H1; clear H1
                                 have H' := Aside0.mk H
                                 clear H
                                 obtain ⟨Ao91, co91, eo91⟩ := Kd.S_slice HO_5.out
                                 subst eo91
                                 have p355 : 0 ≤ (x10_3 : Int) := of_decide_eq_true (by first | (with_reducible assumption) | assumption)
                                 have q355 : x10_3 < (t336.length : Int) := of_decide_eq_true (by first | (with_reducible assumption) | assumption)
                                 obtain ⟨ad355, A355_0, c355_0, e355, hx355_0, hl355_0, hi355_0⟩ := at_L1 (Kd.S_reads' HO_5.out).2.2 x10_3 p355 q355
                                 cases e355
                                 obtain ⟨ce355, hce355, hMe355, hcc355⟩ := Kd.S_get HO_5.out [] x10_3 p355 (by first | exact q355 | exact of_decide_eq_true (by first | (with_reducible assumption) | assumption) | (have e_ := (Kd.S_reads' HO_5.out).1; omega))
                                 obtain ⟨ve355_0, rfl, ge355_0⟩ := hMe355
                                 have hv355_0 := hcc355 0 _ rfl
                                 rw [Nat.add_zero, show ((Kd.slice 3 (Kd.int .i64))).sz = 1 from rfl, Nat.mul_one] at hv355_0
                                 replace hv355_0 := Option.some.inj (hv355_0.symm.trans hx355_0)
                                 rw [hv355_0] at ge355_0
                                 have HL355_0 := Aside0.mk (show Kd.R (Kd.int .i64) 3 _ _ _ _ (rd_L1 t336 x10_3) from ge355_0); clear hv355_0 ge355_0 hcc355 hce355
                                 have HR355_0 := Aside0.mk hi355_0
                                 have HC355_0 := Aside0.mk hl355_0
                                 clear hi355_0 hl355_0
                                 replace p355 := eq_true p355
                                 replace q355 := eq_true q355
                                 have p356 : 0 ≤ (x10_3 : Int) := of_decide_eq_true (by first | (with_reducible assumption) | assumption)
                                 have q356 : x10_3 < (t336.length : Int) := of_decide_eq_true (by first | (with_reducible assumption) | assumption)
                                 obtain ⟨ad356, A356_0, c356_0, e356, hx356_0, hl356_0, hi356_0⟩ := at_L1 (Kd.S_reads' HO_5.out).2.2 x10_3 p356 q356
                                 obtain rfl : ad355 = ad356 := (by injection e356)
                                 obtain ⟨ce356, hce356, hMe356, hcc356⟩ := Kd.S_get HO_5.out [] x10_3 p356 (by first | exact q356 | exact of_decide_eq_true (by first | (with_reducible assumption) | assumption) | (have e_ := (Kd.S_reads' HO_5.out).1; omega))
                                 obtain ⟨ve356_0, rfl, ge356_0⟩ := hMe356
                                 have hv356_0 := hcc356 0 _ rfl
                                 rw [Nat.add_zero, show ((Kd.slice 3 (Kd.int .i64))).sz = 1 from rfl, Nat.mul_one] at hv356_0
                                 replace hv356_0 := Option.some.inj (hv356_0.symm.trans hx356_0)
                                 rw [hv356_0] at ge356_0
                                 have HL356_0 := Aside0.mk (show Kd.R (Kd.int .i64) 3 _ _ _ _ (rd_L1 t336 x10_3) from ge356_0); clear hv356_0 ge356_0 hcc356 hce356
                                 have HR356_0 := Aside0.mk hi356_0
                                 have HC356_0 := Aside0.mk hl356_0
                                 clear hi356_0 hl356_0
                                 replace p356 := eq_true p356
                                 replace q356 := eq_true q356
                                 have ea_ := Option.some.inj (hx355_0.symm.trans hx356_0)
                                 injection ea_ with ea_ en_ ec_
                                 subst ea_
                                 subst ec_
                                 clear en_
                                 have p357 : 0 ≤ (x13_5 : Int) := of_decide_eq_true (by first | (with_reducible assumption) | assumption)
                                 have q357 : x13_5 < ((rd_L1 t336 x10_3).length : Int) := of_decide_eq_true (by first | (with_reducible assumption) | assumption)
                                 obtain ⟨ad357, e357, hx357_0⟩ := Kd.at_int (by repeat (first | (with_reducible exact HR356_0.out) | (with_reducible refine Kd.C_alloc ?_ _) | (with_reducible refine Kd.C_drewN ?_ _) | (with_reducible refine Kd.C_drew ?_) | exact HR356_0.out)) x13_5 p357 q357
                                 cases e357
                                 replace p357 := eq_true p357
                                 replace q357 := eq_true q357
                                 have p358 : 0 ≤ ((rd (rd_L1 t336 x10_3) x13_5) : Int) := of_decide_eq_true (by first | (with_reducible assumption) | assumption)
                                 have q358 : (rd (rd_L1 t336 x10_3) x13_5) < (x6_2.length : Int) := of_decide_eq_true (by first | (with_reducible assumption) | assumption)
                                 obtain ⟨ad358, e358, hx358_0⟩ := Kd.at_int (Kd.R_reads' HO_6.out).2.2 (rd (rd_L1 t336 x10_3) x13_5) p358 q358
                                 obtain rfl : ad353 = ad358 := (by injection e358)
                                 replace p358 := eq_true p358
                                 replace q358 := eq_true q358
                                 try go_wp2
                                 have n0_ := Aside0.mk (Kd.R_drew HO_4.out); have n1_ := Aside0.mk (Kd.S_drew HO_5.out); have n2_ := Aside0.mk (Kd.R_drew HO_6.out); have n3_ := Aside0.mk (Kd.R_drew HL355_0.out); have n4_ := Aside0.mk (Kd.R_drew HL356_0.out); have n5_ := Aside0.mk (blk_drew BK326.out); have n6_ := Aside0.mk (Kd.C_drew HR355_0.out); have n7_ := Aside0.mk (Kd.C_drew HR356_0.out); have n8_ := Aside0.mk (below_drew1 HB.out); clear HO_4 HO_5 HO_6 HL355_0 HL356_0 BK326 HR355_0 HR356_0 HB; have HO_4 := n0_; have HO_5 := n1_; have HO_6 := n2_; have HL355_0 := n3_; have HL356_0 := n4_; have BK326 := n5_; have HR355_0 := n6_; have HR356_0 := n7_; have HB := n8_; clear n0_ n1_ n2_ n3_ n4_ n5_ n6_ n7_ n8_
                                 have p361 : 0 ≤ ((rd (rd_L1 t336 x10_3) x13_5) : Int) := of_decide_eq_true (by first | (with_reducible assumption) | assumption)
                                 have q361 : (rd (rd_L1 t336 x10_3) x13_5) < (x6_2.length : Int) := of_decide_eq_true (by first | (with_reducible assumption) | assumption)
                                 obtain ⟨ad361, e361, hx361_0⟩ := Kd.at_int (Kd.R_reads' HO_6.out).2.2 (rd (rd_L1 t336 x10_3) x13_5) p361 q361
                                 obtain rfl : ad353 = ad361 := (by injection e361)
                                 replace p361 := eq_true p361
                                 replace q361 := eq_true q361
                                 have p362 : 0 ≤ (x10_3 : Int) := of_decide_eq_true (by first | (with_reducible assumption) | assumption)
                                 have q362 : x10_3 < (x6_2.length : Int) := of_decide_eq_true (by first | (with_reducible assumption) | assumption)
                                 obtain ⟨ad362, e362, hx362_0⟩ := Kd.at_int (Kd.R_reads' HO_6.out).2.2 x10_3 p362 q362
                                 obtain rfl : ad353 = ad362 := (by injection e362)
                                 replace p362 := eq_true p362
                                 replace q362 := eq_true q362
                                 refine start_ (n := 13) (S := fun w' => w'.cell? (ad353.add ((rd (rd_L1 t336 x10_3) x13_5)).toNat) = some (.int .i64 (rd x6_2 (rd (rd_L1 t336 x10_3) x13_5))) ∧ w'.cell? (ad353.add (x10_3).toNat) = some (.int .i64 (rd x6_2 x10_3))) (ds := []) #[false, false, false, false, false, false, false, false, false, false, false, false, false] (by kernel_rfl) rfl rfl ⟨hx361_0, hx362_0⟩ (fun hHeld => ?_); refine with_tabW plnlaw4_FlowOrders.tab30 plnlaw4_FlowOrders.bits30 (fun HT_ HW_ => ?_)
                                 generalize wr.drew = w92 at HO_4 HO_5 HO_6 HL355_0 HL356_0 BK326 HR355_0 HR356_0 HB hx361_0 hx362_0 hHeld ⊢
                                 refine pure_ (i := 0) (N := some 151) (v := ?_) (a' := ?_) #[true, false, false, false, false, false, false, false, false, false, false, false, false] rfl rfl (any_of HT_.out (by kernel_rfl)) (fun _ _ _ h => h) (Or.inl ⟨by rfl, ?_⟩) ?_ ?_
                                 rotate_left
                                 ·intro w'
                                  go_simp
                                  with_reducible rfl
                                 rotate_left
                                 ·simp only [Act.put, List.setIfInBounds_toArray, List.set_cons_zero, List.set_cons_succ, i64_w, i32_w]; rfl
                                 refine pure_ (i := 1) (N := some 152) (v := ?_) (a' := ?_) #[true, true, false, false, false, false, false, false, false, false, false, false, false] rfl rfl (any_of HT_.out (by kernel_rfl)) (fun _ _ _ h => h) (Or.inl ⟨by rfl, ?_⟩) ?_ ?_
                                 rotate_left
                                 ·intro w'
                                  go_simp
                                  with_reducible rfl
                                 rotate_left
                                 ·simp only [Act.put, List.setIfInBounds_toArray, List.set_cons_zero, List.set_cons_succ, i64_w, i32_w]; rfl
                                 refine pure_ (i := 2) (N := some 153) (v := ?_) (a' := ?_) #[true, true, true, false, false, false, false, false, false, false, false, false, false] rfl rfl (any_of HT_.out (by kernel_rfl)) (fun _ _ _ h => h) (Or.inl ⟨by rfl, ?_⟩) ?_ ?_
                                 rotate_left
                                 ·intro w'
                                  go_simp
                                  with_reducible rfl
                                 rotate_left
                                 ·simp only [Act.put, List.setIfInBounds_toArray, List.set_cons_zero, List.set_cons_succ, i64_w, i32_w]; rfl
                                 refine pure_ (i := 3) (N := some 154) (v := ?_) (a' := ?_) #[true, true, true, true, false, false, false, false, false, false, false, false, false] rfl rfl (any_of HT_.out (by kernel_rfl)) (fun _ _ _ h => h) (Or.inl ⟨by rfl, ?_⟩) ?_ ?_
                                 rotate_left
                                 ·intro w'
                                  go_simp
                                  with_reducible rfl
                                 rotate_left
                                 ·simp only [Act.put, List.setIfInBounds_toArray, List.set_cons_zero, List.set_cons_succ, i64_w, i32_w]; rfl
                                 refine pure_ (i := 4) (N := some 155) (v := ?_) (a' := ?_) #[true, true, true, true, true, false, false, false, false, false, false, false, false] rfl rfl (any_of HT_.out (by kernel_rfl)) (fun _ _ _ h => h) (Or.inl ⟨by rfl, ?_⟩) ?_ ?_
                                 rotate_left
                                 ·intro w'
                                  go_simp
                                  with_reducible rfl
                                 rotate_left
                                 ·simp only [Act.put, List.setIfInBounds_toArray, List.set_cons_zero, List.set_cons_succ, i64_w, i32_w]; rfl
                                 refine pure_ (i := 6) (N := some 157) (v := ?_) (a' := ?_) #[true, true, true, true, true, false, true, false, false, false, false, false, false] rfl rfl (any_of HT_.out (by kernel_rfl)) (fun _ _ _ h => h) (Or.inl ⟨by rfl, ?_⟩) ?_ ?_
                                 rotate_left
                                 ·intro w'
                                  go_simp
                                  with_reducible rfl
                                 rotate_left
                                 ·simp only [Act.put, List.setIfInBounds_toArray, List.set_cons_zero, List.set_cons_succ, i64_w, i32_w]; rfl
                                 refine pure_ (i := 7) (N := some 158) (v := ?_) (a' := ?_) #[true, true, true, true, true, false, true, true, false, false, false, false, false] rfl rfl (any_of HT_.out (by kernel_rfl)) (fun _ _ _ h => h) (Or.inl ⟨by rfl, ?_⟩) ?_ ?_
                                 rotate_left
                                 ·intro w'
                                  go_simp
                                  with_reducible rfl
                                 rotate_left
                                 ·simp only [Act.put, List.setIfInBounds_toArray, List.set_cons_zero, List.set_cons_succ, i64_w, i32_w]; rfl
                                 refine pure_ (i := 8) (N := some 159) (v := ?_) (a' := ?_) #[true, true, true, true, true, false, true, true, true, false, false, false, false] rfl rfl (any_of HT_.out (by kernel_rfl)) (fun _ _ _ h => h) (Or.inl ⟨by rfl, ?_⟩) ?_ ?_
                                 rotate_left
                                 ·intro w'
                                  go_simp
                                  with_reducible rfl
                                 rotate_left
                                 ·simp only [Act.put, List.setIfInBounds_toArray, List.set_cons_zero, List.set_cons_succ, i64_w, i32_w]; rfl
                                 refine take_ (i := 5) (N := some 156) (v := ?_) (a' := ?_) #[true, true, true, true, true, true, true, true, true, false, false, false, false] rfl rfl (take_ofW HT_.out HW_.out (by kernel_rfl)) (fun _ _ _ h => h) (Or.inl ⟨by rfl, ?_⟩) hHeld ?_ ?_
                                 rotate_left
                                 ·rintro w' ⟨s0, s1⟩
                                  go_simp
                                  with_reducible rfl
                                 rotate_left
                                 ·simp only [Act.put, List.setIfInBounds_toArray, List.set_cons_zero, List.set_cons_succ, i64_w, i32_w]; rfl
                                 refine take_ (i := 9) (N := some 160) (v := ?_) (a' := ?_) #[true, true, true, true, true, true, true, true, true, true, false, false, false] rfl rfl (take_ofW HT_.out HW_.out (by kernel_rfl)) (fun _ _ _ h => h) (Or.inl ⟨by rfl, ?_⟩) hHeld ?_ ?_
                                 rotate_left
                                 ·rintro w' ⟨s0, s1⟩
                                  go_simp
                                  with_reducible rfl
                                 rotate_left
                                 ·simp only [Act.put, List.setIfInBounds_toArray, List.set_cons_zero, List.set_cons_succ, i64_w, i32_w]; rfl
                                 refine pure_ (i := 10) (N := some 161) (v := ?_) (a' := ?_) #[true, true, true, true, true, true, true, true, true, true, true, false, false] rfl rfl (any_of HT_.out (by kernel_rfl)) (fun _ _ _ h => h) (Or.inl ⟨by rfl, ?_⟩) ?_ ?_
                                 rotate_left
                                 ·intro w'
                                  go_simp
                                  with_reducible rfl
                                 rotate_left
                                 ·simp only [Act.put, List.setIfInBounds_toArray, List.set_cons_zero, List.set_cons_succ, i64_w, i32_w]; rfl
                                 refine pure_ (i := 11) (N := some 162) (v := ?_) (a' := ?_) #[true, true, true, true, true, true, true, true, true, true, true, true, false] rfl rfl (any_of HT_.out (by kernel_rfl)) (fun _ _ _ h => h) (Or.inl ⟨by rfl, ?_⟩) ?_ ?_
                                 rotate_left
                                 ·intro w'
                                  go_simp
                                  with_reducible rfl
                                 rotate_left
                                 ·simp only [Act.put, List.setIfInBounds_toArray, List.set_cons_zero, List.set_cons_succ, i64_w, i32_w]; rfl
                                 refine pure_ (i := 12) (N := some 11) (v := ?_) (a' := ?_) #[true, true, true, true, true, true, true, true, true, true, true, true, true] rfl rfl (any_of HT_.out (by kernel_rfl)) (fun _ _ _ h => h) (Or.inl ⟨by rfl, ?_⟩) ?_ ?_
                                 rotate_left
                                 ·intro w'
                                  go_simp
                                  with_reducible rfl
                                 rotate_left
                                 ·simp only [Act.put, List.setIfInBounds_toArray, List.set_cons_zero, List.set_cons_succ, i64_w, i32_w]; rfl
                                 refine done_ (done_of HT_.out (by kernel_rfl)) ?_
                                 try go_wp2
                                 have n0_ := Aside0.mk (Kd.R_drew HO_4.out); have n1_ := Aside0.mk (Kd.S_drew HO_5.out); have n2_ := Aside0.mk (Kd.R_drew HO_6.out); have n3_ := Aside0.mk (Kd.R_drew HL355_0.out); have n4_ := Aside0.mk (Kd.R_drew HL356_0.out); have n5_ := Aside0.mk (blk_drew BK326.out); have n6_ := Aside0.mk (Kd.C_drew HR355_0.out); have n7_ := Aside0.mk (Kd.C_drew HR356_0.out); have n8_ := Aside0.mk (below_drew1 HB.out); clear HO_4 HO_5 HO_6 HL355_0 HL356_0 BK326 HR355_0 HR356_0 HB; have HO_4 := n0_; have HO_5 := n1_; have HO_6 := n2_; have HL355_0 := n3_; have HL356_0 := n4_; have BK326 := n5_; have HR355_0 := n6_; have HR356_0 := n7_; have HB := n8_; clear n0_ n1_ n2_ n3_ n4_ n5_ n6_ n7_ n8_
                                 refine start_ (n := 13) (S := fun w' => True) (ds := []) #[false, false, false, false, false, false, false, false, false, false, false, false, false] (by kernel_rfl) rfl rfl trivial (fun hHeld => ?_); refine with_tabW plnlaw4_FlowOrders.tab31 plnlaw4_FlowOrders.bits31 (fun HT_ HW_ => ?_)
                                 generalize w92.drew = w93 at HO_4 HO_5 HO_6 HL355_0 HL356_0 BK326 HR355_0 HR356_0 HB hHeld ⊢
                                 refine pure_ (i := 0) (N := some 163) (v := ?_) (a' := ?_) #[true, false, false, false, false, false, false, false, false, false, false, false, false] rfl rfl (any_of HT_.out (by kernel_rfl)) (fun _ _ _ h => h) (Or.inl ⟨by rfl, ?_⟩) ?_ ?_
                                 rotate_left
                                 ·intro w'
                                  go_simp
                                  with_reducible rfl
                                 rotate_left
                                 ·simp only [Act.put, List.setIfInBounds_toArray, List.set_cons_zero, List.set_cons_succ, i64_w, i32_w]; rfl
                                 refine pure_ (i := 1) (N := some 164) (v := ?_) (a' := ?_) #[true, true, false, false, false, false, false, false, false, false, false, false, false] rfl rfl (any_of HT_.out (by kernel_rfl)) (fun _ _ _ h => h) (Or.inl ⟨by rfl, ?_⟩) ?_ ?_
                                 rotate_left
                                 ·intro w'
                                  go_simp
                                  with_reducible rfl
                                 rotate_left
                                 ·simp only [Act.put, List.setIfInBounds_toArray, List.set_cons_zero, List.set_cons_succ, i64_w, i32_w]; rfl
                                 refine pure_ (i := 2) (N := some 165) (v := undef) (a' := ?_) #[true, true, true, false, false, false, false, false, false, false, false, false, false] rfl rfl (any_of HT_.out (by kernel_rfl)) (fun _ _ _ h => h) (Or.inr ⟨by rfl, rfl⟩) ?_ ?_
                                 rotate_left
                                 ·simp only [Act.put, List.setIfInBounds_toArray, List.set_cons_zero, List.set_cons_succ, i64_w, i32_w]; rfl
                                 refine pure_ (i := 3) (N := some 166) (v := undef) (a' := ?_) #[true, true, true, true, false, false, false, false, false, false, false, false, false] rfl rfl (any_of HT_.out (by kernel_rfl)) (fun _ _ _ h => h) (Or.inr ⟨by rfl, rfl⟩) ?_ ?_
                                 rotate_left
                                 ·simp only [Act.put, List.setIfInBounds_toArray, List.set_cons_zero, List.set_cons_succ, i64_w, i32_w]; rfl
                                 refine pure_ (i := 4) (N := some 167) (v := undef) (a' := ?_) #[true, true, true, true, true, false, false, false, false, false, false, false, false] rfl rfl (any_of HT_.out (by kernel_rfl)) (fun _ _ _ h => h) (Or.inr ⟨by rfl, rfl⟩) ?_ ?_
                                 rotate_left
                                 ·simp only [Act.put, List.setIfInBounds_toArray, List.set_cons_zero, List.set_cons_succ, i64_w, i32_w]; rfl
                                 refine pure_ (i := 5) (N := some 168) (v := undef) (a' := ?_) #[true, true, true, true, true, true, false, false, false, false, false, false, false] rfl rfl (any_of HT_.out (by kernel_rfl)) (fun _ _ _ h => h) (Or.inr ⟨by rfl, rfl⟩) ?_ ?_
                                 rotate_left
                                 ·simp only [Act.put, List.setIfInBounds_toArray, List.set_cons_zero, List.set_cons_succ, i64_w, i32_w]; rfl
                                 refine pure_ (i := 6) (N := some 169) (v := undef) (a' := ?_) #[true, true, true, true, true, true, true, false, false, false, false, false, false] rfl rfl (any_of HT_.out (by kernel_rfl)) (fun _ _ _ h => h) (Or.inr ⟨by rfl, rfl⟩) ?_ ?_
                                 rotate_left
                                 ·simp only [Act.put, List.setIfInBounds_toArray, List.set_cons_zero, List.set_cons_succ, i64_w, i32_w]; rfl
                                 refine pure_ (i := 7) (N := some 170) (v := undef) (a' := ?_) #[true, true, true, true, true, true, true, true, false, false, false, false, false] rfl rfl (any_of HT_.out (by kernel_rfl)) (fun _ _ _ h => h) (Or.inr ⟨by rfl, rfl⟩) ?_ ?_
                                 rotate_left
                                 ·simp only [Act.put, List.setIfInBounds_toArray, List.set_cons_zero, List.set_cons_succ, i64_w, i32_w]; rfl
                                 refine pure_ (i := 8) (N := some 171) (v := undef) (a' := ?_) #[true, true, true, true, true, true, true, true, true, false, false, false, false] rfl rfl (any_of HT_.out (by kernel_rfl)) (fun _ _ _ h => h) (Or.inr ⟨by rfl, rfl⟩) ?_ ?_
                                 rotate_left
                                 ·simp only [Act.put, List.setIfInBounds_toArray, List.set_cons_zero, List.set_cons_succ, i64_w, i32_w]; rfl
                                 refine pure_ (i := 9) (N := some 172) (v := undef) (a' := ?_) #[true, true, true, true, true, true, true, true, true, true, false, false, false] rfl rfl (any_of HT_.out (by kernel_rfl)) (fun _ _ _ h => h) (Or.inr ⟨by rfl, rfl⟩) ?_ ?_
                                 rotate_left
                                 ·simp only [Act.put, List.setIfInBounds_toArray, List.set_cons_zero, List.set_cons_succ, i64_w, i32_w]; rfl
                                 refine pure_ (i := 10) (N := some 173) (v := undef) (a' := ?_) #[true, true, true, true, true, true, true, true, true, true, true, false, false] rfl rfl (any_of HT_.out (by kernel_rfl)) (fun _ _ _ h => h) (Or.inr ⟨by rfl, rfl⟩) ?_ ?_
                                 rotate_left
                                 ·simp only [Act.put, List.setIfInBounds_toArray, List.set_cons_zero, List.set_cons_succ, i64_w, i32_w]; rfl
                                 refine pure_ (i := 11) (N := some 174) (v := ?_) (a' := ?_) #[true, true, true, true, true, true, true, true, true, true, true, true, false] rfl rfl (any_of HT_.out (by kernel_rfl)) (fun _ _ _ h => h) (Or.inl ⟨by rfl, ?_⟩) ?_ ?_
                                 rotate_left
                                 ·intro w'
                                  go_simp
                                  with_reducible rfl
                                 rotate_left
                                 ·simp only [Act.put, List.setIfInBounds_toArray, List.set_cons_zero, List.set_cons_succ, i64_w, i32_w]; rfl
                                 refine pure_ (i := 12) (N := some 12) (v := ?_) (a' := ?_) #[true, true, true, true, true, true, true, true, true, true, true, true, true] rfl rfl (any_of HT_.out (by kernel_rfl)) (fun _ _ _ h => h) (Or.inl ⟨by rfl, ?_⟩) ?_ ?_
                                 rotate_left
                                 ·intro w'
                                  go_simp
                                  with_reducible rfl
                                 rotate_left
                                 ·simp only [Act.put, List.setIfInBounds_toArray, List.set_cons_zero, List.set_cons_succ, i64_w, i32_w]; rfl
                                 refine done_ (done_of HT_.out (by kernel_rfl)) ?_
                                 try go_wp2
                                 go_roundg k5
                                 case measure => have := HJ8.out; have := HK2.out; have := HK3.out; have := HJ62.out; have := HK5.out; omega
                                 case rel => exact ⟨(decide ((rd x6_2 (rd (rd_L1 t336 x10_3) x13_5)) < (rd x6_2 x10_3))), (false), (wrap64 (x13_5 + 1)), (by first | rfl | (simp; done) | (simp [*]; done)), (by first | rfl | (simp; done) | (simp [*]; done)), (by first | rfl | (simp; done) | (simp [*]; done)), H', ⟨by have := HJ8.out; have := HK2.out; have := HK3.out; have := HJ62.out; have := HK5.out; omega⟩, ⟨by (with_reducible repeat (first | apply Kd.R_alloc | apply Kd.R_drewN | apply Kd.R_drew)); exact HO_4.out⟩, ⟨by (with_reducible repeat (first | apply Kd.S_alloc | apply Kd.S_drewN | apply Kd.S_drew)); exact HO_5.out⟩, ⟨by (with_reducible repeat (first | apply Kd.R_alloc | apply Kd.R_drewN | apply Kd.R_drew)); exact HO_6.out⟩, ⟨by (with_reducible repeat (first | refine blk_drewN ?_ _ | refine blk_drew ?_ | refine blk_alloc ?_ _)); exact BK326.out⟩, ⟨by repeat (first | (with_reducible first | exact HB.out | apply below_alloc | apply pw_below_drewN | apply below_drew1 | refine below_set ?_ GE326.out) | exact HB.out)⟩⟩
                               ·rw [if_neg c86] at H
                                exact absurd H (by simp)
                             ·rw [if_neg c76] at H
                              have c76b0 : decide (0 < (rd x6_2 (rd (rd_L1 t336 x10_3) x13_5))) = false := decide_eq_false c76
                              clear c76
                              have H' := Aside0.mk H
                              clear H
                              obtain ⟨Ao94, co94, eo94⟩ := Kd.S_slice HO_5.out
                              subst eo94
                              have p355 : 0 ≤ (x10_3 : Int) := of_decide_eq_true (by first | (with_reducible assumption) | assumption)
                              have q355 : x10_3 < (t336.length : Int) := of_decide_eq_true (by first | (with_reducible assumption) | assumption)
                              obtain ⟨ad355, A355_0, c355_0, e355, hx355_0, hl355_0, hi355_0⟩ := at_L1 (Kd.S_reads' HO_5.out).2.2 x10_3 p355 q355
                              cases e355
                              obtain ⟨ce355, hce355, hMe355, hcc355⟩ := Kd.S_get HO_5.out [] x10_3 p355 (by first | exact q355 | exact of_decide_eq_true (by first | (with_reducible assumption) | assumption) | (have e_ := (Kd.S_reads' HO_5.out).1; omega))
                              obtain ⟨ve355_0, rfl, ge355_0⟩ := hMe355
                              have hv355_0 := hcc355 0 _ rfl
                              rw [Nat.add_zero, show ((Kd.slice 3 (Kd.int .i64))).sz = 1 from rfl, Nat.mul_one] at hv355_0
                              replace hv355_0 := Option.some.inj (hv355_0.symm.trans hx355_0)
                              rw [hv355_0] at ge355_0
                              have HL355_0 := Aside0.mk (show Kd.R (Kd.int .i64) 3 _ _ _ _ (rd_L1 t336 x10_3) from ge355_0); clear hv355_0 ge355_0 hcc355 hce355
                              have HR355_0 := Aside0.mk hi355_0
                              have HC355_0 := Aside0.mk hl355_0
                              clear hi355_0 hl355_0
                              replace p355 := eq_true p355
                              replace q355 := eq_true q355
                              have p356 : 0 ≤ (x10_3 : Int) := of_decide_eq_true (by first | (with_reducible assumption) | assumption)
                              have q356 : x10_3 < (t336.length : Int) := of_decide_eq_true (by first | (with_reducible assumption) | assumption)
                              obtain ⟨ad356, A356_0, c356_0, e356, hx356_0, hl356_0, hi356_0⟩ := at_L1 (Kd.S_reads' HO_5.out).2.2 x10_3 p356 q356
                              obtain rfl : ad355 = ad356 := (by injection e356)
                              obtain ⟨ce356, hce356, hMe356, hcc356⟩ := Kd.S_get HO_5.out [] x10_3 p356 (by first | exact q356 | exact of_decide_eq_true (by first | (with_reducible assumption) | assumption) | (have e_ := (Kd.S_reads' HO_5.out).1; omega))
                              obtain ⟨ve356_0, rfl, ge356_0⟩ := hMe356
                              have hv356_0 := hcc356 0 _ rfl
                              rw [Nat.add_zero, show ((Kd.slice 3 (Kd.int .i64))).sz = 1 from rfl, Nat.mul_one] at hv356_0
                              replace hv356_0 := Option.some.inj (hv356_0.symm.trans hx356_0)
                              rw [hv356_0] at ge356_0
                              have HL356_0 := Aside0.mk (show Kd.R (Kd.int .i64) 3 _ _ _ _ (rd_L1 t336 x10_3) from ge356_0); clear hv356_0 ge356_0 hcc356 hce356
                              have HR356_0 := Aside0.mk hi356_0
                              have HC356_0 := Aside0.mk hl356_0
                              clear hi356_0 hl356_0
                              replace p356 := eq_true p356
                              replace q356 := eq_true q356
                              have ea_ := Option.some.inj (hx355_0.symm.trans hx356_0)
                              injection ea_ with ea_ en_ ec_
                              subst ea_
                              subst ec_
                              clear en_
                              have p357 : 0 ≤ (x13_5 : Int) := of_decide_eq_true (by first | (with_reducible assumption) | assumption)
                              have q357 : x13_5 < ((rd_L1 t336 x10_3).length : Int) := of_decide_eq_true (by first | (with_reducible assumption) | assumption)
                              obtain ⟨ad357, e357, hx357_0⟩ := Kd.at_int (by repeat (first | (with_reducible exact HR356_0.out) | (with_reducible refine Kd.C_alloc ?_ _) | (with_reducible refine Kd.C_drewN ?_ _) | (with_reducible refine Kd.C_drew ?_) | exact HR356_0.out)) x13_5 p357 q357
                              cases e357
                              replace p357 := eq_true p357
                              replace q357 := eq_true q357
                              have p358 : 0 ≤ ((rd (rd_L1 t336 x10_3) x13_5) : Int) := of_decide_eq_true (by first | (with_reducible assumption) | assumption)
                              have q358 : (rd (rd_L1 t336 x10_3) x13_5) < (x6_2.length : Int) := of_decide_eq_true (by first | (with_reducible assumption) | assumption)
                              obtain ⟨ad358, e358, hx358_0⟩ := Kd.at_int (Kd.R_reads' HO_6.out).2.2 (rd (rd_L1 t336 x10_3) x13_5) p358 q358
                              obtain rfl : ad353 = ad358 := (by injection e358)
                              replace p358 := eq_true p358
                              replace q358 := eq_true q358
                              go_wp2
                              go_roundg k5
                              case measure => have := HJ8.out; have := HK2.out; have := HK3.out; have := HJ62.out; have := HK5.out; omega
                              case rel => exact ⟨(x11_5), (x12_5), (wrap64 (x13_5 + 1)), (by first | rfl | (simp; done) | (simp [*]; done)), (by first | rfl | (simp; done) | (simp [*]; done)), (by first | rfl | (simp; done) | (simp [*]; done)), H', ⟨by have := HJ8.out; have := HK2.out; have := HK3.out; have := HJ62.out; have := HK5.out; omega⟩, ⟨by (with_reducible repeat (first | apply Kd.R_alloc | apply Kd.R_drewN | apply Kd.R_drew)); exact HO_4.out⟩, ⟨by (with_reducible repeat (first | apply Kd.S_alloc | apply Kd.S_drewN | apply Kd.S_drew)); exact HO_5.out⟩, ⟨by (with_reducible repeat (first | apply Kd.R_alloc | apply Kd.R_drewN | apply Kd.R_drew)); exact HO_6.out⟩, ⟨by (with_reducible repeat (first | refine blk_drewN ?_ _ | refine blk_drew ?_ | refine blk_alloc ?_ _)); exact BK326.out⟩, ⟨by repeat (first | (with_reducible first | exact HB.out | apply below_alloc | apply pw_below_drewN | apply below_drew1 | refine below_set ?_ GE326.out) | exact HB.out)⟩⟩
                            ·rw [if_neg c75] at H
                             exact absurd H (by simp)
                           ·rw [if_neg c74] at H
                            have c74b0 : decide ((rd (rd_L1 t336 x10_3) x13_5) < (x6_2.length : Int)) = false := decide_eq_false c74
                            clear c74
                            have H' := Aside0.mk H
                            clear H
                            obtain ⟨Ao95, co95, eo95⟩ := Kd.S_slice HO_5.out
                            subst eo95
                            have p355 : 0 ≤ (x10_3 : Int) := of_decide_eq_true (by first | (with_reducible assumption) | assumption)
                            have q355 : x10_3 < (t336.length : Int) := of_decide_eq_true (by first | (with_reducible assumption) | assumption)
                            obtain ⟨ad355, A355_0, c355_0, e355, hx355_0, hl355_0, hi355_0⟩ := at_L1 (Kd.S_reads' HO_5.out).2.2 x10_3 p355 q355
                            cases e355
                            obtain ⟨ce355, hce355, hMe355, hcc355⟩ := Kd.S_get HO_5.out [] x10_3 p355 (by first | exact q355 | exact of_decide_eq_true (by first | (with_reducible assumption) | assumption) | (have e_ := (Kd.S_reads' HO_5.out).1; omega))
                            obtain ⟨ve355_0, rfl, ge355_0⟩ := hMe355
                            have hv355_0 := hcc355 0 _ rfl
                            rw [Nat.add_zero, show ((Kd.slice 3 (Kd.int .i64))).sz = 1 from rfl, Nat.mul_one] at hv355_0
                            replace hv355_0 := Option.some.inj (hv355_0.symm.trans hx355_0)
                            rw [hv355_0] at ge355_0
                            have HL355_0 := Aside0.mk (show Kd.R (Kd.int .i64) 3 _ _ _ _ (rd_L1 t336 x10_3) from ge355_0); clear hv355_0 ge355_0 hcc355 hce355
                            have HR355_0 := Aside0.mk hi355_0
                            have HC355_0 := Aside0.mk hl355_0
                            clear hi355_0 hl355_0
                            replace p355 := eq_true p355
                            replace q355 := eq_true q355
                            have p356 : 0 ≤ (x10_3 : Int) := of_decide_eq_true (by first | (with_reducible assumption) | assumption)
                            have q356 : x10_3 < (t336.length : Int) := of_decide_eq_true (by first | (with_reducible assumption) | assumption)
                            obtain ⟨ad356, A356_0, c356_0, e356, hx356_0, hl356_0, hi356_0⟩ := at_L1 (Kd.S_reads' HO_5.out).2.2 x10_3 p356 q356
                            obtain rfl : ad355 = ad356 := (by injection e356)
                            obtain ⟨ce356, hce356, hMe356, hcc356⟩ := Kd.S_get HO_5.out [] x10_3 p356 (by first | exact q356 | exact of_decide_eq_true (by first | (with_reducible assumption) | assumption) | (have e_ := (Kd.S_reads' HO_5.out).1; omega))
                            obtain ⟨ve356_0, rfl, ge356_0⟩ := hMe356
                            have hv356_0 := hcc356 0 _ rfl
                            rw [Nat.add_zero, show ((Kd.slice 3 (Kd.int .i64))).sz = 1 from rfl, Nat.mul_one] at hv356_0
                            replace hv356_0 := Option.some.inj (hv356_0.symm.trans hx356_0)
                            rw [hv356_0] at ge356_0
                            have HL356_0 := Aside0.mk (show Kd.R (Kd.int .i64) 3 _ _ _ _ (rd_L1 t336 x10_3) from ge356_0); clear hv356_0 ge356_0 hcc356 hce356
                            have HR356_0 := Aside0.mk hi356_0
                            have HC356_0 := Aside0.mk hl356_0
                            clear hi356_0 hl356_0
                            replace p356 := eq_true p356
                            replace q356 := eq_true q356
                            have ea_ := Option.some.inj (hx355_0.symm.trans hx356_0)
                            injection ea_ with ea_ en_ ec_
                            subst ea_
                            subst ec_
                            clear en_
                            have p357 : 0 ≤ (x13_5 : Int) := of_decide_eq_true (by first | (with_reducible assumption) | assumption)
                            have q357 : x13_5 < ((rd_L1 t336 x10_3).length : Int) := of_decide_eq_true (by first | (with_reducible assumption) | assumption)
                            obtain ⟨ad357, e357, hx357_0⟩ := Kd.at_int (by repeat (first | (with_reducible exact HR356_0.out) | (with_reducible refine Kd.C_alloc ?_ _) | (with_reducible refine Kd.C_drewN ?_ _) | (with_reducible refine Kd.C_drew ?_) | exact HR356_0.out)) x13_5 p357 q357
                            cases e357
                            replace p357 := eq_true p357
                            replace q357 := eq_true q357
                            go_wp2
                            go_roundg k5
                            case measure => have := HJ8.out; have := HK2.out; have := HK3.out; have := HJ62.out; have := HK5.out; omega
                            case rel => exact ⟨(x11_5), (x12_5), (wrap64 (x13_5 + 1)), (by first | rfl | (simp; done) | (simp [*]; done)), (by first | rfl | (simp; done) | (simp [*]; done)), (by first | rfl | (simp; done) | (simp [*]; done)), H', ⟨by have := HJ8.out; have := HK2.out; have := HK3.out; have := HJ62.out; have := HK5.out; omega⟩, ⟨by (with_reducible repeat (first | apply Kd.R_alloc | apply Kd.R_drewN | apply Kd.R_drew)); exact HO_4.out⟩, ⟨by (with_reducible repeat (first | apply Kd.S_alloc | apply Kd.S_drewN | apply Kd.S_drew)); exact HO_5.out⟩, ⟨by (with_reducible repeat (first | apply Kd.R_alloc | apply Kd.R_drewN | apply Kd.R_drew)); exact HO_6.out⟩, ⟨by (with_reducible repeat (first | refine blk_drewN ?_ _ | refine blk_drew ?_ | refine blk_alloc ?_ _)); exact BK326.out⟩, ⟨by repeat (first | (with_reducible first | exact HB.out | apply below_alloc | apply pw_below_drewN | apply below_drew1 | refine below_set ?_ GE326.out) | exact HB.out)⟩⟩
                          ·rw [if_neg c73] at H
                           have c73b0 : decide (0 ≤ (rd (rd_L1 t336 x10_3) x13_5)) = false := decide_eq_false c73
                           clear c73
                           have H' := Aside0.mk H
                           clear H
                           obtain ⟨Ao96, co96, eo96⟩ := Kd.S_slice HO_5.out
                           subst eo96
                           have p355 : 0 ≤ (x10_3 : Int) := of_decide_eq_true (by first | (with_reducible assumption) | assumption)
                           have q355 : x10_3 < (t336.length : Int) := of_decide_eq_true (by first | (with_reducible assumption) | assumption)
                           obtain ⟨ad355, A355_0, c355_0, e355, hx355_0, hl355_0, hi355_0⟩ := at_L1 (Kd.S_reads' HO_5.out).2.2 x10_3 p355 q355
                           cases e355
                           obtain ⟨ce355, hce355, hMe355, hcc355⟩ := Kd.S_get HO_5.out [] x10_3 p355 (by first | exact q355 | exact of_decide_eq_true (by first | (with_reducible assumption) | assumption) | (have e_ := (Kd.S_reads' HO_5.out).1; omega))
                           obtain ⟨ve355_0, rfl, ge355_0⟩ := hMe355
                           have hv355_0 := hcc355 0 _ rfl
                           rw [Nat.add_zero, show ((Kd.slice 3 (Kd.int .i64))).sz = 1 from rfl, Nat.mul_one] at hv355_0
                           replace hv355_0 := Option.some.inj (hv355_0.symm.trans hx355_0)
                           rw [hv355_0] at ge355_0
                           have HL355_0 := Aside0.mk (show Kd.R (Kd.int .i64) 3 _ _ _ _ (rd_L1 t336 x10_3) from ge355_0); clear hv355_0 ge355_0 hcc355 hce355
                           have HR355_0 := Aside0.mk hi355_0
                           have HC355_0 := Aside0.mk hl355_0
                           clear hi355_0 hl355_0
                           replace p355 := eq_true p355
                           replace q355 := eq_true q355
                           have p356 : 0 ≤ (x10_3 : Int) := of_decide_eq_true (by first | (with_reducible assumption) | assumption)
                           have q356 : x10_3 < (t336.length : Int) := of_decide_eq_true (by first | (with_reducible assumption) | assumption)
                           obtain ⟨ad356, A356_0, c356_0, e356, hx356_0, hl356_0, hi356_0⟩ := at_L1 (Kd.S_reads' HO_5.out).2.2 x10_3 p356 q356
                           obtain rfl : ad355 = ad356 := (by injection e356)
                           obtain ⟨ce356, hce356, hMe356, hcc356⟩ := Kd.S_get HO_5.out [] x10_3 p356 (by first | exact q356 | exact of_decide_eq_true (by first | (with_reducible assumption) | assumption) | (have e_ := (Kd.S_reads' HO_5.out).1; omega))
                           obtain ⟨ve356_0, rfl, ge356_0⟩ := hMe356
                           have hv356_0 := hcc356 0 _ rfl
                           rw [Nat.add_zero, show ((Kd.slice 3 (Kd.int .i64))).sz = 1 from rfl, Nat.mul_one] at hv356_0
                           replace hv356_0 := Option.some.inj (hv356_0.symm.trans hx356_0)
                           rw [hv356_0] at ge356_0
                           have HL356_0 := Aside0.mk (show Kd.R (Kd.int .i64) 3 _ _ _ _ (rd_L1 t336 x10_3) from ge356_0); clear hv356_0 ge356_0 hcc356 hce356
                           have HR356_0 := Aside0.mk hi356_0
                           have HC356_0 := Aside0.mk hl356_0
                           clear hi356_0 hl356_0
                           replace p356 := eq_true p356
                           replace q356 := eq_true q356
                           have ea_ := Option.some.inj (hx355_0.symm.trans hx356_0)
                           injection ea_ with ea_ en_ ec_
                           subst ea_
                           subst ec_
                           clear en_
                           have p357 : 0 ≤ (x13_5 : Int) := of_decide_eq_true (by first | (with_reducible assumption) | assumption)
                           have q357 : x13_5 < ((rd_L1 t336 x10_3).length : Int) := of_decide_eq_true (by first | (with_reducible assumption) | assumption)
                           obtain ⟨ad357, e357, hx357_0⟩ := Kd.at_int (by repeat (first | (with_reducible exact HR356_0.out) | (with_reducible refine Kd.C_alloc ?_ _) | (with_reducible refine Kd.C_drewN ?_ _) | (with_reducible refine Kd.C_drew ?_) | exact HR356_0.out)) x13_5 p357 q357
                           cases e357
                           replace p357 := eq_true p357
                           replace q357 := eq_true q357
                           go_wp2
                           go_roundg k5
                           case measure => have := HJ8.out; have := HK2.out; have := HK3.out; have := HJ62.out; have := HK5.out; omega
                           case rel => exact ⟨(x11_5), (x12_5), (wrap64 (x13_5 + 1)), (by first | rfl | (simp; done) | (simp [*]; done)), (by first | rfl | (simp; done) | (simp [*]; done)), (by first | rfl | (simp; done) | (simp [*]; done)), H', ⟨by have := HJ8.out; have := HK2.out; have := HK3.out; have := HJ62.out; have := HK5.out; omega⟩, ⟨by (with_reducible repeat (first | apply Kd.R_alloc | apply Kd.R_drewN | apply Kd.R_drew)); exact HO_4.out⟩, ⟨by (with_reducible repeat (first | apply Kd.S_alloc | apply Kd.S_drewN | apply Kd.S_drew)); exact HO_5.out⟩, ⟨by (with_reducible repeat (first | apply Kd.R_alloc | apply Kd.R_drewN | apply Kd.R_drew)); exact HO_6.out⟩, ⟨by (with_reducible repeat (first | refine blk_drewN ?_ _ | refine blk_drew ?_ | refine blk_alloc ?_ _)); exact BK326.out⟩, ⟨by repeat (first | (with_reducible first | exact HB.out | apply below_alloc | apply pw_below_drewN | apply below_drew1 | refine below_set ?_ GE326.out) | exact HB.out)⟩⟩
                         ·rw [if_neg c72] at H
                          exact absurd H (by simp)
                        ·rw [if_neg c71] at H
                         have c71b0 : decide (x13_5 < ((rd_L1 t336 x10_3).length : Int)) = false := decide_eq_false c71
                         clear c71
                         by_cases c97 : x11_5 = true
                         ·subst c97
                          have H1 : (if x9_3 = true then (plnlaw4_FlowOrders.l1 k5 t333 t336 x6_2 (wrap64 (x7_3 + 1)) true (wrap64 (x10_3 + 1)) a0_0 a0_1 l0_2 a0_3 l0_4) else (plnlaw4_FlowOrders.l1 k5 t333 t336 x6_2 (wrap64 (x7_3 + 1)) (!x12_5) (wrap64 (x10_3 + 1)) a0_0 a0_1 l0_2 a0_3 l0_4)) = some r := by rw [if_pos rfl] at H; exact H
                          clear H; have H := H1; clear H1
                          by_cases c98 : x9_3 = true
                          ·subst c98
                           have H1 : (plnlaw4_FlowOrders.l1 k5 t333 t336 x6_2 (wrap64 (x7_3 + 1)) true (wrap64 (x10_3 + 1)) a0_0 a0_1 l0_2 a0_3 l0_4) = some r := by rw [if_pos rfl] at H; exact H
                           clear H; have H := H1; clear H1
                           have H' := Aside0.mk H
                           clear H
                           obtain ⟨Ao99, co99, eo99⟩ := Kd.S_slice HO_5.out
                           subst eo99
                           have p355 : 0 ≤ (x10_3 : Int) := of_decide_eq_true (by first | (with_reducible assumption) | assumption)
                           have q355 : x10_3 < (t336.length : Int) := of_decide_eq_true (by first | (with_reducible assumption) | assumption)
                           obtain ⟨ad355, A355_0, c355_0, e355, hx355_0, hl355_0, hi355_0⟩ := at_L1 (Kd.S_reads' HO_5.out).2.2 x10_3 p355 q355
                           cases e355
                           obtain ⟨ce355, hce355, hMe355, hcc355⟩ := Kd.S_get HO_5.out [] x10_3 p355 (by first | exact q355 | exact of_decide_eq_true (by first | (with_reducible assumption) | assumption) | (have e_ := (Kd.S_reads' HO_5.out).1; omega))
                           obtain ⟨ve355_0, rfl, ge355_0⟩ := hMe355
                           have hv355_0 := hcc355 0 _ rfl
                           rw [Nat.add_zero, show ((Kd.slice 3 (Kd.int .i64))).sz = 1 from rfl, Nat.mul_one] at hv355_0
                           replace hv355_0 := Option.some.inj (hv355_0.symm.trans hx355_0)
                           rw [hv355_0] at ge355_0
                           have HL355_0 := Aside0.mk (show Kd.R (Kd.int .i64) 3 _ _ _ _ (rd_L1 t336 x10_3) from ge355_0); clear hv355_0 ge355_0 hcc355 hce355
                           have HR355_0 := Aside0.mk hi355_0
                           have HC355_0 := Aside0.mk hl355_0
                           clear hi355_0 hl355_0
                           replace p355 := eq_true p355
                           replace q355 := eq_true q355
                           go_wp2
                           go_roundg k5
                           case measure => have := HJ8.out; have := HK2.out; have := HK3.out; have := HJ62.out; have := HK5.out; omega
                           case rel => exact ⟨((wrap64 (x7_3 + 1))), (true), (wrap64 (x10_3 + 1)), (by first | rfl | (simp; done) | (simp [*]; done)), (by first | rfl | (simp; done) | (simp [*]; done)), (by first | rfl | (simp; done) | (simp [*]; done)), H', ⟨by have := HJ8.out; have := HK2.out; have := HK3.out; have := HJ62.out; have := HK5.out; omega⟩, ⟨by (with_reducible repeat (first | apply Kd.R_alloc | apply Kd.R_drewN | apply Kd.R_drew)); exact HO_4.out⟩, ⟨by (with_reducible repeat (first | apply Kd.S_alloc | apply Kd.S_drewN | apply Kd.S_drew)); exact HO_5.out⟩, ⟨by (with_reducible repeat (first | apply Kd.R_alloc | apply Kd.R_drewN | apply Kd.R_drew)); exact HO_6.out⟩, ⟨by (with_reducible repeat (first | refine blk_drewN ?_ _ | refine blk_drew ?_ | refine blk_alloc ?_ _)); exact BK326.out⟩, ⟨by repeat (first | (with_reducible first | exact HB.out | apply below_alloc | apply pw_below_drewN | apply below_drew1 | refine below_set ?_ GE326.out) | exact HB.out)⟩⟩
                          ·replace c98 := Bool.eq_false_iff.mpr c98
                           subst c98
                           have H1 : (plnlaw4_FlowOrders.l1 k5 t333 t336 x6_2 (wrap64 (x7_3 + 1)) (!x12_5) (wrap64 (x10_3 + 1)) a0_0 a0_1 l0_2 a0_3 l0_4) = some r := by rw [if_neg (show ¬ (false = true) by decide)] at H; exact H
                           clear H; have H := H1; clear H1
                           have H' := Aside0.mk H
                           clear H
                           obtain ⟨Ao100, co100, eo100⟩ := Kd.S_slice HO_5.out
                           subst eo100
                           have p355 : 0 ≤ (x10_3 : Int) := of_decide_eq_true (by first | (with_reducible assumption) | assumption)
                           have q355 : x10_3 < (t336.length : Int) := of_decide_eq_true (by first | (with_reducible assumption) | assumption)
                           obtain ⟨ad355, A355_0, c355_0, e355, hx355_0, hl355_0, hi355_0⟩ := at_L1 (Kd.S_reads' HO_5.out).2.2 x10_3 p355 q355
                           cases e355
                           obtain ⟨ce355, hce355, hMe355, hcc355⟩ := Kd.S_get HO_5.out [] x10_3 p355 (by first | exact q355 | exact of_decide_eq_true (by first | (with_reducible assumption) | assumption) | (have e_ := (Kd.S_reads' HO_5.out).1; omega))
                           obtain ⟨ve355_0, rfl, ge355_0⟩ := hMe355
                           have hv355_0 := hcc355 0 _ rfl
                           rw [Nat.add_zero, show ((Kd.slice 3 (Kd.int .i64))).sz = 1 from rfl, Nat.mul_one] at hv355_0
                           replace hv355_0 := Option.some.inj (hv355_0.symm.trans hx355_0)
                           rw [hv355_0] at ge355_0
                           have HL355_0 := Aside0.mk (show Kd.R (Kd.int .i64) 3 _ _ _ _ (rd_L1 t336 x10_3) from ge355_0); clear hv355_0 ge355_0 hcc355 hce355
                           have HR355_0 := Aside0.mk hi355_0
                           have HC355_0 := Aside0.mk hl355_0
                           clear hi355_0 hl355_0
                           replace p355 := eq_true p355
                           replace q355 := eq_true q355
                           go_wp2
                           go_roundg k5
                           case measure => have := HJ8.out; have := HK2.out; have := HK3.out; have := HJ62.out; have := HK5.out; omega
                           case rel => exact ⟨((wrap64 (x7_3 + 1))), (!x12_5), (wrap64 (x10_3 + 1)), (by first | rfl | (simp; done) | (simp [*]; done)), (by first | rfl | (simp; done) | (simp [*]; done)), (by first | rfl | (simp; done) | (simp [*]; done)), H', ⟨by have := HJ8.out; have := HK2.out; have := HK3.out; have := HJ62.out; have := HK5.out; omega⟩, ⟨by (with_reducible repeat (first | apply Kd.R_alloc | apply Kd.R_drewN | apply Kd.R_drew)); exact HO_4.out⟩, ⟨by (with_reducible repeat (first | apply Kd.S_alloc | apply Kd.S_drewN | apply Kd.S_drew)); exact HO_5.out⟩, ⟨by (with_reducible repeat (first | apply Kd.R_alloc | apply Kd.R_drewN | apply Kd.R_drew)); exact HO_6.out⟩, ⟨by (with_reducible repeat (first | refine blk_drewN ?_ _ | refine blk_drew ?_ | refine blk_alloc ?_ _)); exact BK326.out⟩, ⟨by repeat (first | (with_reducible first | exact HB.out | apply below_alloc | apply pw_below_drewN | apply below_drew1 | refine below_set ?_ GE326.out) | exact HB.out)⟩⟩
                         ·replace c97 := Bool.eq_false_iff.mpr c97
                          subst c97
                          have H1 : (some false) = some r := by rw [if_neg (show ¬ (false = true) by decide)] at H; exact H
                          clear H; have H := H1; clear H1
                          obtain rfl := Option.some.inj H
                          obtain ⟨Ao101, co101, eo101⟩ := Kd.S_slice HO_5.out
                          subst eo101
                          have p355 : 0 ≤ (x10_3 : Int) := of_decide_eq_true (by first | (with_reducible assumption) | assumption)
                          have q355 : x10_3 < (t336.length : Int) := of_decide_eq_true (by first | (with_reducible assumption) | assumption)
                          obtain ⟨ad355, A355_0, c355_0, e355, hx355_0, hl355_0, hi355_0⟩ := at_L1 (Kd.S_reads' HO_5.out).2.2 x10_3 p355 q355
                          cases e355
                          obtain ⟨ce355, hce355, hMe355, hcc355⟩ := Kd.S_get HO_5.out [] x10_3 p355 (by first | exact q355 | exact of_decide_eq_true (by first | (with_reducible assumption) | assumption) | (have e_ := (Kd.S_reads' HO_5.out).1; omega))
                          obtain ⟨ve355_0, rfl, ge355_0⟩ := hMe355
                          have hv355_0 := hcc355 0 _ rfl
                          rw [Nat.add_zero, show ((Kd.slice 3 (Kd.int .i64))).sz = 1 from rfl, Nat.mul_one] at hv355_0
                          replace hv355_0 := Option.some.inj (hv355_0.symm.trans hx355_0)
                          rw [hv355_0] at ge355_0
                          have HL355_0 := Aside0.mk (show Kd.R (Kd.int .i64) 3 _ _ _ _ (rd_L1 t336 x10_3) from ge355_0); clear hv355_0 ge355_0 hcc355 hce355
                          have HR355_0 := Aside0.mk hi355_0
                          have HC355_0 := Aside0.mk hl355_0
                          clear hi355_0 hl355_0
                          replace p355 := eq_true p355
                          replace q355 := eq_true q355
                          go_wp2
                          go_ret
                          exact ⟨by first | rfl | (simp [errW_none, errW_some] <;> rfl) | (simp [*, errW_none, errW_some] <;> rfl), by repeat (first | (with_reducible first | exact HB.out | apply below_alloc | apply pw_below_drewN | apply below_drew1 | refine below_set ?_ GE326.out) | exact HB.out)⟩
                       ·rw [if_neg c70] at H
                        exact absurd H (by simp)
                      ·rw [if_neg c69] at H
                       exact absurd H (by simp)
               ·rw [if_neg c59] at H
                exact absurd H (by simp)
              ·rw [if_neg c58] at H
               exact absurd H (by simp)
             ·rw [if_neg c57] at H
              have c57b0 : decide (x10_3 < (t333.length : Int)) = false := decide_eq_false c57
              clear c57
              replace H := Option.bind_eq_some_iff.mp H
              obtain ⟨t351, A1020, H⟩ := H
              replace H : (if t351 = true then (some true) else (some (!x9_3))) = some r := H
              have A102 := Aside0.mk A1020
              clear A1020
              by_cases c103 : t351 = true
              ·subst c103
               have H1 : (some true) = some r := by rw [if_pos rfl] at H; exact H
               clear H; have H := H1; clear H1
               obtain rfl := Option.some.inj H
               have hcz104_0 : wr.cell? ⟨gb326, 0, none⟩ = some (.string a0_0) := (blk_cell BK326.out 0).trans rfl
               have hcz104_1 : wr.cell? ⟨gb326, 1, none⟩ = some (.bool a0_1) := (blk_cell BK326.out 1).trans rfl
               have hcz104_2 : wr.cell? ⟨gb326, 2, none⟩ = some (.slice A0_2 l0_2.length c0_2) := (blk_cell BK326.out 2).trans rfl
               have hcz104_3 : wr.cell? ⟨gb326, 3, none⟩ = some (.int .i64 a0_3) := (blk_cell BK326.out 3).trans rfl
               have hcz104_4 : wr.cell? ⟨gb326, 4, none⟩ = some (.slice A0_4 l0_4.length c0_4) := (blk_cell BK326.out 4).trans rfl
               have hfz104_0 := blk_frozen BK326.out 0
               have hfz104_1 := blk_frozen BK326.out 1
               have hfz104_2 := blk_frozen BK326.out 2
               have hfz104_3 := blk_frozen BK326.out 3
               have hfz104_4 := blk_frozen BK326.out 4
               go_wp2_with (first | ((with_reducible refine gate_callee (f := 29) rfl ?_); refine goesL_ (some 183) rfl rfl Try.func29 (by kernel_rfl) rfl #[.agg #[.string a0_0, .bool a0_1, .slice A0_2 l0_2.length c0_2, .int .i64 a0_3, .slice A0_4 l0_4.length c0_4]] rfl (by (try simp only [List.map_toArray, List.map_cons, List.map_nil]); first | done | rfl | (simp only [List.length_drop, List.length_take]; rfl)) ?_; (with_reducible refine (flow_Loops.calls k3 a0_0 a0_1 _ _ l0_2 a0_3 _ _ l0_4 true _ ?side1 ?side2 ?side3 ?side4 A102.out).mono ?_); (case side1 => repeat (first | exact (Kd.C_below HR0_2.out HB.out) | (with_reducible refine Kd.C_alloc ?_ _) | (with_reducible refine Kd.C_drewN ?_ _) | (with_reducible refine Kd.C_drew ?_))); (case side2 => exact HC0_2.out); (case side3 => repeat (first | exact (Kd.C_below HR0_4.out HB.out) | (with_reducible refine Kd.C_alloc ?_ _) | (with_reducible refine Kd.C_drewN ?_ _) | (with_reducible refine Kd.C_drew ?_))); (case side4 => exact HC0_4.out); rintro e w105 ⟨rfl, hb⟩; refine ⟨_, rfl, ?_⟩; have n0_ := Aside0.mk (Kd.R_below (by (with_reducible repeat (first | apply Kd.R_alloc | apply Kd.R_drewN | apply Kd.R_drew)); exact HO_4.out) hb); have n1_ := Aside0.mk (Kd.S_below (by (with_reducible repeat (first | apply Kd.S_alloc | apply Kd.S_drewN | apply Kd.S_drew)); exact HO_5.out) hb); have n2_ := Aside0.mk (Kd.R_below (by (with_reducible repeat (first | apply Kd.R_alloc | apply Kd.R_drewN | apply Kd.R_drew)); exact HO_6.out) hb); have n3_ := Aside0.mk (blk_below (g := gb326) (o := .cells #[.string a0_0, .bool a0_1, .slice A0_2 l0_2.length c0_2, .int .i64 a0_3, .slice A0_4 l0_4.length c0_4] 25 (0, 0)) (by (with_reducible repeat (first | refine blk_drewN ?_ _ | refine blk_drew ?_ | refine blk_alloc ?_ _)); exact BK326.out) hb); have n4_ := Aside0.mk (below_step (by repeat (first | (with_reducible first | exact HB.out | apply below_alloc | apply pw_below_drewN | apply below_drew1 | refine below_set ?_ GE326.out) | exact HB.out)) hb); clear HO_4; clear HO_5; clear HO_6; clear BK326; clear HB; have HO_4 := n0_; have HO_5 := n1_; have HO_6 := n2_; have BK326 := n3_; have HB := n4_; clear n0_ n1_ n2_ n3_ n4_; (try clear hb); (try clear hb2); (try clear hk); (try clear hi)))
               go_ret
               exact ⟨by first | rfl | (simp [errW_none, errW_some] <;> rfl) | (simp [*, errW_none, errW_some] <;> rfl), by repeat (first | (with_reducible first | exact HB.out | apply below_alloc | apply pw_below_drewN | apply below_drew1 | refine below_set ?_ GE326.out) | exact HB.out)⟩
              ·replace c103 := Bool.eq_false_iff.mpr c103
               subst c103
               have H1 : (some (!x9_3)) = some r := by rw [if_neg (show ¬ (false = true) by decide)] at H; exact H
               clear H; have H := H1; clear H1
               obtain rfl := Option.some.inj H
               have hcz106_0 : wr.cell? ⟨gb326, 0, none⟩ = some (.string a0_0) := (blk_cell BK326.out 0).trans rfl
               have hcz106_1 : wr.cell? ⟨gb326, 1, none⟩ = some (.bool a0_1) := (blk_cell BK326.out 1).trans rfl
               have hcz106_2 : wr.cell? ⟨gb326, 2, none⟩ = some (.slice A0_2 l0_2.length c0_2) := (blk_cell BK326.out 2).trans rfl
               have hcz106_3 : wr.cell? ⟨gb326, 3, none⟩ = some (.int .i64 a0_3) := (blk_cell BK326.out 3).trans rfl
               have hcz106_4 : wr.cell? ⟨gb326, 4, none⟩ = some (.slice A0_4 l0_4.length c0_4) := (blk_cell BK326.out 4).trans rfl
               have hfz106_0 := blk_frozen BK326.out 0
               have hfz106_1 := blk_frozen BK326.out 1
               have hfz106_2 := blk_frozen BK326.out 2
               have hfz106_3 := blk_frozen BK326.out 3
               have hfz106_4 := blk_frozen BK326.out 4
               go_wp2_with (first | ((with_reducible refine gate_callee (f := 29) rfl ?_); refine goesL_ (some 183) rfl rfl Try.func29 (by kernel_rfl) rfl #[.agg #[.string a0_0, .bool a0_1, .slice A0_2 l0_2.length c0_2, .int .i64 a0_3, .slice A0_4 l0_4.length c0_4]] rfl (by (try simp only [List.map_toArray, List.map_cons, List.map_nil]); first | done | rfl | (simp only [List.length_drop, List.length_take]; rfl)) ?_; (with_reducible refine (flow_Loops.calls k3 a0_0 a0_1 _ _ l0_2 a0_3 _ _ l0_4 false _ ?side1 ?side2 ?side3 ?side4 A102.out).mono ?_); (case side1 => repeat (first | exact (Kd.C_below HR0_2.out HB.out) | (with_reducible refine Kd.C_alloc ?_ _) | (with_reducible refine Kd.C_drewN ?_ _) | (with_reducible refine Kd.C_drew ?_))); (case side2 => exact HC0_2.out); (case side3 => repeat (first | exact (Kd.C_below HR0_4.out HB.out) | (with_reducible refine Kd.C_alloc ?_ _) | (with_reducible refine Kd.C_drewN ?_ _) | (with_reducible refine Kd.C_drew ?_))); (case side4 => exact HC0_4.out); rintro e w107 ⟨rfl, hb⟩; refine ⟨_, rfl, ?_⟩; have n0_ := Aside0.mk (Kd.R_below (by (with_reducible repeat (first | apply Kd.R_alloc | apply Kd.R_drewN | apply Kd.R_drew)); exact HO_4.out) hb); have n1_ := Aside0.mk (Kd.S_below (by (with_reducible repeat (first | apply Kd.S_alloc | apply Kd.S_drewN | apply Kd.S_drew)); exact HO_5.out) hb); have n2_ := Aside0.mk (Kd.R_below (by (with_reducible repeat (first | apply Kd.R_alloc | apply Kd.R_drewN | apply Kd.R_drew)); exact HO_6.out) hb); have n3_ := Aside0.mk (blk_below (g := gb326) (o := .cells #[.string a0_0, .bool a0_1, .slice A0_2 l0_2.length c0_2, .int .i64 a0_3, .slice A0_4 l0_4.length c0_4] 25 (0, 0)) (by (with_reducible repeat (first | refine blk_drewN ?_ _ | refine blk_drew ?_ | refine blk_alloc ?_ _)); exact BK326.out) hb); have n4_ := Aside0.mk (below_step (by repeat (first | (with_reducible first | exact HB.out | apply below_alloc | apply pw_below_drewN | apply below_drew1 | refine below_set ?_ GE326.out) | exact HB.out)) hb); clear HO_4; clear HO_5; clear HO_6; clear BK326; clear HB; have HO_4 := n0_; have HO_5 := n1_; have HO_6 := n2_; have BK326 := n3_; have HB := n4_; clear n0_ n1_ n2_ n3_ n4_; (try clear hb); (try clear hb2); (try clear hk); (try clear hi)))
               go_ret
               exact ⟨by first | rfl | (simp [errW_none, errW_some] <;> rfl) | (simp [*, errW_none, errW_some] <;> rfl), by repeat (first | (with_reducible first | exact HB.out | apply below_alloc | apply pw_below_drewN | apply below_drew1 | refine below_set ?_ GE326.out) | exact HB.out)⟩
       ·rw [if_neg c26] at H
        exact absurd H (by simp)
      ·rw [if_neg c25] at H
       exact absurd H (by simp)
  ·replace c5 := Bool.eq_false_iff.mpr c5
   subst c5
   have H1 : ((plnlaw4_first.f k).bind fun t329 => (some t329)) = some r := by rw [if_neg (show ¬ (false = true) by decide)] at H; exact H
   clear H; have H := H1; clear H1
   replace H := Option.bind_eq_some_iff.mp H
   obtain ⟨t329, A1080, H⟩ := H
   replace H : (some t329) = some r := H
   have A108 := Aside0.mk A1080
   clear A1080
   obtain rfl := Option.some.inj H
   go_enter Try.func4, Try.ntmps4
   go_wp2_with (first | ((with_reducible refine gate_dst (N := 1) rfl ?_); (try (refine gate_guard (by rfl) ?_; dsimp only)); refine box_event ?hg (N := 1) ?hd (cs := #[.string a0_0, .bool a0_1, .slice A0_2 l0_2.length c0_2, .int .i64 a0_3, .slice A0_4 l0_4.length c0_4]) (t := 25) ?hr ?_; (case hd => rfl); (case hg => rfl); (case hr => first | (go_simp; done) | (go_simp; rfl)); intro gb326 hg w109 hbox hb; have n0_ := Aside0.mk (below_step (by repeat (first | (with_reducible first | exact HB.out | apply below_alloc | apply pw_below_drewN | apply below_drew1) | exact HB.out)) hb); have n1_ := Aside0.mk (hbox); have n2_ := Aside0.mk ((by rw [hg]; exact (below_size (by repeat (first | (with_reducible first | exact HB.out | apply below_alloc | apply pw_below_drewN | apply below_drew1) | exact HB.out))) : w.heap.size ≤ gb326)); have n3_ := Aside0.mk ((by rw [hg]; exact (below_size (by repeat (first | (with_reducible first | exact HB.out | apply below_alloc | apply pw_below_drewN | apply below_drew1) | exact HB.out))) : w.heap.size ≤ gb326)); clear HB; have HB := n0_; have BK326 := n1_; have GW326 := n2_; have GE326 := n3_; clear n0_ n1_ n2_ n3_; clear hb hbox hg) | ((with_reducible refine gate_callee (f := 16) rfl ?_); refine goesL_ (some 15) rfl rfl Try.func16 (by kernel_rfl) rfl #[] rfl (by (try simp only [List.map_toArray, List.map_cons, List.map_nil]); first | done | rfl | (simp only [List.length_drop, List.length_take]; rfl)) ?_; (with_reducible refine (plnlaw4_first.calls k  true _ A2.out).mono ?_); rintro e w110 ⟨rfl, hb⟩; refine ⟨_, rfl, ?_⟩; have n0_ := Aside0.mk (blk_below (g := gb326) (o := .cells #[.string a0_0, .bool a0_1, .slice A0_2 l0_2.length c0_2, .int .i64 a0_3, .slice A0_4 l0_4.length c0_4] 25 (0, 0)) (by (with_reducible repeat (first | refine blk_drewN ?_ _ | refine blk_drew ?_ | refine blk_alloc ?_ _)); exact BK326.out) hb); have n1_ := Aside0.mk (below_step (by repeat (first | (with_reducible first | exact HB.out | apply below_alloc | apply pw_below_drewN | apply below_drew1 | refine below_set ?_ GE326.out) | exact HB.out)) hb); clear BK326; clear HB; have BK326 := n0_; have HB := n1_; clear n0_ n1_; (try clear hb); (try clear hb2); (try clear hk); (try clear hi); have hcz111_0 : w110.cell? ⟨gb326, 0, none⟩ = some (.string a0_0) := (blk_cell BK326.out 0).trans rfl; have hcz111_1 : w110.cell? ⟨gb326, 1, none⟩ = some (.bool a0_1) := (blk_cell BK326.out 1).trans rfl; have hcz111_2 : w110.cell? ⟨gb326, 2, none⟩ = some (.slice A0_2 l0_2.length c0_2) := (blk_cell BK326.out 2).trans rfl; have hcz111_3 : w110.cell? ⟨gb326, 3, none⟩ = some (.int .i64 a0_3) := (blk_cell BK326.out 3).trans rfl; have hcz111_4 : w110.cell? ⟨gb326, 4, none⟩ = some (.slice A0_4 l0_4.length c0_4) := (blk_cell BK326.out 4).trans rfl; have hfz111_0 := blk_frozen BK326.out 0; have hfz111_1 := blk_frozen BK326.out 1; have hfz111_2 := blk_frozen BK326.out 2; have hfz111_3 := blk_frozen BK326.out 3; have hfz111_4 := blk_frozen BK326.out 4) | ((with_reducible refine gate_callee (f := 17) rfl ?_); refine goesL_ (some 18) rfl rfl Try.func17 (by kernel_rfl) rfl #[.agg #[.string a0_0, .bool a0_1, .slice A0_2 l0_2.length c0_2, .int .i64 a0_3, .slice A0_4 l0_4.length c0_4]] rfl (by (try simp only [List.map_toArray, List.map_cons, List.map_nil]); first | done | rfl | (simp only [List.length_drop, List.length_take]; rfl)) ?_; (with_reducible refine (plnkeep_Light.calls k a0_0 a0_1 _ _ l0_2 a0_3 _ _ l0_4 false _ ?side1 ?side2 ?side3 ?side4 A4.out).mono ?_); (case side1 => repeat (first | exact (Kd.C_below HR0_2.out HB.out) | (with_reducible refine Kd.C_alloc ?_ _) | (with_reducible refine Kd.C_drewN ?_ _) | (with_reducible refine Kd.C_drew ?_))); (case side2 => exact HC0_2.out); (case side3 => repeat (first | exact (Kd.C_below HR0_4.out HB.out) | (with_reducible refine Kd.C_alloc ?_ _) | (with_reducible refine Kd.C_drewN ?_ _) | (with_reducible refine Kd.C_drew ?_))); (case side4 => exact HC0_4.out); rintro e w112 ⟨rfl, hb⟩; refine ⟨_, rfl, ?_⟩; have n0_ := Aside0.mk (blk_below (g := gb326) (o := .cells #[.string a0_0, .bool a0_1, .slice A0_2 l0_2.length c0_2, .int .i64 a0_3, .slice A0_4 l0_4.length c0_4] 25 (0, 0)) (by (with_reducible repeat (first | refine blk_drewN ?_ _ | refine blk_drew ?_ | refine blk_alloc ?_ _)); exact BK326.out) hb); have n1_ := Aside0.mk (below_step (by repeat (first | (with_reducible first | exact HB.out | apply below_alloc | apply pw_below_drewN | apply below_drew1 | refine below_set ?_ GE326.out) | exact HB.out)) hb); clear BK326; clear HB; have BK326 := n0_; have HB := n1_; clear n0_ n1_; (try clear hb); (try clear hb2); (try clear hk); (try clear hi)) | ((with_reducible refine gate_callee (f := 16) rfl ?_); refine goesL_ (some 20) rfl rfl Try.func16 (by kernel_rfl) rfl #[] rfl (by (try simp only [List.map_toArray, List.map_cons, List.map_nil]); first | done | rfl | (simp only [List.length_drop, List.length_take]; rfl)) ?_; (with_reducible refine (plnlaw4_first.calls k  t329 _ A108.out).mono ?_); rintro e w113 ⟨rfl, hb⟩; refine ⟨_, rfl, ?_⟩; have n0_ := Aside0.mk (blk_below (g := gb326) (o := .cells #[.string a0_0, .bool a0_1, .slice A0_2 l0_2.length c0_2, .int .i64 a0_3, .slice A0_4 l0_4.length c0_4] 25 (0, 0)) (by (with_reducible repeat (first | refine blk_drewN ?_ _ | refine blk_drew ?_ | refine blk_alloc ?_ _)); exact BK326.out) hb); have n1_ := Aside0.mk (below_step (by repeat (first | (with_reducible first | exact HB.out | apply below_alloc | apply pw_below_drewN | apply below_drew1 | refine below_set ?_ GE326.out) | exact HB.out)) hb); clear BK326; clear HB; have BK326 := n0_; have HB := n1_; clear n0_ n1_; (try clear hb); (try clear hb2); (try clear hk); (try clear hi)))
   go_ret
   exact ⟨by first | rfl | (simp [errW_none, errW_some] <;> rfl) | (simp [*, errW_none, errW_some] <;> rfl), by repeat (first | (with_reducible first | exact HB.out | apply below_alloc | apply pw_below_drewN | apply below_drew1 | refine below_set ?_ GE326.out) | exact HB.out)⟩
 ·replace c3 := Bool.eq_false_iff.mpr c3
  subst c3
  have H1 : (some false) = some r := by rw [if_neg (show ¬ (false = true) by decide)] at H; exact H
  clear H; have H := H1; clear H1
  obtain rfl := Option.some.inj H
  go_enter Try.func4, Try.ntmps4
  go_wp2_with (first | ((with_reducible refine gate_dst (N := 1) rfl ?_); (try (refine gate_guard (by rfl) ?_; dsimp only)); refine box_event ?hg (N := 1) ?hd (cs := #[.string a0_0, .bool a0_1, .slice A0_2 l0_2.length c0_2, .int .i64 a0_3, .slice A0_4 l0_4.length c0_4]) (t := 25) ?hr ?_; (case hd => rfl); (case hg => rfl); (case hr => first | (go_simp; done) | (go_simp; rfl)); intro gb326 hg w114 hbox hb; have n0_ := Aside0.mk (below_step (by repeat (first | (with_reducible first | exact HB.out | apply below_alloc | apply pw_below_drewN | apply below_drew1) | exact HB.out)) hb); have n1_ := Aside0.mk (hbox); have n2_ := Aside0.mk ((by rw [hg]; exact (below_size (by repeat (first | (with_reducible first | exact HB.out | apply below_alloc | apply pw_below_drewN | apply below_drew1) | exact HB.out))) : w.heap.size ≤ gb326)); have n3_ := Aside0.mk ((by rw [hg]; exact (below_size (by repeat (first | (with_reducible first | exact HB.out | apply below_alloc | apply pw_below_drewN | apply below_drew1) | exact HB.out))) : w.heap.size ≤ gb326)); clear HB; have HB := n0_; have BK326 := n1_; have GW326 := n2_; have GE326 := n3_; clear n0_ n1_ n2_ n3_; clear hb hbox hg) | ((with_reducible refine gate_callee (f := 16) rfl ?_); refine goesL_ (some 15) rfl rfl Try.func16 (by kernel_rfl) rfl #[] rfl (by (try simp only [List.map_toArray, List.map_cons, List.map_nil]); first | done | rfl | (simp only [List.length_drop, List.length_take]; rfl)) ?_; (with_reducible refine (plnlaw4_first.calls k  false _ A2.out).mono ?_); rintro e w115 ⟨rfl, hb⟩; refine ⟨_, rfl, ?_⟩; have n0_ := Aside0.mk (blk_below (g := gb326) (o := .cells #[.string a0_0, .bool a0_1, .slice A0_2 l0_2.length c0_2, .int .i64 a0_3, .slice A0_4 l0_4.length c0_4] 25 (0, 0)) (by (with_reducible repeat (first | refine blk_drewN ?_ _ | refine blk_drew ?_ | refine blk_alloc ?_ _)); exact BK326.out) hb); have n1_ := Aside0.mk (below_step (by repeat (first | (with_reducible first | exact HB.out | apply below_alloc | apply pw_below_drewN | apply below_drew1 | refine below_set ?_ GE326.out) | exact HB.out)) hb); clear BK326; clear HB; have BK326 := n0_; have HB := n1_; clear n0_ n1_; (try clear hb); (try clear hb2); (try clear hk); (try clear hi)))
  go_ret
  exact ⟨by first | rfl | (simp [errW_none, errW_some] <;> rfl) | (simp [*, errW_none, errW_some] <;> rfl), by repeat (first | (with_reducible first | exact HB.out | apply below_alloc | apply pw_below_drewN | apply below_drew1 | refine below_set ?_ GE326.out) | exact HB.out)⟩
def plnlaw4_FlowOrders.Pure : Prop := ∀ (a0_0 : ByteArray) (a0_1 : Bool) (l0_2 : List Int) (a0_3 : Int) (l0_4 : List (S54)), B25 (⟨a0_0, a0_1, l0_2, a0_3, l0_4⟩ : S25) → ∃ k, plnlaw4_FlowOrders.f k a0_0 a0_1 l0_2 a0_3 l0_4 = some true
theorem plnlaw4_FlowOrders.walk (P : plnlaw4_FlowOrders.Pure) (a0_0 : ByteArray) (a0_1 : Bool) (A0_2 : Option Addr) (c0_2 : Nat) (l0_2 : List Int) (a0_3 : Int) (A0_4 : Option Addr) (c0_4 : Nat) (l0_4 : List (S54)) (w : World) (hr0_2 : Kd.C (Kd.int .i64) w A0_2 l0_2.length l0_2) (hc0_2 : l0_2.length ≤ c0_2) (hr0_4 : Kd.C k54 w A0_4 l0_4.length l0_4) (hc0_4 : l0_4.length ≤ c0_4) (hb0 : B25 (⟨a0_0, a0_1, l0_2, a0_3, l0_4⟩ : S25)) :
  Calls Try.prog 4 #[.agg #[.string a0_0, .bool a0_1, .slice A0_2 l0_2.length c0_2, .int .i64 a0_3, .slice A0_4 l0_4.length c0_4]] w fun e w' => e = .returned (.bool true) ∧ Below w.heap.size w w' := by
 obtain ⟨k, h⟩ := P a0_0 a0_1 l0_2 a0_3 l0_4 hb0
 refine (plnlaw4_FlowOrders.calls k a0_0 a0_1 _ _ l0_2 a0_3 _ _ l0_4 true w hr0_2 hc0_2 hr0_4 hc0_4 h).mono ?_
 rintro e w' ⟨rfl, hd⟩
 exact ⟨rfl, hd⟩
end Go.Proofs.Ytkcimaibaicdcaa.P
