/- A part of the proof of the law of DomWays: lemmas and walks, out of this session's texts, with what the claim does not use struck out. -/
import Derived.Test.YtkcimaibaicdcaaD6
import Derived.Test.YtkcimaibaicdcaaD7
import Derived.Test.YtkcimaibaicdcaaD9
import Derived.Test.YtkcimaibaicdcaaD15
import Derived.Test.YtkcimaibaicdcaaD18
import Derived.Test.YtkcimaibaicdcaaD19
namespace Go.Proofs.Ytkcimaibaicdcaa.P
open Go.RowKit Go.Proofs.YtkcimaibaicdcaaW.PrintWords Go.Proofs.YtkcimaibaicdcaaW.PrintLast Go.Proofs.YtkcimaibaicdcaaW.PrintMore
attribute [local go_sem] max2_int min2_int max_two min_two max_three min_three max_four min_four   
set_option linter.unusedVariables false
set_option linter.unusedSimpArgs false
mutual
def plnlaw5_DomWays.j0 : Nat → List Int → Bool → ByteArray → Bool → List Int → Int → List (S54) → Option (Bool)
 | 0, _, _, _, _, _, _, _ => none
 | k + 1, x1, x25, x510000, x510001, x510002, x510003, x510004 => if x25 = true then ((plnlaw5_first.f k).bind fun t512 => (some t512)) else (if 0 ≤ (x510004.length : Int) then (if ((x510004.length : Int) : Int).toNat ≤ 281474976710656 then ((some (List.replicate ((x510004.length : Int) : Int).toNat false : List Bool)).bind fun y513 => (if 0 < (y513.length : Int) then (plnlaw5_DomWays.l0 k x1 (y513.set (0 : Int).toNat true) 0 0 x510000 x510001 x510002 x510003 x510004) else (none))) else (none)) else (none))
def plnlaw5_DomWays.l0 : Nat → List Int → List Bool → Int → Int → ByteArray → Bool → List Int → Int → List (S54) → Option (Bool)
 | 0, _, _, _, _, _, _, _, _, _ => none
 | k + 1, x1, x5, x6, x7, x510000, x510001, x510002, x510003, x510004 => if x7 ≤ (x1.length : Int) then (plnlaw5_DomWays.l1 k x1 x5 x6 x7 0 x510000 x510001 x510002 x510003 x510004) else (some true)
def plnlaw5_DomWays.l1 : Nat → List Int → List Bool → Int → Int → Int → ByteArray → Bool → List Int → Int → List (S54) → Option (Bool)
 | 0, _, _, _, _, _, _, _, _, _, _ => none
 | k + 1, x1, x5, x6, x7, x8, x510000, x510001, x510002, x510003, x510004 => if x8 < (x5.length : Int) then ((dom_Dom.f k x510000 x510001 x510002 x510003 x510004 x8 x6).bind fun t517 => (if t517 = true then (if 0 ≤ x8 then (if rdOf false x5 x8 = true then (plnlaw5_DomWays.l1 k x1 x5 x6 x7 (wrap64 (x8 + 1)) x510000 x510001 x510002 x510003 x510004) else (some false)) else (none)) else (plnlaw5_DomWays.l1 k x1 x5 x6 x7 (wrap64 (x8 + 1)) x510000 x510001 x510002 x510003 x510004))) else ((dom_Dom.f k x510000 x510001 x510002 x510003 x510004 x6 x6).bind fun t519 => (if t519 = true then ((dom_Dom.f k x510000 x510001 x510002 x510003 x510004 0 x6).bind fun t520 => (plnlaw5_DomWays.j3 k x1 x5 x6 x7 (!t520) x510000 x510001 x510002 x510003 x510004)) else (plnlaw5_DomWays.j3 k x1 x5 x6 x7 true x510000 x510001 x510002 x510003 x510004)))
def plnlaw5_DomWays.j3 : Nat → List Int → List Bool → Int → Int → Bool → ByteArray → Bool → List Int → Int → List (S54) → Option (Bool)
 | 0, _, _, _, _, _, _, _, _, _, _ => none
 | k + 1, x1, x5, x6, x7, x66, x510000, x510001, x510002, x510003, x510004 => if x66 = true then (some false) else ((plnref3_Next.f k x510000 x510001 x510002 x510003 x510004 x6).bind fun t521 => (if (t521.length : Int) = 0 then (some true) else (if x7 = (x1.length : Int) then (some true) else (if 0 ≤ x7 then (if x7 < (x1.length : Int) then (if 0 ≤ (Int.tmod (Go.bits .and .i64 (rd x1 x7) 65535) (t521.length : Int)) then (if (Int.tmod (Go.bits .and .i64 (rd x1 x7) 65535) (t521.length : Int)) < (t521.length : Int) then (if 0 ≤ (rd t521 (Int.tmod (Go.bits .and .i64 (rd x1 x7) 65535) (t521.length : Int))) then (if (rd t521 (Int.tmod (Go.bits .and .i64 (rd x1 x7) 65535) (t521.length : Int))) < (x5.length : Int) then (plnlaw5_DomWays.l0 k x1 (x5.set ((rd t521 (Int.tmod (Go.bits .and .i64 (rd x1 x7) 65535) (t521.length : Int))) : Int).toNat true) (rd t521 (Int.tmod (Go.bits .and .i64 (rd x1 x7) 65535) (t521.length : Int))) (wrap64 (x7 + 1)) x510000 x510001 x510002 x510003 x510004) else (none)) else (none)) else (none)) else (none)) else (none)) else (none)))))
end
def plnlaw5_DomWays.f (k : Nat) (a0_0 : ByteArray) (a0_1 : Bool) (l0_2 : List Int) (a0_3 : Int) (l0_4 : List (S54)) (l1 : List Int) : Option (Bool) := (plnlaw5_first.f k).bind fun t510 => (if t510 = true then ((plnkeep_Light.f k a0_0 a0_1 l0_2 a0_3 l0_4).bind fun t511 => (if t511 = true then (if (l0_4.length : Int) = 0 then (plnlaw5_DomWays.j0 k l1 true a0_0 a0_1 l0_2 a0_3 l0_4) else (plnlaw5_DomWays.j0 k l1 (decide ((l1.length : Int) > 40)) a0_0 a0_1 l0_2 a0_3 l0_4)) else (plnlaw5_DomWays.j0 k l1 true a0_0 a0_1 l0_2 a0_3 l0_4))) else (some false))
theorem plnlaw5_DomWays.mono_l : ∀ k, (∀ y0 y1 y2 y3 y4 y5 y6, LeO (plnlaw5_DomWays.j0 k y0 y1 y2 y3 y4 y5 y6) (plnlaw5_DomWays.j0 (k + 1) y0 y1 y2 y3 y4 y5 y6)) ∧ (∀ y0 y1 y2 y3 y4 y5 y6 y7 y8, LeO (plnlaw5_DomWays.l0 k y0 y1 y2 y3 y4 y5 y6 y7 y8) (plnlaw5_DomWays.l0 (k + 1) y0 y1 y2 y3 y4 y5 y6 y7 y8)) ∧ (∀ y0 y1 y2 y3 y4 y5 y6 y7 y8 y9, LeO (plnlaw5_DomWays.l1 k y0 y1 y2 y3 y4 y5 y6 y7 y8 y9) (plnlaw5_DomWays.l1 (k + 1) y0 y1 y2 y3 y4 y5 y6 y7 y8 y9)) ∧ (∀ y0 y1 y2 y3 y4 y5 y6 y7 y8 y9, LeO (plnlaw5_DomWays.j3 k y0 y1 y2 y3 y4 y5 y6 y7 y8 y9) (plnlaw5_DomWays.j3 (k + 1) y0 y1 y2 y3 y4 y5 y6 y7 y8 y9))
 | 0 => ⟨fun _ _ _ _ _ _ _ r h => by simp [plnlaw5_DomWays.j0] at h, fun _ _ _ _ _ _ _ _ _ r h => by simp [plnlaw5_DomWays.l0] at h, fun _ _ _ _ _ _ _ _ _ _ r h => by simp [plnlaw5_DomWays.l1] at h, fun _ _ _ _ _ _ _ _ _ _ r h => by simp [plnlaw5_DomWays.j3] at h⟩
 | k + 1 => by
  obtain ⟨ih0, ih1, ih2, ih3⟩ := plnlaw5_DomWays.mono_l k
  refine ⟨?_, ?_, ?_, ?_⟩
  ·intro y0 y1 y2 y3 y4 y5 y6
   unfold plnlaw5_DomWays.j0
   repeat' first
   | (with_reducible exact ih0 _ _ _ _ _ _ _)
   | (with_reducible exact ih1 _ _ _ _ _ _ _ _ _)
   | (with_reducible exact ih2 _ _ _ _ _ _ _ _ _ _)
   | (with_reducible exact ih3 _ _ _ _ _ _ _ _ _ _)
   | (with_reducible exact dom_Dom.mono _ _ _ _ _ _ _ _)
   | (with_reducible exact plnkeep_Light.mono _ _ _ _ _ _)
   | (with_reducible exact plnlaw5_first.mono _)
   | (with_reducible exact plnref3_Next.mono _ _ _ _ _ _ _)
   | (with_reducible exact LeO.refl _)
   | (with_reducible exact LeO.none _)
   | (with_reducible refine LeO.ite ?_ ?_)
   | (with_reducible refine LeO.bind ?_ (fun _ => ?_))
   | exact ih0 _ _ _ _ _ _ _
   | exact ih1 _ _ _ _ _ _ _ _ _
   | exact ih2 _ _ _ _ _ _ _ _ _ _
   | exact ih3 _ _ _ _ _ _ _ _ _ _
   | exact dom_Dom.mono _ _ _ _ _ _ _ _
   | exact plnkeep_Light.mono _ _ _ _ _ _
   | exact plnlaw5_first.mono _
   | exact plnref3_Next.mono _ _ _ _ _ _ _
   | exact LeO.none _
   | refine LeO.ite ?_ ?_
   | refine LeO.bind ?_ (fun _ => ?_)
  ·intro y0 y1 y2 y3 y4 y5 y6 y7 y8
   unfold plnlaw5_DomWays.l0
   repeat' first
   | (with_reducible exact ih0 _ _ _ _ _ _ _)
   | (with_reducible exact ih1 _ _ _ _ _ _ _ _ _)
   | (with_reducible exact ih2 _ _ _ _ _ _ _ _ _ _)
   | (with_reducible exact ih3 _ _ _ _ _ _ _ _ _ _)
   | (with_reducible exact dom_Dom.mono _ _ _ _ _ _ _ _)
   | (with_reducible exact plnkeep_Light.mono _ _ _ _ _ _)
   | (with_reducible exact plnlaw5_first.mono _)
   | (with_reducible exact plnref3_Next.mono _ _ _ _ _ _ _)
   | (with_reducible exact LeO.refl _)
   | (with_reducible exact LeO.none _)
   | (with_reducible refine LeO.ite ?_ ?_)
   | (with_reducible refine LeO.bind ?_ (fun _ => ?_))
   | exact ih0 _ _ _ _ _ _ _
   | exact ih1 _ _ _ _ _ _ _ _ _
   | exact ih2 _ _ _ _ _ _ _ _ _ _
   | exact ih3 _ _ _ _ _ _ _ _ _ _
   | exact dom_Dom.mono _ _ _ _ _ _ _ _
   | exact plnkeep_Light.mono _ _ _ _ _ _
   | exact plnlaw5_first.mono _
   | exact plnref3_Next.mono _ _ _ _ _ _ _
   | exact LeO.none _
   | refine LeO.ite ?_ ?_
   | refine LeO.bind ?_ (fun _ => ?_)
  ·intro y0 y1 y2 y3 y4 y5 y6 y7 y8 y9
   unfold plnlaw5_DomWays.l1
   repeat' first
   | (with_reducible exact ih0 _ _ _ _ _ _ _)
   | (with_reducible exact ih1 _ _ _ _ _ _ _ _ _)
   | (with_reducible exact ih2 _ _ _ _ _ _ _ _ _ _)
   | (with_reducible exact ih3 _ _ _ _ _ _ _ _ _ _)
   | (with_reducible exact dom_Dom.mono _ _ _ _ _ _ _ _)
   | (with_reducible exact plnkeep_Light.mono _ _ _ _ _ _)
   | (with_reducible exact plnlaw5_first.mono _)
   | (with_reducible exact plnref3_Next.mono _ _ _ _ _ _ _)
   | (with_reducible exact LeO.refl _)
   | (with_reducible exact LeO.none _)
   | (with_reducible refine LeO.ite ?_ ?_)
   | (with_reducible refine LeO.bind ?_ (fun _ => ?_))
   | exact ih0 _ _ _ _ _ _ _
   | exact ih1 _ _ _ _ _ _ _ _ _
   | exact ih2 _ _ _ _ _ _ _ _ _ _
   | exact ih3 _ _ _ _ _ _ _ _ _ _
   | exact dom_Dom.mono _ _ _ _ _ _ _ _
   | exact plnkeep_Light.mono _ _ _ _ _ _
   | exact plnlaw5_first.mono _
   | exact plnref3_Next.mono _ _ _ _ _ _ _
   | exact LeO.none _
   | refine LeO.ite ?_ ?_
   | refine LeO.bind ?_ (fun _ => ?_)
  ·intro y0 y1 y2 y3 y4 y5 y6 y7 y8 y9
   unfold plnlaw5_DomWays.j3
   repeat' first
   | (with_reducible exact ih0 _ _ _ _ _ _ _)
   | (with_reducible exact ih1 _ _ _ _ _ _ _ _ _)
   | (with_reducible exact ih2 _ _ _ _ _ _ _ _ _ _)
   | (with_reducible exact ih3 _ _ _ _ _ _ _ _ _ _)
   | (with_reducible exact dom_Dom.mono _ _ _ _ _ _ _ _)
   | (with_reducible exact plnkeep_Light.mono _ _ _ _ _ _)
   | (with_reducible exact plnlaw5_first.mono _)
   | (with_reducible exact plnref3_Next.mono _ _ _ _ _ _ _)
   | (with_reducible exact LeO.refl _)
   | (with_reducible exact LeO.none _)
   | (with_reducible refine LeO.ite ?_ ?_)
   | (with_reducible refine LeO.bind ?_ (fun _ => ?_))
   | exact ih0 _ _ _ _ _ _ _
   | exact ih1 _ _ _ _ _ _ _ _ _
   | exact ih2 _ _ _ _ _ _ _ _ _ _
   | exact ih3 _ _ _ _ _ _ _ _ _ _
   | exact dom_Dom.mono _ _ _ _ _ _ _ _
   | exact plnkeep_Light.mono _ _ _ _ _ _
   | exact plnlaw5_first.mono _
   | exact plnref3_Next.mono _ _ _ _ _ _ _
   | exact LeO.none _
   | refine LeO.ite ?_ ?_
   | refine LeO.bind ?_ (fun _ => ?_)
theorem plnlaw5_DomWays.mono : ∀ a0 a1 a2 a3 a4 a5 k, LeO (plnlaw5_DomWays.f k a0 a1 a2 a3 a4 a5) (plnlaw5_DomWays.f (k + 1) a0 a1 a2 a3 a4 a5) := by
 intro a0 a1 a2 a3 a4 a5 k
 obtain ⟨ih0, ih1, ih2, ih3⟩ := plnlaw5_DomWays.mono_l k
 unfold plnlaw5_DomWays.f
 repeat' first
   | (with_reducible exact ih0 _ _ _ _ _ _ _)
   | (with_reducible exact ih1 _ _ _ _ _ _ _ _ _)
   | (with_reducible exact ih2 _ _ _ _ _ _ _ _ _ _)
   | (with_reducible exact ih3 _ _ _ _ _ _ _ _ _ _)
   | (with_reducible exact dom_Dom.mono _ _ _ _ _ _ _ _)
   | (with_reducible exact plnkeep_Light.mono _ _ _ _ _ _)
   | (with_reducible exact plnlaw5_first.mono _)
   | (with_reducible exact plnref3_Next.mono _ _ _ _ _ _ _)
   | (with_reducible exact LeO.refl _)
   | (with_reducible exact LeO.none _)
   | (with_reducible refine LeO.ite ?_ ?_)
   | (with_reducible refine LeO.bind ?_ (fun _ => ?_))
   | exact ih0 _ _ _ _ _ _ _
   | exact ih1 _ _ _ _ _ _ _ _ _
   | exact ih2 _ _ _ _ _ _ _ _ _ _
   | exact ih3 _ _ _ _ _ _ _ _ _ _
   | exact dom_Dom.mono _ _ _ _ _ _ _ _
   | exact plnkeep_Light.mono _ _ _ _ _ _
   | exact plnlaw5_first.mono _
   | exact plnref3_Next.mono _ _ _ _ _ _ _
   | exact LeO.none _
   | refine LeO.ite ?_ ?_
   | refine LeO.bind ?_ (fun _ => ?_)
set_option maxHeartbeats 8000000 in
set_option maxRecDepth 100000 in
theorem plnlaw5_DomWays.calls (k : Nat) (a0_0 : ByteArray) (a0_1 : Bool) (A0_2 : Option Addr) (c0_2 : Nat) (l0_2 : List Int) (a0_3 : Int) (A0_4 : Option Addr) (c0_4 : Nat) (l0_4 : List (S54)) (A1 : Option Addr) (c1 : Nat) (l1 : List Int) (r : Bool) (w : World) (hr0_2 : Kd.C (Kd.int .i64) w A0_2 l0_2.length l0_2) (hc0_2 : l0_2.length ≤ c0_2) (hr0_4 : Kd.C k54 w A0_4 l0_4.length l0_4) (hc0_4 : l0_4.length ≤ c0_4) (hr1 : Kd.C (Kd.int .i64) w A1 l1.length l1) (hc1 : l1.length ≤ c1) (h : plnlaw5_DomWays.f k a0_0 a0_1 l0_2 a0_3 l0_4 l1 = some r) :
  Calls Try.prog 6 #[.agg #[.string a0_0, .bool a0_1, .slice A0_2 l0_2.length c0_2, .int .i64 a0_3, .slice A0_4 l0_4.length c0_4], .slice A1 l1.length c1] w fun e w' => e = .returned (.bool r) ∧ Below w.heap.size w w' := by
 have hu25 := Try.underlying25
 have HR0_2 := Aside0.mk hr0_2
 have HC0_2 := Aside0.mk hc0_2
 clear hr0_2 hc0_2
 have HR0_4 := Aside0.mk hr0_4
 have HC0_4 := Aside0.mk hc0_4
 clear hr0_4 hc0_4
 have HR1 := Aside0.mk hr1
 have HC1 := Aside0.mk hc1
 clear hr1 hc1; have HB := Aside0.mk (Below.refl w.heap.size w)
 have H : ((plnlaw5_first.f k).bind fun t510 => (if t510 = true then ((plnkeep_Light.f k a0_0 a0_1 l0_2 a0_3 l0_4).bind fun t511 => (if t511 = true then (if (l0_4.length : Int) = 0 then (plnlaw5_DomWays.j0 k l1 true a0_0 a0_1 l0_2 a0_3 l0_4) else (plnlaw5_DomWays.j0 k l1 (decide ((l1.length : Int) > 40)) a0_0 a0_1 l0_2 a0_3 l0_4)) else (plnlaw5_DomWays.j0 k l1 true a0_0 a0_1 l0_2 a0_3 l0_4))) else (some false))) = some r := h
 clear h
 replace H := Option.bind_eq_some_iff.mp H
 obtain ⟨t510, A30, H⟩ := H
 replace H : (if t510 = true then ((plnkeep_Light.f k a0_0 a0_1 l0_2 a0_3 l0_4).bind fun t511 => (if t511 = true then (if (l0_4.length : Int) = 0 then (plnlaw5_DomWays.j0 k l1 true a0_0 a0_1 l0_2 a0_3 l0_4) else (plnlaw5_DomWays.j0 k l1 (decide ((l1.length : Int) > 40)) a0_0 a0_1 l0_2 a0_3 l0_4)) else (plnlaw5_DomWays.j0 k l1 true a0_0 a0_1 l0_2 a0_3 l0_4))) else (some false)) = some r := H
 have A3 := Aside0.mk A30
 clear A30
 by_cases c4 : t510 = true
 ·subst c4
  have H1 : ((plnkeep_Light.f k a0_0 a0_1 l0_2 a0_3 l0_4).bind fun t511 => (if t511 = true then (if (l0_4.length : Int) = 0 then (plnlaw5_DomWays.j0 k l1 true a0_0 a0_1 l0_2 a0_3 l0_4) else (plnlaw5_DomWays.j0 k l1 (decide ((l1.length : Int) > 40)) a0_0 a0_1 l0_2 a0_3 l0_4)) else (plnlaw5_DomWays.j0 k l1 true a0_0 a0_1 l0_2 a0_3 l0_4))) = some r := by rw [if_pos rfl] at H; exact H
  clear H; have H := H1; clear H1
  have HC5 := Aside0.mk H
  clear H
  go_enter Try.func6, Try.ntmps6
  go_upto_region 3 with (first | ((with_reducible refine gate_dst (N := 2) rfl ?_); (try (refine gate_guard (by rfl) ?_; dsimp only)); refine box_event ?hg (N := 2) ?hd (cs := #[.string a0_0, .bool a0_1, .slice A0_2 l0_2.length c0_2, .int .i64 a0_3, .slice A0_4 l0_4.length c0_4]) (t := 25) ?hr ?_; (case hd => rfl); (case hg => rfl); (case hr => first | (go_simp; done) | (go_simp; rfl)); intro gb509 hg w6 hbox hb; have n0_ := Aside0.mk (below_step (by repeat (first | (with_reducible first | exact HB.out | apply below_alloc | apply pw_below_drewN | apply below_drew1) | exact HB.out)) hb); have n1_ := Aside0.mk (hbox); have n2_ := Aside0.mk ((by rw [hg]; exact (below_size (by repeat (first | (with_reducible first | exact HB.out | apply below_alloc | apply pw_below_drewN | apply below_drew1) | exact HB.out))) : w.heap.size ≤ gb509)); have n3_ := Aside0.mk ((by rw [hg]; exact (below_size (by repeat (first | (with_reducible first | exact HB.out | apply below_alloc | apply pw_below_drewN | apply below_drew1) | exact HB.out))) : w.heap.size ≤ gb509)); clear HB; have HB := n0_; have BK509 := n1_; have GW509 := n2_; have GE509 := n3_; clear n0_ n1_ n2_ n3_; clear hb hbox hg) | ((with_reducible refine gate_callee (f := 32) rfl ?_); refine goesL_ (some 10) rfl rfl Try.func32 (by kernel_rfl) rfl #[] rfl (by (try simp only [List.map_toArray, List.map_cons, List.map_nil]); first | done | rfl | (simp only [List.length_drop, List.length_take]; rfl)) ?_; (with_reducible refine (plnlaw5_first.calls k  true _ A3.out).mono ?_); rintro e w7 ⟨rfl, hb⟩; refine ⟨_, rfl, ?_⟩; have n0_ := Aside0.mk (blk_below (g := gb509) (o := .cells #[.string a0_0, .bool a0_1, .slice A0_2 l0_2.length c0_2, .int .i64 a0_3, .slice A0_4 l0_4.length c0_4] 25 (0, 0)) (by (with_reducible repeat (first | refine blk_drewN ?_ _ | refine blk_drew ?_ | refine blk_alloc ?_ _)); exact BK509.out) hb); have n1_ := Aside0.mk (below_step (by repeat (first | (with_reducible first | exact HB.out | apply below_alloc | apply pw_below_drewN | apply below_drew1 | refine below_set ?_ GE509.out) | exact HB.out)) hb); clear BK509; clear HB; have BK509 := n0_; have HB := n1_; clear n0_ n1_; (try clear hb); (try clear hb2); (try clear hk); (try clear hi)))
  (try simp only [Act.put, List.setIfInBounds_toArray, List.set_cons_zero, List.set_cons_succ])
  go_cut [25] (fun v25 wc => ∃ (kq : Nat) (x25_4 : Bool), v25 = .bool x25_4 ∧ Aside0 (plnlaw5_DomWays.j0 kq l1 x25_4 a0_0 a0_1 l0_2 a0_3 l0_4 = some r) ∧ Aside0 (kq ≤ k) ∧ Aside0 (wc.heap[gb509]? = some (.cells #[.string a0_0, .bool a0_1, (.slice A0_2 l0_2.length c0_2), .int .i64 a0_3, (.slice A0_4 l0_4.length c0_4)] 25 (0, 0))) ∧ Aside0 (Below w.heap.size w wc))
  case first =>
   have H := HC5.out
   clear HC5
   replace H := Option.bind_eq_some_iff.mp H
   obtain ⟨t511, A80, H⟩ := H
   replace H : (if t511 = true then (if (l0_4.length : Int) = 0 then (plnlaw5_DomWays.j0 k l1 true a0_0 a0_1 l0_2 a0_3 l0_4) else (plnlaw5_DomWays.j0 k l1 (decide ((l1.length : Int) > 40)) a0_0 a0_1 l0_2 a0_3 l0_4)) else (plnlaw5_DomWays.j0 k l1 true a0_0 a0_1 l0_2 a0_3 l0_4)) = some r := H
   have A8 := Aside0.mk A80
   clear A80
   by_cases c9 : t511 = true
   ·subst c9
    have H1 : (if (l0_4.length : Int) = 0 then (plnlaw5_DomWays.j0 k l1 true a0_0 a0_1 l0_2 a0_3 l0_4) else (plnlaw5_DomWays.j0 k l1 (decide ((l1.length : Int) > 40)) a0_0 a0_1 l0_2 a0_3 l0_4)) = some r := by rw [if_pos rfl] at H; exact H
    clear H; have H := H1; clear H1
    by_cases c10 : (l0_4.length : Int) = 0
    ·rw [if_pos c10] at H
     have c10b0 : ((l0_4.length : Int) == 0) = true := beq_iff_eq.mpr c10
     have c10b1 : ((l0_4.length : Int) != 0) = false := bne_eq_false_iff_eq.mpr c10
     clear c10
     (first | rw [c10b0] | (simp only [i64_w, i32_w]; rw [c10b0]) | skip)
     have H' := Aside0.mk H
     clear H
     have hcz11_0 : w7.cell? ⟨gb509, 0, none⟩ = some (.string a0_0) := (blk_cell BK509.out 0).trans rfl
     have hcz11_1 : w7.cell? ⟨gb509, 1, none⟩ = some (.bool a0_1) := (blk_cell BK509.out 1).trans rfl
     have hcz11_2 : w7.cell? ⟨gb509, 2, none⟩ = some (.slice A0_2 l0_2.length c0_2) := (blk_cell BK509.out 2).trans rfl
     have hcz11_3 : w7.cell? ⟨gb509, 3, none⟩ = some (.int .i64 a0_3) := (blk_cell BK509.out 3).trans rfl
     have hcz11_4 : w7.cell? ⟨gb509, 4, none⟩ = some (.slice A0_4 l0_4.length c0_4) := (blk_cell BK509.out 4).trans rfl
     have hfz11_0 := blk_frozen BK509.out 0
     have hfz11_1 := blk_frozen BK509.out 1
     have hfz11_2 := blk_frozen BK509.out 2
     have hfz11_3 := blk_frozen BK509.out 3
     have hfz11_4 := blk_frozen BK509.out 4
     go_wp2_with (first | ((with_reducible refine gate_callee (f := 17) rfl ?_); refine goesL_ (some 13) rfl rfl Try.func17 (by kernel_rfl) rfl #[.agg #[.string a0_0, .bool a0_1, .slice A0_2 l0_2.length c0_2, .int .i64 a0_3, .slice A0_4 l0_4.length c0_4]] rfl (by (try simp only [List.map_toArray, List.map_cons, List.map_nil]); first | done | rfl | (simp only [List.length_drop, List.length_take]; rfl)) ?_; (with_reducible refine (plnkeep_Light.calls k a0_0 a0_1 _ _ l0_2 a0_3 _ _ l0_4 true _ ?side1 ?side2 ?side3 ?side4 A8.out).mono ?_); (case side1 => repeat (first | exact (Kd.C_below HR0_2.out HB.out) | (with_reducible refine Kd.C_alloc ?_ _) | (with_reducible refine Kd.C_drewN ?_ _) | (with_reducible refine Kd.C_drew ?_))); (case side2 => exact HC0_2.out); (case side3 => repeat (first | exact (Kd.C_below HR0_4.out HB.out) | (with_reducible refine Kd.C_alloc ?_ _) | (with_reducible refine Kd.C_drewN ?_ _) | (with_reducible refine Kd.C_drew ?_))); (case side4 => exact HC0_4.out); rintro e w12 ⟨rfl, hb⟩; refine ⟨_, rfl, ?_⟩; have n0_ := Aside0.mk (blk_below (g := gb509) (o := .cells #[.string a0_0, .bool a0_1, .slice A0_2 l0_2.length c0_2, .int .i64 a0_3, .slice A0_4 l0_4.length c0_4] 25 (0, 0)) (by (with_reducible repeat (first | refine blk_drewN ?_ _ | refine blk_drew ?_ | refine blk_alloc ?_ _)); exact BK509.out) hb); have n1_ := Aside0.mk (below_step (by repeat (first | (with_reducible first | exact HB.out | apply below_alloc | apply pw_below_drewN | apply below_drew1 | refine below_set ?_ GE509.out) | exact HB.out)) hb); clear BK509; clear HB; have BK509 := n0_; have HB := n1_; clear n0_ n1_; (try clear hb); (try clear hb2); (try clear hk); (try clear hi); have hcz13_0 : w12.cell? ⟨gb509, 0, none⟩ = some (.string a0_0) := (blk_cell BK509.out 0).trans rfl; have hcz13_1 : w12.cell? ⟨gb509, 1, none⟩ = some (.bool a0_1) := (blk_cell BK509.out 1).trans rfl; have hcz13_2 : w12.cell? ⟨gb509, 2, none⟩ = some (.slice A0_2 l0_2.length c0_2) := (blk_cell BK509.out 2).trans rfl; have hcz13_3 : w12.cell? ⟨gb509, 3, none⟩ = some (.int .i64 a0_3) := (blk_cell BK509.out 3).trans rfl; have hcz13_4 : w12.cell? ⟨gb509, 4, none⟩ = some (.slice A0_4 l0_4.length c0_4) := (blk_cell BK509.out 4).trans rfl; have hfz13_0 := blk_frozen BK509.out 0; have hfz13_1 := blk_frozen BK509.out 1; have hfz13_2 := blk_frozen BK509.out 2; have hfz13_3 := blk_frozen BK509.out 3; have hfz13_4 := blk_frozen BK509.out 4))
     go_meet
     case rel => exact ⟨_, (true), (by first | rfl | (simp; done) | (simp [*]; done)), H', ⟨by first | omega | exact Nat.le_refl _⟩, ⟨by (with_reducible repeat (first | refine blk_drewN ?_ _ | refine blk_drew ?_ | refine blk_alloc ?_ _)); exact BK509.out⟩, ⟨by repeat (first | (with_reducible first | exact HB.out | apply below_alloc | apply pw_below_drewN | apply below_drew1 | refine below_set ?_ GE509.out) | exact HB.out)⟩⟩
    ·rw [if_neg c10] at H
     have c10b0 : ((l0_4.length : Int) == 0) = false := beq_eq_false_iff_ne.mpr c10
     have c10b1 : ((l0_4.length : Int) != 0) = true := bne_iff_ne.mpr c10
     have c10b2 : ¬ (l0_4 = []) := fun h_ => c10 (by rw [h_]; rfl)
     (first | rw [c10b0] | (simp only [i64_w, i32_w]; rw [c10b0]) | skip)
     have H' := Aside0.mk H
     clear H
     have hcz14_0 : w7.cell? ⟨gb509, 0, none⟩ = some (.string a0_0) := (blk_cell BK509.out 0).trans rfl
     have hcz14_1 : w7.cell? ⟨gb509, 1, none⟩ = some (.bool a0_1) := (blk_cell BK509.out 1).trans rfl
     have hcz14_2 : w7.cell? ⟨gb509, 2, none⟩ = some (.slice A0_2 l0_2.length c0_2) := (blk_cell BK509.out 2).trans rfl
     have hcz14_3 : w7.cell? ⟨gb509, 3, none⟩ = some (.int .i64 a0_3) := (blk_cell BK509.out 3).trans rfl
     have hcz14_4 : w7.cell? ⟨gb509, 4, none⟩ = some (.slice A0_4 l0_4.length c0_4) := (blk_cell BK509.out 4).trans rfl
     have hfz14_0 := blk_frozen BK509.out 0
     have hfz14_1 := blk_frozen BK509.out 1
     have hfz14_2 := blk_frozen BK509.out 2
     have hfz14_3 := blk_frozen BK509.out 3
     have hfz14_4 := blk_frozen BK509.out 4
     go_wp2_with (first | ((with_reducible refine gate_callee (f := 17) rfl ?_); refine goesL_ (some 13) rfl rfl Try.func17 (by kernel_rfl) rfl #[.agg #[.string a0_0, .bool a0_1, .slice A0_2 l0_2.length c0_2, .int .i64 a0_3, .slice A0_4 l0_4.length c0_4]] rfl (by (try simp only [List.map_toArray, List.map_cons, List.map_nil]); first | done | rfl | (simp only [List.length_drop, List.length_take]; rfl)) ?_; (with_reducible refine (plnkeep_Light.calls k a0_0 a0_1 _ _ l0_2 a0_3 _ _ l0_4 true _ ?side1 ?side2 ?side3 ?side4 A8.out).mono ?_); (case side1 => repeat (first | exact (Kd.C_below HR0_2.out HB.out) | (with_reducible refine Kd.C_alloc ?_ _) | (with_reducible refine Kd.C_drewN ?_ _) | (with_reducible refine Kd.C_drew ?_))); (case side2 => exact HC0_2.out); (case side3 => repeat (first | exact (Kd.C_below HR0_4.out HB.out) | (with_reducible refine Kd.C_alloc ?_ _) | (with_reducible refine Kd.C_drewN ?_ _) | (with_reducible refine Kd.C_drew ?_))); (case side4 => exact HC0_4.out); rintro e w15 ⟨rfl, hb⟩; refine ⟨_, rfl, ?_⟩; have n0_ := Aside0.mk (blk_below (g := gb509) (o := .cells #[.string a0_0, .bool a0_1, .slice A0_2 l0_2.length c0_2, .int .i64 a0_3, .slice A0_4 l0_4.length c0_4] 25 (0, 0)) (by (with_reducible repeat (first | refine blk_drewN ?_ _ | refine blk_drew ?_ | refine blk_alloc ?_ _)); exact BK509.out) hb); have n1_ := Aside0.mk (below_step (by repeat (first | (with_reducible first | exact HB.out | apply below_alloc | apply pw_below_drewN | apply below_drew1 | refine below_set ?_ GE509.out) | exact HB.out)) hb); clear BK509; clear HB; have BK509 := n0_; have HB := n1_; clear n0_ n1_; (try clear hb); (try clear hb2); (try clear hk); (try clear hi); have hcz16_0 : w15.cell? ⟨gb509, 0, none⟩ = some (.string a0_0) := (blk_cell BK509.out 0).trans rfl; have hcz16_1 : w15.cell? ⟨gb509, 1, none⟩ = some (.bool a0_1) := (blk_cell BK509.out 1).trans rfl; have hcz16_2 : w15.cell? ⟨gb509, 2, none⟩ = some (.slice A0_2 l0_2.length c0_2) := (blk_cell BK509.out 2).trans rfl; have hcz16_3 : w15.cell? ⟨gb509, 3, none⟩ = some (.int .i64 a0_3) := (blk_cell BK509.out 3).trans rfl; have hcz16_4 : w15.cell? ⟨gb509, 4, none⟩ = some (.slice A0_4 l0_4.length c0_4) := (blk_cell BK509.out 4).trans rfl; have hfz16_0 := blk_frozen BK509.out 0; have hfz16_1 := blk_frozen BK509.out 1; have hfz16_2 := blk_frozen BK509.out 2; have hfz16_3 := blk_frozen BK509.out 3; have hfz16_4 := blk_frozen BK509.out 4))
     go_meet
     case rel => exact ⟨_, (decide ((l1.length : Int) > 40)), (by first | rfl | (simp; done) | (simp [*]; done)), H', ⟨by first | omega | exact Nat.le_refl _⟩, ⟨by (with_reducible repeat (first | refine blk_drewN ?_ _ | refine blk_drew ?_ | refine blk_alloc ?_ _)); exact BK509.out⟩, ⟨by repeat (first | (with_reducible first | exact HB.out | apply below_alloc | apply pw_below_drewN | apply below_drew1 | refine below_set ?_ GE509.out) | exact HB.out)⟩⟩
   ·replace c9 := Bool.eq_false_iff.mpr c9
    subst c9
    have H1 : (plnlaw5_DomWays.j0 k l1 true a0_0 a0_1 l0_2 a0_3 l0_4) = some r := by rw [if_neg (show ¬ (false = true) by decide)] at H; exact H
    clear H; have H := H1; clear H1
    have H' := Aside0.mk H
    clear H
    have hcz17_0 : w7.cell? ⟨gb509, 0, none⟩ = some (.string a0_0) := (blk_cell BK509.out 0).trans rfl
    have hcz17_1 : w7.cell? ⟨gb509, 1, none⟩ = some (.bool a0_1) := (blk_cell BK509.out 1).trans rfl
    have hcz17_2 : w7.cell? ⟨gb509, 2, none⟩ = some (.slice A0_2 l0_2.length c0_2) := (blk_cell BK509.out 2).trans rfl
    have hcz17_3 : w7.cell? ⟨gb509, 3, none⟩ = some (.int .i64 a0_3) := (blk_cell BK509.out 3).trans rfl
    have hcz17_4 : w7.cell? ⟨gb509, 4, none⟩ = some (.slice A0_4 l0_4.length c0_4) := (blk_cell BK509.out 4).trans rfl
    have hfz17_0 := blk_frozen BK509.out 0
    have hfz17_1 := blk_frozen BK509.out 1
    have hfz17_2 := blk_frozen BK509.out 2
    have hfz17_3 := blk_frozen BK509.out 3
    have hfz17_4 := blk_frozen BK509.out 4
    go_wp2_with (first | ((with_reducible refine gate_callee (f := 17) rfl ?_); refine goesL_ (some 13) rfl rfl Try.func17 (by kernel_rfl) rfl #[.agg #[.string a0_0, .bool a0_1, .slice A0_2 l0_2.length c0_2, .int .i64 a0_3, .slice A0_4 l0_4.length c0_4]] rfl (by (try simp only [List.map_toArray, List.map_cons, List.map_nil]); first | done | rfl | (simp only [List.length_drop, List.length_take]; rfl)) ?_; (with_reducible refine (plnkeep_Light.calls k a0_0 a0_1 _ _ l0_2 a0_3 _ _ l0_4 false _ ?side1 ?side2 ?side3 ?side4 A8.out).mono ?_); (case side1 => repeat (first | exact (Kd.C_below HR0_2.out HB.out) | (with_reducible refine Kd.C_alloc ?_ _) | (with_reducible refine Kd.C_drewN ?_ _) | (with_reducible refine Kd.C_drew ?_))); (case side2 => exact HC0_2.out); (case side3 => repeat (first | exact (Kd.C_below HR0_4.out HB.out) | (with_reducible refine Kd.C_alloc ?_ _) | (with_reducible refine Kd.C_drewN ?_ _) | (with_reducible refine Kd.C_drew ?_))); (case side4 => exact HC0_4.out); rintro e w18 ⟨rfl, hb⟩; refine ⟨_, rfl, ?_⟩; have n0_ := Aside0.mk (blk_below (g := gb509) (o := .cells #[.string a0_0, .bool a0_1, .slice A0_2 l0_2.length c0_2, .int .i64 a0_3, .slice A0_4 l0_4.length c0_4] 25 (0, 0)) (by (with_reducible repeat (first | refine blk_drewN ?_ _ | refine blk_drew ?_ | refine blk_alloc ?_ _)); exact BK509.out) hb); have n1_ := Aside0.mk (below_step (by repeat (first | (with_reducible first | exact HB.out | apply below_alloc | apply pw_below_drewN | apply below_drew1 | refine below_set ?_ GE509.out) | exact HB.out)) hb); clear BK509; clear HB; have BK509 := n0_; have HB := n1_; clear n0_ n1_; (try clear hb); (try clear hb2); (try clear hk); (try clear hi)))
    go_meet
    case rel => exact ⟨_, (true), (by first | rfl | (simp; done) | (simp [*]; done)), H', ⟨by first | omega | exact Nat.le_refl _⟩, ⟨by (with_reducible repeat (first | refine blk_drewN ?_ _ | refine blk_drew ?_ | refine blk_alloc ?_ _)); exact BK509.out⟩, ⟨by repeat (first | (with_reducible first | exact HB.out | apply below_alloc | apply pw_below_drewN | apply below_drew1 | refine below_set ?_ GE509.out) | exact HB.out)⟩⟩
  case rest =>
   clear HC5
   try clear c1
   try clear p2
   try clear c3
   try clear c4
   try clear c6
   try clear c9
   try clear c10
   try clear c10b0
   try clear c10b1
   try clear c10b2
   try clear c17
   try clear hcz11_0
   try clear hcz11_1
   try clear hcz11_2
   try clear hcz11_3
   try clear hcz11_4
   try clear hcz13_0
   try clear hcz13_1
   try clear hcz13_2
   try clear hcz13_3
   try clear hcz13_4
   try clear hcz14_0
   try clear hcz14_1
   try clear hcz14_2
   try clear hcz14_3
   try clear hcz14_4
   try clear hcz16_0
   try clear hcz16_1
   try clear hcz16_2
   try clear hcz16_3
   try clear hcz16_4
   try clear hcz17_0
   try clear hcz17_1
   try clear hcz17_2
   try clear hcz17_3
   try clear hcz17_4
   try clear hfz11_0
   try clear hfz11_1
   try clear hfz11_2
   try clear hfz11_3
   try clear hfz11_4
   try clear hfz13_0
   try clear hfz13_1
   try clear hfz13_2
   try clear hfz13_3
   try clear hfz13_4
   try clear hfz14_0
   try clear hfz14_1
   try clear hfz14_2
   try clear hfz14_3
   try clear hfz14_4
   try clear hfz16_0
   try clear hfz16_1
   try clear hfz16_2
   try clear hfz16_3
   try clear hfz16_4
   try clear hfz17_0
   try clear hfz17_1
   try clear hfz17_2
   try clear hfz17_3
   try clear hfz17_4
   obtain ⟨kq, x25_4, rfl, HA, HJ4, BK509, HB⟩ := hcut
   cases kq with
   | zero => exact absurd HA.out (by simp [plnlaw5_DomWays.j0])
   | succ kj4 =>
    have H := HA.out
    clear HA
    simp only [plnlaw5_DomWays.j0] at H
    by_cases c19 : x25_4 = true
    ·subst c19
     have H1 : ((plnlaw5_first.f kj4).bind fun t512 => (some t512)) = some r := by rw [if_pos rfl] at H; exact H
     clear H; have H := H1; clear H1
     replace H := Option.bind_eq_some_iff.mp H
     obtain ⟨t512, A200, H⟩ := H
     replace H : (some t512) = some r := H
     have A20 := Aside0.mk A200
     clear A200
     obtain rfl := Option.some.inj H
     go_wp2_with (first | ((with_reducible refine gate_callee (f := 32) rfl ?_); refine goesL_ (some 26) rfl rfl Try.func32 (by kernel_rfl) rfl #[] rfl (by (try simp only [List.map_toArray, List.map_cons, List.map_nil]); first | done | rfl | (simp only [List.length_drop, List.length_take]; rfl)) ?_; (with_reducible refine (plnlaw5_first.calls kj4  t512 _ A20.out).mono ?_); rintro e w21 ⟨rfl, hb⟩; refine ⟨_, rfl, ?_⟩; have n0_ := Aside0.mk (blk_below (g := gb509) (o := .cells #[.string a0_0, .bool a0_1, .slice A0_2 l0_2.length c0_2, .int .i64 a0_3, .slice A0_4 l0_4.length c0_4] 25 (0, 0)) (by (with_reducible repeat (first | refine blk_drewN ?_ _ | refine blk_drew ?_ | refine blk_alloc ?_ _)); exact BK509.out) hb); have n1_ := Aside0.mk (below_step (by repeat (first | (with_reducible first | exact HB.out | apply below_alloc | apply pw_below_drewN | apply below_drew1 | refine below_set ?_ GE509.out) | exact HB.out)) hb); clear BK509; clear HB; have BK509 := n0_; have HB := n1_; clear n0_ n1_; (try clear hb); (try clear hb2); (try clear hk); (try clear hi)))
     go_ret
     exact ⟨by first | rfl | (simp [errW_none, errW_some] <;> rfl) | (simp [*, errW_none, errW_some] <;> rfl), by repeat (first | (with_reducible first | exact HB.out | apply below_alloc | apply pw_below_drewN | apply below_drew1 | refine below_set ?_ GE509.out) | exact HB.out)⟩
    ·replace c19 := Bool.eq_false_iff.mpr c19
     subst c19
     have H1 : (if 0 ≤ (l0_4.length : Int) then (if ((l0_4.length : Int) : Int).toNat ≤ 281474976710656 then ((some (List.replicate ((l0_4.length : Int) : Int).toNat false : List Bool)).bind fun y513 => (if 0 < (y513.length : Int) then (plnlaw5_DomWays.l0 kj4 l1 (y513.set (0 : Int).toNat true) 0 0 a0_0 a0_1 l0_2 a0_3 l0_4) else (none))) else (none)) else (none)) = some r := by rw [if_neg (show ¬ (false = true) by decide)] at H; exact H
     clear H; have H := H1; clear H1
     by_cases c22 : 0 ≤ (l0_4.length : Int)
     ·rw [if_pos c22] at H
      have c22b0 := eq_true c22
      have c22b1 : decide (0 ≤ (l0_4.length : Int)) = true := decide_eq_true c22
      clear c22
      by_cases c23 : ((l0_4.length : Int) : Int).toNat ≤ 281474976710656
      ·rw [if_pos c23] at H
       have c23b0 := eq_true c23
       have c23b1 : decide (((l0_4.length : Int) : Int).toNat ≤ 281474976710656) = true := decide_eq_true c23
       clear c23
       obtain ⟨y513, hy513⟩ : ∃ y_ : List Bool, y_ = (List.replicate ((l0_4.length : Int) : Int).toNat false) := ⟨_, rfl⟩
       replace H : (if 0 < (y513.length : Int) then (plnlaw5_DomWays.l0 kj4 l1 (y513.set (0 : Int).toNat true) 0 0 a0_0 a0_1 l0_2 a0_3 l0_4) else (none)) = some r := by first | (rw [hy513]; with_reducible exact H) | (have H2_ := (Option.bind_some _ _).symm.trans H; rw [hy513]; with_reducible exact H2_) | (have H2_ := (Option.bind_some _ _).symm.trans H; with_reducible exact H2_) | with_reducible exact H | (rw [hy513]; exact H) | exact H
       have Ny513 := Aside0.mk hy513
       clear hy513
       by_cases c24 : 0 < (y513.length : Int)
       ·rw [if_pos c24] at H
        have c24b0 : decide (0 < (y513.length : Int)) = true := decide_eq_true c24
        have c24b1 : decide (0 < y513.length) = true := decide_eq_true (by omega)
        clear c24
        obtain ⟨y516, hy516⟩ : ∃ y_ : List Bool, y_ = (y513.set (0 : Int).toNat true) := ⟨_, rfl⟩
        replace H : (plnlaw5_DomWays.l0 kj4 l1 y516 0 0 a0_0 a0_1 l0_2 a0_3 l0_4) = some r := by first | (rw [hy516]; with_reducible exact H) | (have H2_ := (Option.bind_some _ _).symm.trans H; rw [hy516]; with_reducible exact H2_) | (have H2_ := (Option.bind_some _ _).symm.trans H; with_reducible exact H2_) | with_reducible exact H | (rw [hy516]; exact H) | exact H
        have Ny516 := Aside0.mk hy516
        clear hy516
        have H' := Aside0.mk H
        clear H
        have hcz26_0 : wc.cell? ⟨gb509, 0, none⟩ = some (.string a0_0) := (blk_cell BK509.out 0).trans rfl
        have hcz26_1 : wc.cell? ⟨gb509, 1, none⟩ = some (.bool a0_1) := (blk_cell BK509.out 1).trans rfl
        have hcz26_2 : wc.cell? ⟨gb509, 2, none⟩ = some (.slice A0_2 l0_2.length c0_2) := (blk_cell BK509.out 2).trans rfl
        have hcz26_3 : wc.cell? ⟨gb509, 3, none⟩ = some (.int .i64 a0_3) := (blk_cell BK509.out 3).trans rfl
        have hcz26_4 : wc.cell? ⟨gb509, 4, none⟩ = some (.slice A0_4 l0_4.length c0_4) := (blk_cell BK509.out 4).trans rfl
        have hfz26_0 := blk_frozen BK509.out 0
        have hfz26_1 := blk_frozen BK509.out 1
        have hfz26_2 := blk_frozen BK509.out 2
        have hfz26_3 := blk_frozen BK509.out 3
        have hfz26_4 := blk_frozen BK509.out 4
        go_wp2_with (first | ((with_reducible refine gate_dst (N := 30) rfl ?_); (try (refine gate_guard (by rfl) ?_; dsimp only)); refine Kd.R_make Kd.bool _ 4 rfl (N := 30) rfl 34 _ _ rfl (l0_4.length : Int) rfl rfl Try.underlying34 (.bool false) 1 info4 rfl (by decide) (by omega) false (ok := fun _ => True) (okp := fun _ => True) rfl (fun _ hk => hk) trivial (of_decide_eq_true (by first | (with_reducible assumption) | assumption)) (Nat.le_trans (Nat.mul_le_mul_right _ (of_decide_eq_true (by first | (with_reducible assumption) | assumption) : (l0_4.length : Int).toNat ≤ 281474976710656)) (by omega)) (Below.refl _ _) (Nat.le_refl _) ?_; intro v514 w27 ho28 hb hg_ hnew_; clear hg_ hnew_; (first | rw [← Ny513.out] at ho28 | (simp only [Int.reduceToNat] at ho28; rw [← Ny513.out] at ho28)); have n0_ := Aside0.mk (Kd.R_lower ho28 (below_size (by repeat (first | (with_reducible first | exact HB.out | apply below_alloc | apply pw_below_drewN | apply below_drew1 | refine below_set ?_ GE509.out) | exact HB.out)))); have n1_ := Aside0.mk (blk_below (g := gb509) (o := .cells #[.string a0_0, .bool a0_1, .slice A0_2 l0_2.length c0_2, .int .i64 a0_3, .slice A0_4 l0_4.length c0_4] 25 (0, 0)) (by (with_reducible repeat (first | refine blk_drewN ?_ _ | refine blk_drew ?_ | refine blk_alloc ?_ _)); exact BK509.out) hb); have n2_ := Aside0.mk (below_step (by repeat (first | (with_reducible first | exact HB.out | apply below_alloc | apply pw_below_drewN | apply below_drew1 | refine below_set ?_ GE509.out) | exact HB.out)) hb); clear BK509; clear HB; have HO515 := n0_; have BK509 := n1_; have HB := n2_; clear n0_ n1_ n2_; clear hb ho28; have p25 : 0 ≤ (0 : Int) := (by omega); have q25 : (0 : Int) < ((y513.length : Int) : Int) := of_decide_eq_true (by first | (with_reducible assumption) | assumption); have qi25 : (0 < y513.length) = True := eq_true (by omega); obtain ⟨go25, co25, eo25, gb25, gl25, cl25, HG25⟩ := Kd.R_form HO515.out (by omega); (first | cases eo25 | (injection eo25 with ea_ en_ ec_; (first | subst ea_ | (injection ea_ with ea_; subst ea_)); subst ec_; clear en_)); have GB25 := Aside0.mk gb25; have GG25 := Aside0.mk HG25; clear gb25 gl25 HG25; obtain ⟨hx25_0, hf25_0⟩ := Kd.R_celln false HO515.out (0 : Int) p25 q25; (try rw [show ((0 : Int)).toNat = 0 from rfl] at hx25_0); (try simp only [Nat.reduceMul, Nat.zero_mul, Nat.zero_add, Nat.reduceAdd] at hx25_0); (try rw [show ((0 : Int)).toNat = 0 from rfl] at hf25_0); (try simp only [Nat.reduceMul, Nat.zero_mul, Nat.zero_add, Nat.reduceAdd] at hf25_0); replace p25 := eq_true p25; replace q25 := eq_true q25; obtain ⟨hy29_, hz29_⟩ := Kd.R_celln false HO515.out (0 : Int) (by omega) (of_decide_eq_true (by first | (with_reducible assumption) | assumption)); (try simp only [Int.reduceToNat, Int.toNat_zero, Int.toNat_ofNat, Nat.reduceMul, Nat.zero_mul, Nat.zero_add] at hy29_ hz29_); (try rw [show ((0 : Int)).toNat = 0 from rfl] at hy29_); (try rw [show ((0 : Int)).toNat = 0 from rfl] at hz29_); have HP29 := Kd.R_putg HO515.out (0 : Int) true) | ((with_reducible refine gate_store (t := 4) (p := 32) rfl ?_); refine store_event (t := 4) (p := 32) (v := ?vo_w30) (w1 := (w27.setCell ⟨go25, (0 : Int).toNat, none⟩ (.bool true))) ?hg ?ho ?hn ?hr ?_; (case ho => rfl); (case hg => rfl); (case hn => rfl); (case hr => first | (go_simp; done) | (go_simp; rfl)); intro w30 hw; have hg : w27.grownBy w30 (some go25) := (by rw [hw]; exact HP29.2); have hp_ : Kd.R Kd.bool 4 w30 w.heap.size (fun _ => True) (.slice (some ⟨go25, 0, none⟩) y513.length co25) y516 := (by rw [hw, Ny516.out]; exact HP29.1); clear HP29; have n0_ := Aside0.mk (blk_grown (g := gb509) (o := .cells #[.string a0_0, .bool a0_1, .slice A0_2 l0_2.length c0_2, .int .i64 a0_3, .slice A0_4 l0_4.length c0_4] 25 (0, 0)) (by (with_reducible repeat (first | refine blk_drewN ?_ _ | refine blk_drew ?_ | refine blk_alloc ?_ _)); exact BK509.out) hg (Kd.R_ne HO515.out BK509.out (by decide))); have n1_ := Aside0.mk (hp_); have n2_ := Aside0.mk ((by rw [hw]; exact below_set (HB.out) GB25.out : Below w.heap.size w w30)); clear BK509; clear HO515; clear HB; have BK509 := n0_; have HO515 := n1_; have HB := n2_; clear n0_ n1_ n2_; clear hg hw hp_))
        go_loopg [6, 7] kj4 (fun kq v6 v7 w' => ∃ (x5_2 : List Bool) (x6_2 : Int) (x7_2 : Int), v6 = .int .i64 x6_2 ∧ v7 = .int .i64 x7_2 ∧ Aside0 (plnlaw5_DomWays.l0 kq l1 x5_2 x6_2 x7_2 a0_0 a0_1 l0_2 a0_3 l0_4 = some r) ∧ Aside0 (kq ≤ kj4) ∧ Aside0 (Kd.R Kd.bool 4 w' w.heap.size (fun _ => True) (.slice (some ⟨go25, 0, none⟩) y513.length co25) x5_2) ∧ Aside0 (w'.heap[gb509]? = some (.cells #[.string a0_0, .bool a0_1, (.slice A0_2 l0_2.length c0_2), .int .i64 a0_3, (.slice A0_4 l0_4.length c0_4)] 25 (0, 0))) ∧ Aside0 (Below w.heap.size w w'))
        case atStart => exact ⟨(y516), (0), (0), (by first | rfl | (simp; done) | (simp [*]; done)), (by first | rfl | (simp; done) | (simp [*]; done)), H', ⟨Nat.le_refl _⟩, ⟨by (with_reducible repeat (first | apply Kd.R_alloc | apply Kd.R_drewN | apply Kd.R_drew)); exact HO515.out⟩, ⟨by (with_reducible repeat (first | refine blk_drewN ?_ _ | refine blk_drew ?_ | refine blk_alloc ?_ _)); exact BK509.out⟩, ⟨by repeat (first | (with_reducible first | exact HB.out | apply below_alloc | apply pw_below_drewN | apply below_drew1 | refine below_set ?_ GE509.out) | exact HB.out)⟩⟩
        case round =>
         clear H'
         try clear c1
         try clear c2
         try clear p2
         try clear q2
         try clear hx2
         try clear qi2
         try clear hf2
         try clear c3
         try clear c4
         try clear c6
         try clear c9
         try clear c10
         try clear c10b0
         try clear c10b1
         try clear c10b2
         try clear c17
         try clear c19
         try clear c22
         try clear c22b0
         try clear c22b1
         try clear c23
         try clear c23b0
         try clear c23b1
         try clear c24
         try clear c24b0
         try clear c24b1
         try clear p25
         try clear q25
         try clear hx25
         try clear qi25
         try clear hf25
         try clear hcz11_0
         try clear hcz11_1
         try clear hcz11_2
         try clear hcz11_3
         try clear hcz11_4
         try clear hcz13_0
         try clear hcz13_1
         try clear hcz13_2
         try clear hcz13_3
         try clear hcz13_4
         try clear hcz14_0
         try clear hcz14_1
         try clear hcz14_2
         try clear hcz14_3
         try clear hcz14_4
         try clear hcz16_0
         try clear hcz16_1
         try clear hcz16_2
         try clear hcz16_3
         try clear hcz16_4
         try clear hcz17_0
         try clear hcz17_1
         try clear hcz17_2
         try clear hcz17_3
         try clear hcz17_4
         try clear hcz26_0
         try clear hcz26_1
         try clear hcz26_2
         try clear hcz26_3
         try clear hcz26_4
         try clear hfz11_0
         try clear hfz11_1
         try clear hfz11_2
         try clear hfz11_3
         try clear hfz11_4
         try clear hfz13_0
         try clear hfz13_1
         try clear hfz13_2
         try clear hfz13_3
         try clear hfz13_4
         try clear hfz14_0
         try clear hfz14_1
         try clear hfz14_2
         try clear hfz14_3
         try clear hfz14_4
         try clear hfz16_0
         try clear hfz16_1
         try clear hfz16_2
         try clear hfz16_3
         try clear hfz16_4
         try clear hfz17_0
         try clear hfz17_1
         try clear hfz17_2
         try clear hfz17_3
         try clear hfz17_4
         try clear hfz26_0
         try clear hfz26_1
         try clear hfz26_2
         try clear hfz26_3
         try clear hfz26_4
         try clear hx25_0
         try clear p2
         try clear p25
         try clear q25
         obtain ⟨x5_2, x6_2, x7_2, rfl, rfl, HA, HK2, HO_5, BK509, HB⟩ := hrel
         have hl5_2 := (Kd.R_reads' HO_5.out).1
         rw [hl5_2] at HO_5
         (try simp only [hl5_2])
         (try simp only [hl5_2] at BK509)
         cases gk with
         | zero => exact absurd HA.out (by simp [plnlaw5_DomWays.l0])
         | succ k2 =>
          have H := HA.out
          clear HA
          simp only [plnlaw5_DomWays.l0] at H
          by_cases c31 : x7_2 ≤ (l1.length : Int)
          ·rw [if_pos c31] at H
           have c31b0 : decide (x7_2 ≤ (l1.length : Int)) = true := decide_eq_true c31
           clear c31
           have H' := Aside0.mk H
           clear H
           go_wp2
           go_loopg [8] k2 (fun kq v8 w' => ∃ (x8_3 : Int), v8 = .int .i64 x8_3 ∧ Aside0 (plnlaw5_DomWays.l1 kq l1 x5_2 x6_2 x7_2 x8_3 a0_0 a0_1 l0_2 a0_3 l0_4 = some r) ∧ Aside0 (kq ≤ k2) ∧ Aside0 (Kd.R Kd.bool 4 w' w.heap.size (fun _ => True) (.slice (some ⟨go25, 0, none⟩) x5_2.length co25) x5_2) ∧ Aside0 (w'.heap[gb509]? = some (.cells #[.string a0_0, .bool a0_1, (.slice A0_2 l0_2.length c0_2), .int .i64 a0_3, (.slice A0_4 l0_4.length c0_4)] 25 (0, 0))) ∧ Aside0 (Below w.heap.size w w'))
           case atStart => exact ⟨(0), (by first | rfl | (simp; done) | (simp [*]; done)), H', ⟨Nat.le_refl _⟩, ⟨by (try simp only [hl5_2]); (with_reducible repeat (first | apply Kd.R_alloc | apply Kd.R_drewN | apply Kd.R_drew)); exact HO_5.out⟩, ⟨by (try simp only [hl5_2]); (with_reducible repeat (first | refine blk_drewN ?_ _ | refine blk_drew ?_ | refine blk_alloc ?_ _)); exact BK509.out⟩, ⟨by repeat (first | (with_reducible first | exact HB.out | apply below_alloc | apply pw_below_drewN | apply below_drew1 | refine below_set ?_ GE509.out) | exact HB.out)⟩⟩
           case round =>
            clear H'
            try clear c1
            try clear c2
            try clear p2
            try clear q2
            try clear hx2
            try clear qi2
            try clear hf2
            try clear c3
            try clear c4
            try clear c6
            try clear c9
            try clear c10
            try clear c10b0
            try clear c10b1
            try clear c10b2
            try clear c17
            try clear c19
            try clear c22
            try clear c22b0
            try clear c22b1
            try clear c23
            try clear c23b0
            try clear c23b1
            try clear c24
            try clear c24b0
            try clear c24b1
            try clear p25
            try clear q25
            try clear hx25
            try clear qi25
            try clear hf25
            try clear c31
            try clear c31b0
            try clear hcz11_0
            try clear hcz11_1
            try clear hcz11_2
            try clear hcz11_3
            try clear hcz11_4
            try clear hcz13_0
            try clear hcz13_1
            try clear hcz13_2
            try clear hcz13_3
            try clear hcz13_4
            try clear hcz14_0
            try clear hcz14_1
            try clear hcz14_2
            try clear hcz14_3
            try clear hcz14_4
            try clear hcz16_0
            try clear hcz16_1
            try clear hcz16_2
            try clear hcz16_3
            try clear hcz16_4
            try clear hcz17_0
            try clear hcz17_1
            try clear hcz17_2
            try clear hcz17_3
            try clear hcz17_4
            try clear hcz26_0
            try clear hcz26_1
            try clear hcz26_2
            try clear hcz26_3
            try clear hcz26_4
            try clear hfz11_0
            try clear hfz11_1
            try clear hfz11_2
            try clear hfz11_3
            try clear hfz11_4
            try clear hfz13_0
            try clear hfz13_1
            try clear hfz13_2
            try clear hfz13_3
            try clear hfz13_4
            try clear hfz14_0
            try clear hfz14_1
            try clear hfz14_2
            try clear hfz14_3
            try clear hfz14_4
            try clear hfz16_0
            try clear hfz16_1
            try clear hfz16_2
            try clear hfz16_3
            try clear hfz16_4
            try clear hfz17_0
            try clear hfz17_1
            try clear hfz17_2
            try clear hfz17_3
            try clear hfz17_4
            try clear hfz26_0
            try clear hfz26_1
            try clear hfz26_2
            try clear hfz26_3
            try clear hfz26_4
            try clear hx25_0
            try clear p2
            try clear p25
            try clear q2
            try clear q25
            obtain ⟨x8_3, rfl, HA, HK3, HO_5, BK509, HB⟩ := hrel
            cases gk with
            | zero => exact absurd HA.out (by simp [plnlaw5_DomWays.l1])
            | succ k3 =>
             have H := HA.out
             clear HA
             simp only [plnlaw5_DomWays.l1] at H
             by_cases c32 : x8_3 < (x5_2.length : Int)
             ·rw [if_pos c32] at H
              have c32b0 : decide (x8_3 < (x5_2.length : Int)) = true := decide_eq_true c32
              clear c32
              replace H := Option.bind_eq_some_iff.mp H
              obtain ⟨t517, A330, H⟩ := H
              replace H : (if t517 = true then (if 0 ≤ x8_3 then (if rdOf false x5_2 x8_3 = true then (plnlaw5_DomWays.l1 k3 l1 x5_2 x6_2 x7_2 (wrap64 (x8_3 + 1)) a0_0 a0_1 l0_2 a0_3 l0_4) else (some false)) else (none)) else (plnlaw5_DomWays.l1 k3 l1 x5_2 x6_2 x7_2 (wrap64 (x8_3 + 1)) a0_0 a0_1 l0_2 a0_3 l0_4)) = some r := H
              have A33 := Aside0.mk A330
              clear A330
              by_cases c34 : t517 = true
              ·subst c34
               have H1 : (if 0 ≤ x8_3 then (if rdOf false x5_2 x8_3 = true then (plnlaw5_DomWays.l1 k3 l1 x5_2 x6_2 x7_2 (wrap64 (x8_3 + 1)) a0_0 a0_1 l0_2 a0_3 l0_4) else (some false)) else (none)) = some r := by rw [if_pos rfl] at H; exact H
               clear H; have H := H1; clear H1
               by_cases c35 : 0 ≤ x8_3
               ·rw [if_pos c35] at H
                have c35b0 : decide (0 ≤ x8_3) = true := decide_eq_true c35
                clear c35
                obtain ⟨bq36, hbq36⟩ : ∃ b_ : Bool, b_ = (rdOf false x5_2 x8_3) := ⟨_, rfl⟩
                replace H : (if bq36 = true then (plnlaw5_DomWays.l1 k3 l1 x5_2 x6_2 x7_2 (wrap64 (x8_3 + 1)) a0_0 a0_1 l0_2 a0_3 l0_4) else (some false)) = some r := by rw [← hbq36] at H; exact H
                have Nbq36 := Aside0.mk hbq36
                clear hbq36
                by_cases c37 : bq36 = true
                ·subst c37
                 have H1 : (plnlaw5_DomWays.l1 k3 l1 x5_2 x6_2 x7_2 (wrap64 (x8_3 + 1)) a0_0 a0_1 l0_2 a0_3 l0_4) = some r := by rw [if_pos rfl] at H; exact H
                 clear H; have H := H1; clear H1
                 have H' := Aside0.mk H
                 clear H
                 have hcz38_0 : wr.cell? ⟨gb509, 0, none⟩ = some (.string a0_0) := (blk_cell BK509.out 0).trans rfl
                 have hcz38_1 : wr.cell? ⟨gb509, 1, none⟩ = some (.bool a0_1) := (blk_cell BK509.out 1).trans rfl
                 have hcz38_2 : wr.cell? ⟨gb509, 2, none⟩ = some (.slice A0_2 l0_2.length c0_2) := (blk_cell BK509.out 2).trans rfl
                 have hcz38_3 : wr.cell? ⟨gb509, 3, none⟩ = some (.int .i64 a0_3) := (blk_cell BK509.out 3).trans rfl
                 have hcz38_4 : wr.cell? ⟨gb509, 4, none⟩ = some (.slice A0_4 l0_4.length c0_4) := (blk_cell BK509.out 4).trans rfl
                 have hfz38_0 := blk_frozen BK509.out 0
                 have hfz38_1 := blk_frozen BK509.out 1
                 have hfz38_2 := blk_frozen BK509.out 2
                 have hfz38_3 := blk_frozen BK509.out 3
                 have hfz38_4 := blk_frozen BK509.out 4
                 go_wp2_with (first | ((with_reducible refine gate_callee (f := 33) rfl ?_); refine goesL_ (some 48) rfl rfl Try.func33 (by kernel_rfl) rfl #[.agg #[.string a0_0, .bool a0_1, .slice A0_2 l0_2.length c0_2, .int .i64 a0_3, .slice A0_4 l0_4.length c0_4], .int .i64 x8_3, .int .i64 x6_2] rfl (by (try simp only [List.map_toArray, List.map_cons, List.map_nil]); first | done | rfl | (simp only [List.length_drop, List.length_take]; rfl)) ?_; (with_reducible refine (dom_Dom.calls k3 a0_0 a0_1 _ _ l0_2 a0_3 _ _ l0_4 x8_3 x6_2 true _ ?side1 ?side2 ?side3 ?side4 A33.out).mono ?_); (case side1 => repeat (first | exact (Kd.C_below HR0_2.out HB.out) | (with_reducible refine Kd.C_alloc ?_ _) | (with_reducible refine Kd.C_drewN ?_ _) | (with_reducible refine Kd.C_drew ?_))); (case side2 => exact HC0_2.out); (case side3 => repeat (first | exact (Kd.C_below HR0_4.out HB.out) | (with_reducible refine Kd.C_alloc ?_ _) | (with_reducible refine Kd.C_drewN ?_ _) | (with_reducible refine Kd.C_drew ?_))); (case side4 => exact HC0_4.out); rintro e w39 ⟨rfl, hb⟩; refine ⟨_, rfl, ?_⟩; have n0_ := Aside0.mk (Kd.R_below (by (with_reducible repeat (first | apply Kd.R_alloc | apply Kd.R_drewN | apply Kd.R_drew)); exact HO_5.out) hb); have n1_ := Aside0.mk (blk_below (g := gb509) (o := .cells #[.string a0_0, .bool a0_1, .slice A0_2 l0_2.length c0_2, .int .i64 a0_3, .slice A0_4 l0_4.length c0_4] 25 (0, 0)) (by (with_reducible repeat (first | refine blk_drewN ?_ _ | refine blk_drew ?_ | refine blk_alloc ?_ _)); exact BK509.out) hb); have n2_ := Aside0.mk (below_step (by repeat (first | (with_reducible first | exact HB.out | apply below_alloc | apply pw_below_drewN | apply below_drew1 | refine below_set ?_ GE509.out) | exact HB.out)) hb); clear HO_5; clear BK509; clear HB; have HO_5 := n0_; have BK509 := n1_; have HB := n2_; clear n0_ n1_ n2_; (try clear hb); (try clear hb2); (try clear hk); (try clear hi); have p518 : 0 ≤ (x8_3 : Int) := of_decide_eq_true (by first | (with_reducible assumption) | assumption); have q518 : x8_3 < (x5_2.length : Int) := of_decide_eq_true (by first | (with_reducible assumption) | assumption); obtain ⟨ad518, e518, hx518_0⟩ := Kd.at_bool (Kd.R_reads' HO_5.out).2.2 x8_3 p518 q518; (try rw [← Nbq36.out] at hx518_0); obtain rfl : (⟨go25, 0, none⟩ : Addr) = ad518 := (by injection e518); (first | simp only [add_plain] at hx518_0 | simp only [add_at] at hx518_0 | simp only [Addr.add, Nat.zero_add] at hx518_0 | skip); replace p518 := eq_true p518; replace q518 := eq_true q518))
                 go_roundg k3
                 case measure => have := HJ4.out; have := HK2.out; have := HK3.out; omega
                 case rel => exact ⟨(wrap64 (x8_3 + 1)), (by first | rfl | (simp; done) | (simp [*]; done)), H', ⟨by have := HJ4.out; have := HK2.out; have := HK3.out; omega⟩, ⟨by (try simp only [hl5_2]); (with_reducible repeat (first | apply Kd.R_alloc | apply Kd.R_drewN | apply Kd.R_drew)); exact HO_5.out⟩, ⟨by (try simp only [hl5_2]); (with_reducible repeat (first | refine blk_drewN ?_ _ | refine blk_drew ?_ | refine blk_alloc ?_ _)); exact BK509.out⟩, ⟨by repeat (first | (with_reducible first | exact HB.out | apply below_alloc | apply pw_below_drewN | apply below_drew1 | refine below_set ?_ GE509.out) | exact HB.out)⟩⟩
                ·replace c37 := Bool.eq_false_iff.mpr c37
                 subst c37
                 have H1 : (some false) = some r := by rw [if_neg (show ¬ (false = true) by decide)] at H; exact H
                 clear H; have H := H1; clear H1
                 obtain rfl := Option.some.inj H
                 have hcz40_0 : wr.cell? ⟨gb509, 0, none⟩ = some (.string a0_0) := (blk_cell BK509.out 0).trans rfl
                 have hcz40_1 : wr.cell? ⟨gb509, 1, none⟩ = some (.bool a0_1) := (blk_cell BK509.out 1).trans rfl
                 have hcz40_2 : wr.cell? ⟨gb509, 2, none⟩ = some (.slice A0_2 l0_2.length c0_2) := (blk_cell BK509.out 2).trans rfl
                 have hcz40_3 : wr.cell? ⟨gb509, 3, none⟩ = some (.int .i64 a0_3) := (blk_cell BK509.out 3).trans rfl
                 have hcz40_4 : wr.cell? ⟨gb509, 4, none⟩ = some (.slice A0_4 l0_4.length c0_4) := (blk_cell BK509.out 4).trans rfl
                 have hfz40_0 := blk_frozen BK509.out 0
                 have hfz40_1 := blk_frozen BK509.out 1
                 have hfz40_2 := blk_frozen BK509.out 2
                 have hfz40_3 := blk_frozen BK509.out 3
                 have hfz40_4 := blk_frozen BK509.out 4
                 go_wp2_with (first | ((with_reducible refine gate_callee (f := 33) rfl ?_); refine goesL_ (some 48) rfl rfl Try.func33 (by kernel_rfl) rfl #[.agg #[.string a0_0, .bool a0_1, .slice A0_2 l0_2.length c0_2, .int .i64 a0_3, .slice A0_4 l0_4.length c0_4], .int .i64 x8_3, .int .i64 x6_2] rfl (by (try simp only [List.map_toArray, List.map_cons, List.map_nil]); first | done | rfl | (simp only [List.length_drop, List.length_take]; rfl)) ?_; (with_reducible refine (dom_Dom.calls k3 a0_0 a0_1 _ _ l0_2 a0_3 _ _ l0_4 x8_3 x6_2 true _ ?side1 ?side2 ?side3 ?side4 A33.out).mono ?_); (case side1 => repeat (first | exact (Kd.C_below HR0_2.out HB.out) | (with_reducible refine Kd.C_alloc ?_ _) | (with_reducible refine Kd.C_drewN ?_ _) | (with_reducible refine Kd.C_drew ?_))); (case side2 => exact HC0_2.out); (case side3 => repeat (first | exact (Kd.C_below HR0_4.out HB.out) | (with_reducible refine Kd.C_alloc ?_ _) | (with_reducible refine Kd.C_drewN ?_ _) | (with_reducible refine Kd.C_drew ?_))); (case side4 => exact HC0_4.out); rintro e w41 ⟨rfl, hb⟩; refine ⟨_, rfl, ?_⟩; have n0_ := Aside0.mk (Kd.R_below (by (with_reducible repeat (first | apply Kd.R_alloc | apply Kd.R_drewN | apply Kd.R_drew)); exact HO_5.out) hb); have n1_ := Aside0.mk (blk_below (g := gb509) (o := .cells #[.string a0_0, .bool a0_1, .slice A0_2 l0_2.length c0_2, .int .i64 a0_3, .slice A0_4 l0_4.length c0_4] 25 (0, 0)) (by (with_reducible repeat (first | refine blk_drewN ?_ _ | refine blk_drew ?_ | refine blk_alloc ?_ _)); exact BK509.out) hb); have n2_ := Aside0.mk (below_step (by repeat (first | (with_reducible first | exact HB.out | apply below_alloc | apply pw_below_drewN | apply below_drew1 | refine below_set ?_ GE509.out) | exact HB.out)) hb); clear HO_5; clear BK509; clear HB; have HO_5 := n0_; have BK509 := n1_; have HB := n2_; clear n0_ n1_ n2_; (try clear hb); (try clear hb2); (try clear hk); (try clear hi); have p518 : 0 ≤ (x8_3 : Int) := of_decide_eq_true (by first | (with_reducible assumption) | assumption); have q518 : x8_3 < (x5_2.length : Int) := of_decide_eq_true (by first | (with_reducible assumption) | assumption); obtain ⟨ad518, e518, hx518_0⟩ := Kd.at_bool (Kd.R_reads' HO_5.out).2.2 x8_3 p518 q518; (try rw [← Nbq36.out] at hx518_0); obtain rfl : (⟨go25, 0, none⟩ : Addr) = ad518 := (by injection e518); (first | simp only [add_plain] at hx518_0 | simp only [add_at] at hx518_0 | simp only [Addr.add, Nat.zero_add] at hx518_0 | skip); replace p518 := eq_true p518; replace q518 := eq_true q518))
                 go_ret
                 exact ⟨by first | rfl | (simp [errW_none, errW_some] <;> rfl) | (simp [*, errW_none, errW_some] <;> rfl), by repeat (first | (with_reducible first | exact HB.out | apply below_alloc | apply pw_below_drewN | apply below_drew1 | refine below_set ?_ GE509.out) | exact HB.out)⟩
               ·rw [if_neg c35] at H
                exact absurd H (by simp)
              ·replace c34 := Bool.eq_false_iff.mpr c34
               subst c34
               have H1 : (plnlaw5_DomWays.l1 k3 l1 x5_2 x6_2 x7_2 (wrap64 (x8_3 + 1)) a0_0 a0_1 l0_2 a0_3 l0_4) = some r := by rw [if_neg (show ¬ (false = true) by decide)] at H; exact H
               clear H; have H := H1; clear H1
               have H' := Aside0.mk H
               clear H
               have hcz42_0 : wr.cell? ⟨gb509, 0, none⟩ = some (.string a0_0) := (blk_cell BK509.out 0).trans rfl
               have hcz42_1 : wr.cell? ⟨gb509, 1, none⟩ = some (.bool a0_1) := (blk_cell BK509.out 1).trans rfl
               have hcz42_2 : wr.cell? ⟨gb509, 2, none⟩ = some (.slice A0_2 l0_2.length c0_2) := (blk_cell BK509.out 2).trans rfl
               have hcz42_3 : wr.cell? ⟨gb509, 3, none⟩ = some (.int .i64 a0_3) := (blk_cell BK509.out 3).trans rfl
               have hcz42_4 : wr.cell? ⟨gb509, 4, none⟩ = some (.slice A0_4 l0_4.length c0_4) := (blk_cell BK509.out 4).trans rfl
               have hfz42_0 := blk_frozen BK509.out 0
               have hfz42_1 := blk_frozen BK509.out 1
               have hfz42_2 := blk_frozen BK509.out 2
               have hfz42_3 := blk_frozen BK509.out 3
               have hfz42_4 := blk_frozen BK509.out 4
               go_wp2_with (first | ((with_reducible refine gate_callee (f := 33) rfl ?_); refine goesL_ (some 48) rfl rfl Try.func33 (by kernel_rfl) rfl #[.agg #[.string a0_0, .bool a0_1, .slice A0_2 l0_2.length c0_2, .int .i64 a0_3, .slice A0_4 l0_4.length c0_4], .int .i64 x8_3, .int .i64 x6_2] rfl (by (try simp only [List.map_toArray, List.map_cons, List.map_nil]); first | done | rfl | (simp only [List.length_drop, List.length_take]; rfl)) ?_; (with_reducible refine (dom_Dom.calls k3 a0_0 a0_1 _ _ l0_2 a0_3 _ _ l0_4 x8_3 x6_2 false _ ?side1 ?side2 ?side3 ?side4 A33.out).mono ?_); (case side1 => repeat (first | exact (Kd.C_below HR0_2.out HB.out) | (with_reducible refine Kd.C_alloc ?_ _) | (with_reducible refine Kd.C_drewN ?_ _) | (with_reducible refine Kd.C_drew ?_))); (case side2 => exact HC0_2.out); (case side3 => repeat (first | exact (Kd.C_below HR0_4.out HB.out) | (with_reducible refine Kd.C_alloc ?_ _) | (with_reducible refine Kd.C_drewN ?_ _) | (with_reducible refine Kd.C_drew ?_))); (case side4 => exact HC0_4.out); rintro e w43 ⟨rfl, hb⟩; refine ⟨_, rfl, ?_⟩; have n0_ := Aside0.mk (Kd.R_below (by (with_reducible repeat (first | apply Kd.R_alloc | apply Kd.R_drewN | apply Kd.R_drew)); exact HO_5.out) hb); have n1_ := Aside0.mk (blk_below (g := gb509) (o := .cells #[.string a0_0, .bool a0_1, .slice A0_2 l0_2.length c0_2, .int .i64 a0_3, .slice A0_4 l0_4.length c0_4] 25 (0, 0)) (by (with_reducible repeat (first | refine blk_drewN ?_ _ | refine blk_drew ?_ | refine blk_alloc ?_ _)); exact BK509.out) hb); have n2_ := Aside0.mk (below_step (by repeat (first | (with_reducible first | exact HB.out | apply below_alloc | apply pw_below_drewN | apply below_drew1 | refine below_set ?_ GE509.out) | exact HB.out)) hb); clear HO_5; clear BK509; clear HB; have HO_5 := n0_; have BK509 := n1_; have HB := n2_; clear n0_ n1_ n2_; (try clear hb); (try clear hb2); (try clear hk); (try clear hi)))
               go_roundg k3
               case measure => have := HJ4.out; have := HK2.out; have := HK3.out; omega
               case rel => exact ⟨(wrap64 (x8_3 + 1)), (by first | rfl | (simp; done) | (simp [*]; done)), H', ⟨by have := HJ4.out; have := HK2.out; have := HK3.out; omega⟩, ⟨by (try simp only [hl5_2]); (with_reducible repeat (first | apply Kd.R_alloc | apply Kd.R_drewN | apply Kd.R_drew)); exact HO_5.out⟩, ⟨by (try simp only [hl5_2]); (with_reducible repeat (first | refine blk_drewN ?_ _ | refine blk_drew ?_ | refine blk_alloc ?_ _)); exact BK509.out⟩, ⟨by repeat (first | (with_reducible first | exact HB.out | apply below_alloc | apply pw_below_drewN | apply below_drew1 | refine below_set ?_ GE509.out) | exact HB.out)⟩⟩
             ·rw [if_neg c32] at H
              have c32b0 : decide (x8_3 < (x5_2.length : Int)) = false := decide_eq_false c32
              clear c32
              have HC44 := Aside0.mk H
              clear H
              go_upto_region 16 with (fail)
              go_cut [66] (fun v66 wc => ∃ (kq : Nat) (x66_43 : Bool), v66 = .bool x66_43 ∧ Aside0 (plnlaw5_DomWays.j3 kq l1 x5_2 x6_2 x7_2 x66_43 a0_0 a0_1 l0_2 a0_3 l0_4 = some r) ∧ Aside0 (kq ≤ k3) ∧ Aside0 (Kd.R Kd.bool 4 wc w.heap.size (fun _ => True) (.slice (some ⟨go25, 0, none⟩) x5_2.length co25) x5_2) ∧ Aside0 (wc.heap[gb509]? = some (.cells #[.string a0_0, .bool a0_1, (.slice A0_2 l0_2.length c0_2), .int .i64 a0_3, (.slice A0_4 l0_4.length c0_4)] 25 (0, 0))) ∧ Aside0 (Below w.heap.size w wc))
              case first =>
               have H := HC44.out
               clear HC44
               replace H := Option.bind_eq_some_iff.mp H
               obtain ⟨t519, A450, H⟩ := H
               replace H : (if t519 = true then ((dom_Dom.f k3 a0_0 a0_1 l0_2 a0_3 l0_4 0 x6_2).bind fun t520 => (plnlaw5_DomWays.j3 k3 l1 x5_2 x6_2 x7_2 (!t520) a0_0 a0_1 l0_2 a0_3 l0_4)) else (plnlaw5_DomWays.j3 k3 l1 x5_2 x6_2 x7_2 true a0_0 a0_1 l0_2 a0_3 l0_4)) = some r := H
               have A45 := Aside0.mk A450
               clear A450
               by_cases c46 : t519 = true
               ·subst c46
                have H1 : ((dom_Dom.f k3 a0_0 a0_1 l0_2 a0_3 l0_4 0 x6_2).bind fun t520 => (plnlaw5_DomWays.j3 k3 l1 x5_2 x6_2 x7_2 (!t520) a0_0 a0_1 l0_2 a0_3 l0_4)) = some r := by rw [if_pos rfl] at H; exact H
                clear H; have H := H1; clear H1
                replace H := Option.bind_eq_some_iff.mp H
                obtain ⟨t520, A470, H⟩ := H
                replace H : (plnlaw5_DomWays.j3 k3 l1 x5_2 x6_2 x7_2 (!t520) a0_0 a0_1 l0_2 a0_3 l0_4) = some r := H
                have A47 := Aside0.mk A470
                clear A470
                have H' := Aside0.mk H
                clear H
                have hcz48_0 : wr.cell? ⟨gb509, 0, none⟩ = some (.string a0_0) := (blk_cell BK509.out 0).trans rfl
                have hcz48_1 : wr.cell? ⟨gb509, 1, none⟩ = some (.bool a0_1) := (blk_cell BK509.out 1).trans rfl
                have hcz48_2 : wr.cell? ⟨gb509, 2, none⟩ = some (.slice A0_2 l0_2.length c0_2) := (blk_cell BK509.out 2).trans rfl
                have hcz48_3 : wr.cell? ⟨gb509, 3, none⟩ = some (.int .i64 a0_3) := (blk_cell BK509.out 3).trans rfl
                have hcz48_4 : wr.cell? ⟨gb509, 4, none⟩ = some (.slice A0_4 l0_4.length c0_4) := (blk_cell BK509.out 4).trans rfl
                have hfz48_0 := blk_frozen BK509.out 0
                have hfz48_1 := blk_frozen BK509.out 1
                have hfz48_2 := blk_frozen BK509.out 2
                have hfz48_3 := blk_frozen BK509.out 3
                have hfz48_4 := blk_frozen BK509.out 4
                go_wp2_with (first | ((with_reducible refine gate_callee (f := 33) rfl ?_); refine goesL_ (some 59) rfl rfl Try.func33 (by kernel_rfl) rfl #[.agg #[.string a0_0, .bool a0_1, .slice A0_2 l0_2.length c0_2, .int .i64 a0_3, .slice A0_4 l0_4.length c0_4], .int .i64 x6_2, .int .i64 x6_2] rfl (by (try simp only [List.map_toArray, List.map_cons, List.map_nil]); first | done | rfl | (simp only [List.length_drop, List.length_take]; rfl)) ?_; (with_reducible refine (dom_Dom.calls k3 a0_0 a0_1 _ _ l0_2 a0_3 _ _ l0_4 x6_2 x6_2 true _ ?side1 ?side2 ?side3 ?side4 A45.out).mono ?_); (case side1 => repeat (first | exact (Kd.C_below HR0_2.out HB.out) | (with_reducible refine Kd.C_alloc ?_ _) | (with_reducible refine Kd.C_drewN ?_ _) | (with_reducible refine Kd.C_drew ?_))); (case side2 => exact HC0_2.out); (case side3 => repeat (first | exact (Kd.C_below HR0_4.out HB.out) | (with_reducible refine Kd.C_alloc ?_ _) | (with_reducible refine Kd.C_drewN ?_ _) | (with_reducible refine Kd.C_drew ?_))); (case side4 => exact HC0_4.out); rintro e w49 ⟨rfl, hb⟩; refine ⟨_, rfl, ?_⟩; have n0_ := Aside0.mk (Kd.R_below (by (with_reducible repeat (first | apply Kd.R_alloc | apply Kd.R_drewN | apply Kd.R_drew)); exact HO_5.out) hb); have n1_ := Aside0.mk (blk_below (g := gb509) (o := .cells #[.string a0_0, .bool a0_1, .slice A0_2 l0_2.length c0_2, .int .i64 a0_3, .slice A0_4 l0_4.length c0_4] 25 (0, 0)) (by (with_reducible repeat (first | refine blk_drewN ?_ _ | refine blk_drew ?_ | refine blk_alloc ?_ _)); exact BK509.out) hb); have n2_ := Aside0.mk (below_step (by repeat (first | (with_reducible first | exact HB.out | apply below_alloc | apply pw_below_drewN | apply below_drew1 | refine below_set ?_ GE509.out) | exact HB.out)) hb); clear HO_5; clear BK509; clear HB; have HO_5 := n0_; have BK509 := n1_; have HB := n2_; clear n0_ n1_ n2_; (try clear hb); (try clear hb2); (try clear hk); (try clear hi); have hcz50_0 : w49.cell? ⟨gb509, 0, none⟩ = some (.string a0_0) := (blk_cell BK509.out 0).trans rfl; have hcz50_1 : w49.cell? ⟨gb509, 1, none⟩ = some (.bool a0_1) := (blk_cell BK509.out 1).trans rfl; have hcz50_2 : w49.cell? ⟨gb509, 2, none⟩ = some (.slice A0_2 l0_2.length c0_2) := (blk_cell BK509.out 2).trans rfl; have hcz50_3 : w49.cell? ⟨gb509, 3, none⟩ = some (.int .i64 a0_3) := (blk_cell BK509.out 3).trans rfl; have hcz50_4 : w49.cell? ⟨gb509, 4, none⟩ = some (.slice A0_4 l0_4.length c0_4) := (blk_cell BK509.out 4).trans rfl; have hfz50_0 := blk_frozen BK509.out 0; have hfz50_1 := blk_frozen BK509.out 1; have hfz50_2 := blk_frozen BK509.out 2; have hfz50_3 := blk_frozen BK509.out 3; have hfz50_4 := blk_frozen BK509.out 4) | (go_at_call 33; (with_reducible refine (dom_Dom.calls k3 a0_0 a0_1 _ _ l0_2 a0_3 _ _ l0_4 0 x6_2 t520 _ ?side1 ?side2 ?side3 ?side4 A47.out).mono ?_); (case side1 => repeat (first | exact (Kd.C_below HR0_2.out HB.out) | (with_reducible refine Kd.C_alloc ?_ _) | (with_reducible refine Kd.C_drewN ?_ _) | (with_reducible refine Kd.C_drew ?_))); (case side2 => exact HC0_2.out); (case side3 => repeat (first | exact (Kd.C_below HR0_4.out HB.out) | (with_reducible refine Kd.C_alloc ?_ _) | (with_reducible refine Kd.C_drewN ?_ _) | (with_reducible refine Kd.C_drew ?_))); (case side4 => exact HC0_4.out); rintro e w51 ⟨rfl, hb⟩; have n0_ := Aside0.mk (Kd.R_below (by (with_reducible repeat (first | apply Kd.R_alloc | apply Kd.R_drewN | apply Kd.R_drew)); exact HO_5.out) hb); have n1_ := Aside0.mk (blk_below (g := gb509) (o := .cells #[.string a0_0, .bool a0_1, .slice A0_2 l0_2.length c0_2, .int .i64 a0_3, .slice A0_4 l0_4.length c0_4] 25 (0, 0)) (by (with_reducible repeat (first | refine blk_drewN ?_ _ | refine blk_drew ?_ | refine blk_alloc ?_ _)); exact BK509.out) hb); have n2_ := Aside0.mk (below_step (by repeat (first | (with_reducible first | exact HB.out | apply below_alloc | apply pw_below_drewN | apply below_drew1 | refine below_set ?_ GE509.out) | exact HB.out)) hb); clear HO_5; clear BK509; clear HB; have HO_5 := n0_; have BK509 := n1_; have HB := n2_; clear n0_ n1_ n2_; (try clear hb); (try clear hb2); (try clear hk); (try clear hi)))
                go_meet
                case rel => exact ⟨_, (!t520), (by first | rfl | (simp; done) | (simp [*]; done)), H', ⟨by have := HJ4.out; have := HK2.out; have := HK3.out; first | omega | exact Nat.le_refl _⟩, ⟨by (try simp only [hl5_2]); (with_reducible repeat (first | apply Kd.R_alloc | apply Kd.R_drewN | apply Kd.R_drew)); exact HO_5.out⟩, ⟨by (try simp only [hl5_2]); (with_reducible repeat (first | refine blk_drewN ?_ _ | refine blk_drew ?_ | refine blk_alloc ?_ _)); exact BK509.out⟩, ⟨by repeat (first | (with_reducible first | exact HB.out | apply below_alloc | apply pw_below_drewN | apply below_drew1 | refine below_set ?_ GE509.out) | exact HB.out)⟩⟩
               ·replace c46 := Bool.eq_false_iff.mpr c46
                subst c46
                have H1 : (plnlaw5_DomWays.j3 k3 l1 x5_2 x6_2 x7_2 true a0_0 a0_1 l0_2 a0_3 l0_4) = some r := by rw [if_neg (show ¬ (false = true) by decide)] at H; exact H
                clear H; have H := H1; clear H1
                have H' := Aside0.mk H
                clear H
                have hcz52_0 : wr.cell? ⟨gb509, 0, none⟩ = some (.string a0_0) := (blk_cell BK509.out 0).trans rfl
                have hcz52_1 : wr.cell? ⟨gb509, 1, none⟩ = some (.bool a0_1) := (blk_cell BK509.out 1).trans rfl
                have hcz52_2 : wr.cell? ⟨gb509, 2, none⟩ = some (.slice A0_2 l0_2.length c0_2) := (blk_cell BK509.out 2).trans rfl
                have hcz52_3 : wr.cell? ⟨gb509, 3, none⟩ = some (.int .i64 a0_3) := (blk_cell BK509.out 3).trans rfl
                have hcz52_4 : wr.cell? ⟨gb509, 4, none⟩ = some (.slice A0_4 l0_4.length c0_4) := (blk_cell BK509.out 4).trans rfl
                have hfz52_0 := blk_frozen BK509.out 0
                have hfz52_1 := blk_frozen BK509.out 1
                have hfz52_2 := blk_frozen BK509.out 2
                have hfz52_3 := blk_frozen BK509.out 3
                have hfz52_4 := blk_frozen BK509.out 4
                go_wp2_with (first | ((with_reducible refine gate_callee (f := 33) rfl ?_); refine goesL_ (some 59) rfl rfl Try.func33 (by kernel_rfl) rfl #[.agg #[.string a0_0, .bool a0_1, .slice A0_2 l0_2.length c0_2, .int .i64 a0_3, .slice A0_4 l0_4.length c0_4], .int .i64 x6_2, .int .i64 x6_2] rfl (by (try simp only [List.map_toArray, List.map_cons, List.map_nil]); first | done | rfl | (simp only [List.length_drop, List.length_take]; rfl)) ?_; (with_reducible refine (dom_Dom.calls k3 a0_0 a0_1 _ _ l0_2 a0_3 _ _ l0_4 x6_2 x6_2 false _ ?side1 ?side2 ?side3 ?side4 A45.out).mono ?_); (case side1 => repeat (first | exact (Kd.C_below HR0_2.out HB.out) | (with_reducible refine Kd.C_alloc ?_ _) | (with_reducible refine Kd.C_drewN ?_ _) | (with_reducible refine Kd.C_drew ?_))); (case side2 => exact HC0_2.out); (case side3 => repeat (first | exact (Kd.C_below HR0_4.out HB.out) | (with_reducible refine Kd.C_alloc ?_ _) | (with_reducible refine Kd.C_drewN ?_ _) | (with_reducible refine Kd.C_drew ?_))); (case side4 => exact HC0_4.out); rintro e w53 ⟨rfl, hb⟩; refine ⟨_, rfl, ?_⟩; have n0_ := Aside0.mk (Kd.R_below (by (with_reducible repeat (first | apply Kd.R_alloc | apply Kd.R_drewN | apply Kd.R_drew)); exact HO_5.out) hb); have n1_ := Aside0.mk (blk_below (g := gb509) (o := .cells #[.string a0_0, .bool a0_1, .slice A0_2 l0_2.length c0_2, .int .i64 a0_3, .slice A0_4 l0_4.length c0_4] 25 (0, 0)) (by (with_reducible repeat (first | refine blk_drewN ?_ _ | refine blk_drew ?_ | refine blk_alloc ?_ _)); exact BK509.out) hb); have n2_ := Aside0.mk (below_step (by repeat (first | (with_reducible first | exact HB.out | apply below_alloc | apply pw_below_drewN | apply below_drew1 | refine below_set ?_ GE509.out) | exact HB.out)) hb); clear HO_5; clear BK509; clear HB; have HO_5 := n0_; have BK509 := n1_; have HB := n2_; clear n0_ n1_ n2_; (try clear hb); (try clear hb2); (try clear hk); (try clear hi)))
                go_meet
                case rel => exact ⟨_, (true), (by first | rfl | (simp; done) | (simp [*]; done)), H', ⟨by have := HJ4.out; have := HK2.out; have := HK3.out; first | omega | exact Nat.le_refl _⟩, ⟨by (try simp only [hl5_2]); (with_reducible repeat (first | apply Kd.R_alloc | apply Kd.R_drewN | apply Kd.R_drew)); exact HO_5.out⟩, ⟨by (try simp only [hl5_2]); (with_reducible repeat (first | refine blk_drewN ?_ _ | refine blk_drew ?_ | refine blk_alloc ?_ _)); exact BK509.out⟩, ⟨by repeat (first | (with_reducible first | exact HB.out | apply below_alloc | apply pw_below_drewN | apply below_drew1 | refine below_set ?_ GE509.out) | exact HB.out)⟩⟩
              case rest =>
               clear HC44
               try clear c1
               try clear c2
               try clear p2
               try clear q2
               try clear hx2
               try clear qi2
               try clear hf2
               try clear c3
               try clear q3
               try clear c4
               try clear p5
               try clear q5
               try clear hx5
               try clear c6
               try clear p6
               try clear c9
               try clear c10
               try clear c10b0
               try clear c10b1
               try clear c10b2
               try clear c17
               try clear c19
               try clear c22
               try clear c22b0
               try clear c22b1
               try clear c23
               try clear c23b0
               try clear c23b1
               try clear c24
               try clear c24b0
               try clear c24b1
               try clear p25
               try clear q25
               try clear hx25
               try clear qi25
               try clear hf25
               try clear c31
               try clear c31b0
               try clear c32
               try clear c32b0
               try clear c33
               try clear c34
               try clear c35
               try clear c35b0
               try clear q36
               try clear c37
               try clear c46
               try clear p51
               try clear q51
               try clear hx51
               try clear hcz11_0
               try clear hcz11_1
               try clear hcz11_2
               try clear hcz11_3
               try clear hcz11_4
               try clear hcz13_0
               try clear hcz13_1
               try clear hcz13_2
               try clear hcz13_3
               try clear hcz13_4
               try clear hcz14_0
               try clear hcz14_1
               try clear hcz14_2
               try clear hcz14_3
               try clear hcz14_4
               try clear hcz16_0
               try clear hcz16_1
               try clear hcz16_2
               try clear hcz16_3
               try clear hcz16_4
               try clear hcz17_0
               try clear hcz17_1
               try clear hcz17_2
               try clear hcz17_3
               try clear hcz17_4
               try clear hcz26_0
               try clear hcz26_1
               try clear hcz26_2
               try clear hcz26_3
               try clear hcz26_4
               try clear hcz38_0
               try clear hcz38_1
               try clear hcz38_2
               try clear hcz38_3
               try clear hcz38_4
               try clear hcz40_0
               try clear hcz40_1
               try clear hcz40_2
               try clear hcz40_3
               try clear hcz40_4
               try clear hcz42_0
               try clear hcz42_1
               try clear hcz42_2
               try clear hcz42_3
               try clear hcz42_4
               try clear hcz48_0
               try clear hcz48_1
               try clear hcz48_2
               try clear hcz48_3
               try clear hcz48_4
               try clear hcz50_0
               try clear hcz50_1
               try clear hcz50_2
               try clear hcz50_3
               try clear hcz50_4
               try clear hcz52_0
               try clear hcz52_1
               try clear hcz52_2
               try clear hcz52_3
               try clear hcz52_4
               try clear hfz11_0
               try clear hfz11_1
               try clear hfz11_2
               try clear hfz11_3
               try clear hfz11_4
               try clear hfz13_0
               try clear hfz13_1
               try clear hfz13_2
               try clear hfz13_3
               try clear hfz13_4
               try clear hfz14_0
               try clear hfz14_1
               try clear hfz14_2
               try clear hfz14_3
               try clear hfz14_4
               try clear hfz16_0
               try clear hfz16_1
               try clear hfz16_2
               try clear hfz16_3
               try clear hfz16_4
               try clear hfz17_0
               try clear hfz17_1
               try clear hfz17_2
               try clear hfz17_3
               try clear hfz17_4
               try clear hfz26_0
               try clear hfz26_1
               try clear hfz26_2
               try clear hfz26_3
               try clear hfz26_4
               try clear hfz38_0
               try clear hfz38_1
               try clear hfz38_2
               try clear hfz38_3
               try clear hfz38_4
               try clear hfz40_0
               try clear hfz40_1
               try clear hfz40_2
               try clear hfz40_3
               try clear hfz40_4
               try clear hfz42_0
               try clear hfz42_1
               try clear hfz42_2
               try clear hfz42_3
               try clear hfz42_4
               try clear hfz48_0
               try clear hfz48_1
               try clear hfz48_2
               try clear hfz48_3
               try clear hfz48_4
               try clear hfz50_0
               try clear hfz50_1
               try clear hfz50_2
               try clear hfz50_3
               try clear hfz50_4
               try clear hfz52_0
               try clear hfz52_1
               try clear hfz52_2
               try clear hfz52_3
               try clear hfz52_4
               try clear hx25_0
               try clear hx518_0
               try clear p2
               try clear p25
               try clear p518
               try clear q2
               try clear q25
               try clear q518
               obtain ⟨kq, x66_43, rfl, HA, HJ43, HO_5, BK509, HB⟩ := hcut
               cases kq with
               | zero => exact absurd HA.out (by simp [plnlaw5_DomWays.j3])
               | succ kj43 =>
                have H := HA.out
                clear HA
                simp only [plnlaw5_DomWays.j3] at H
                by_cases c54 : x66_43 = true
                ·subst c54
                 have H1 : (some false) = some r := by rw [if_pos rfl] at H; exact H
                 clear H; have H := H1; clear H1
                 obtain rfl := Option.some.inj H
                 go_wp2
                 go_ret
                 exact ⟨by first | rfl | (simp [errW_none, errW_some] <;> rfl) | (simp [*, errW_none, errW_some] <;> rfl), by repeat (first | (with_reducible first | exact HB.out | apply below_alloc | apply pw_below_drewN | apply below_drew1 | refine below_set ?_ GE509.out) | exact HB.out)⟩
                ·replace c54 := Bool.eq_false_iff.mpr c54
                 subst c54
                 have H1 : ((plnref3_Next.f kj43 a0_0 a0_1 l0_2 a0_3 l0_4 x6_2).bind fun t521 => (if (t521.length : Int) = 0 then (some true) else (if x7_2 = (l1.length : Int) then (some true) else (if 0 ≤ x7_2 then (if x7_2 < (l1.length : Int) then (if 0 ≤ (Int.tmod (Go.bits .and .i64 (rd l1 x7_2) 65535) (t521.length : Int)) then (if (Int.tmod (Go.bits .and .i64 (rd l1 x7_2) 65535) (t521.length : Int)) < (t521.length : Int) then (if 0 ≤ (rd t521 (Int.tmod (Go.bits .and .i64 (rd l1 x7_2) 65535) (t521.length : Int))) then (if (rd t521 (Int.tmod (Go.bits .and .i64 (rd l1 x7_2) 65535) (t521.length : Int))) < (x5_2.length : Int) then (plnlaw5_DomWays.l0 kj43 l1 (x5_2.set ((rd t521 (Int.tmod (Go.bits .and .i64 (rd l1 x7_2) 65535) (t521.length : Int))) : Int).toNat true) (rd t521 (Int.tmod (Go.bits .and .i64 (rd l1 x7_2) 65535) (t521.length : Int))) (wrap64 (x7_2 + 1)) a0_0 a0_1 l0_2 a0_3 l0_4) else (none)) else (none)) else (none)) else (none)) else (none)) else (none))))) = some r := by rw [if_neg (show ¬ (false = true) by decide)] at H; exact H
                 clear H; have H := H1; clear H1
                 replace H := Option.bind_eq_some_iff.mp H
                 obtain ⟨t521, A550, H⟩ := H
                 replace H : (if (t521.length : Int) = 0 then (some true) else (if x7_2 = (l1.length : Int) then (some true) else (if 0 ≤ x7_2 then (if x7_2 < (l1.length : Int) then (if 0 ≤ (Int.tmod (Go.bits .and .i64 (rd l1 x7_2) 65535) (t521.length : Int)) then (if (Int.tmod (Go.bits .and .i64 (rd l1 x7_2) 65535) (t521.length : Int)) < (t521.length : Int) then (if 0 ≤ (rd t521 (Int.tmod (Go.bits .and .i64 (rd l1 x7_2) 65535) (t521.length : Int))) then (if (rd t521 (Int.tmod (Go.bits .and .i64 (rd l1 x7_2) 65535) (t521.length : Int))) < (x5_2.length : Int) then (plnlaw5_DomWays.l0 kj43 l1 (x5_2.set ((rd t521 (Int.tmod (Go.bits .and .i64 (rd l1 x7_2) 65535) (t521.length : Int))) : Int).toNat true) (rd t521 (Int.tmod (Go.bits .and .i64 (rd l1 x7_2) 65535) (t521.length : Int))) (wrap64 (x7_2 + 1)) a0_0 a0_1 l0_2 a0_3 l0_4) else (none)) else (none)) else (none)) else (none)) else (none)) else (none)))) = some r := H
                 have A55 := Aside0.mk A550
                 clear A550
                 by_cases c56 : (t521.length : Int) = 0
                 ·rw [if_pos c56] at H
                  have c56b0 : ((t521.length : Int) == 0) = true := beq_iff_eq.mpr c56
                  have c56b1 : ((t521.length : Int) != 0) = false := bne_eq_false_iff_eq.mpr c56
                  clear c56
                  obtain rfl := Option.some.inj H
                  have hcz57_0 : wc.cell? ⟨gb509, 0, none⟩ = some (.string a0_0) := (blk_cell BK509.out 0).trans rfl
                  have hcz57_1 : wc.cell? ⟨gb509, 1, none⟩ = some (.bool a0_1) := (blk_cell BK509.out 1).trans rfl
                  have hcz57_2 : wc.cell? ⟨gb509, 2, none⟩ = some (.slice A0_2 l0_2.length c0_2) := (blk_cell BK509.out 2).trans rfl
                  have hcz57_3 : wc.cell? ⟨gb509, 3, none⟩ = some (.int .i64 a0_3) := (blk_cell BK509.out 3).trans rfl
                  have hcz57_4 : wc.cell? ⟨gb509, 4, none⟩ = some (.slice A0_4 l0_4.length c0_4) := (blk_cell BK509.out 4).trans rfl
                  have hfz57_0 := blk_frozen BK509.out 0
                  have hfz57_1 := blk_frozen BK509.out 1
                  have hfz57_2 := blk_frozen BK509.out 2
                  have hfz57_3 := blk_frozen BK509.out 3
                  have hfz57_4 := blk_frozen BK509.out 4
                  go_wp2_with (first | ((with_reducible refine gate_callee (f := 20) rfl ?_); refine goesL_ (some 69) rfl rfl Try.func20 (by kernel_rfl) rfl #[.agg #[.string a0_0, .bool a0_1, .slice A0_2 l0_2.length c0_2, .int .i64 a0_3, .slice A0_4 l0_4.length c0_4], .int .i64 x6_2] rfl (by (try simp only [List.map_toArray, List.map_cons, List.map_nil]); first | done | rfl | (simp only [List.length_drop, List.length_take]; rfl)) ?_; (with_reducible refine (plnref3_Next.calls kj43 a0_0 a0_1 _ _ l0_2 a0_3 _ _ l0_4 x6_2 t521 _ ?side1 ?side2 ?side3 ?side4 A55.out).mono ?_); (case side1 => repeat (first | exact (Kd.C_below HR0_2.out HB.out) | (with_reducible refine Kd.C_alloc ?_ _) | (with_reducible refine Kd.C_drewN ?_ _) | (with_reducible refine Kd.C_drew ?_))); (case side2 => exact HC0_2.out); (case side3 => repeat (first | exact (Kd.C_below HR0_4.out HB.out) | (with_reducible refine Kd.C_alloc ?_ _) | (with_reducible refine Kd.C_drewN ?_ _) | (with_reducible refine Kd.C_drew ?_))); (case side4 => exact HC0_4.out); rintro e w58 ⟨v522, rfl, ho0, hb⟩; refine ⟨_, rfl, ?_⟩; have n0_ := Aside0.mk (Kd.R_below (by (with_reducible repeat (first | apply Kd.R_alloc | apply Kd.R_drewN | apply Kd.R_drew)); exact HO_5.out) hb); have n1_ := Aside0.mk (Kd.R_lower ho0 (below_size (by repeat (first | (with_reducible first | exact HB.out | apply below_alloc | apply pw_below_drewN | apply below_drew1 | refine below_set ?_ GE509.out) | exact HB.out)))); have n2_ := Aside0.mk (blk_below (g := gb509) (o := .cells #[.string a0_0, .bool a0_1, .slice A0_2 l0_2.length c0_2, .int .i64 a0_3, .slice A0_4 l0_4.length c0_4] 25 (0, 0)) (by (with_reducible repeat (first | refine blk_drewN ?_ _ | refine blk_drew ?_ | refine blk_alloc ?_ _)); exact BK509.out) hb); have n3_ := Aside0.mk (below_step (by repeat (first | (with_reducible first | exact HB.out | apply below_alloc | apply pw_below_drewN | apply below_drew1 | refine below_set ?_ GE509.out) | exact HB.out)) hb); clear HO_5; clear BK509; clear HB; have HO_5 := n0_; have HO523 := n1_; have BK509 := n2_; have HB := n3_; clear n0_ n1_ n2_ n3_; (try clear hb); (try clear hb2); (try clear hk); (try clear hi); (try clear ho0); obtain ⟨Ao59, co59, eo59⟩ := Kd.R_slice HO523.out; subst eo59))
                  go_ret
                  exact ⟨by first | rfl | (simp [errW_none, errW_some] <;> rfl) | (simp [*, errW_none, errW_some] <;> rfl), by repeat (first | (with_reducible first | exact HB.out | apply below_alloc | apply pw_below_drewN | apply below_drew1 | refine below_set ?_ GE509.out) | exact HB.out)⟩
                 ·rw [if_neg c56] at H
                  have c56b0 : ((t521.length : Int) == 0) = false := beq_eq_false_iff_ne.mpr c56
                  have c56b1 : ((t521.length : Int) != 0) = true := bne_iff_ne.mpr c56
                  have c56b2 : ¬ (t521 = []) := fun h_ => c56 (by rw [h_]; rfl)
                  by_cases c60 : x7_2 = (l1.length : Int)
                  ·rw [if_pos c60] at H
                   have c60b0 : (x7_2 == (l1.length : Int)) = true := beq_iff_eq.mpr c60
                   have c60b1 : (x7_2 != (l1.length : Int)) = false := bne_eq_false_iff_eq.mpr c60
                   clear c60
                   obtain rfl := Option.some.inj H
                   have hcz61_0 : wc.cell? ⟨gb509, 0, none⟩ = some (.string a0_0) := (blk_cell BK509.out 0).trans rfl
                   have hcz61_1 : wc.cell? ⟨gb509, 1, none⟩ = some (.bool a0_1) := (blk_cell BK509.out 1).trans rfl
                   have hcz61_2 : wc.cell? ⟨gb509, 2, none⟩ = some (.slice A0_2 l0_2.length c0_2) := (blk_cell BK509.out 2).trans rfl
                   have hcz61_3 : wc.cell? ⟨gb509, 3, none⟩ = some (.int .i64 a0_3) := (blk_cell BK509.out 3).trans rfl
                   have hcz61_4 : wc.cell? ⟨gb509, 4, none⟩ = some (.slice A0_4 l0_4.length c0_4) := (blk_cell BK509.out 4).trans rfl
                   have hfz61_0 := blk_frozen BK509.out 0
                   have hfz61_1 := blk_frozen BK509.out 1
                   have hfz61_2 := blk_frozen BK509.out 2
                   have hfz61_3 := blk_frozen BK509.out 3
                   have hfz61_4 := blk_frozen BK509.out 4
                   go_wp2_with (first | ((with_reducible refine gate_callee (f := 20) rfl ?_); refine goesL_ (some 69) rfl rfl Try.func20 (by kernel_rfl) rfl #[.agg #[.string a0_0, .bool a0_1, .slice A0_2 l0_2.length c0_2, .int .i64 a0_3, .slice A0_4 l0_4.length c0_4], .int .i64 x6_2] rfl (by (try simp only [List.map_toArray, List.map_cons, List.map_nil]); first | done | rfl | (simp only [List.length_drop, List.length_take]; rfl)) ?_; (with_reducible refine (plnref3_Next.calls kj43 a0_0 a0_1 _ _ l0_2 a0_3 _ _ l0_4 x6_2 t521 _ ?side1 ?side2 ?side3 ?side4 A55.out).mono ?_); (case side1 => repeat (first | exact (Kd.C_below HR0_2.out HB.out) | (with_reducible refine Kd.C_alloc ?_ _) | (with_reducible refine Kd.C_drewN ?_ _) | (with_reducible refine Kd.C_drew ?_))); (case side2 => exact HC0_2.out); (case side3 => repeat (first | exact (Kd.C_below HR0_4.out HB.out) | (with_reducible refine Kd.C_alloc ?_ _) | (with_reducible refine Kd.C_drewN ?_ _) | (with_reducible refine Kd.C_drew ?_))); (case side4 => exact HC0_4.out); rintro e w62 ⟨v522, rfl, ho0, hb⟩; refine ⟨_, rfl, ?_⟩; have n0_ := Aside0.mk (Kd.R_below (by (with_reducible repeat (first | apply Kd.R_alloc | apply Kd.R_drewN | apply Kd.R_drew)); exact HO_5.out) hb); have n1_ := Aside0.mk (Kd.R_lower ho0 (below_size (by repeat (first | (with_reducible first | exact HB.out | apply below_alloc | apply pw_below_drewN | apply below_drew1 | refine below_set ?_ GE509.out) | exact HB.out)))); have n2_ := Aside0.mk (blk_below (g := gb509) (o := .cells #[.string a0_0, .bool a0_1, .slice A0_2 l0_2.length c0_2, .int .i64 a0_3, .slice A0_4 l0_4.length c0_4] 25 (0, 0)) (by (with_reducible repeat (first | refine blk_drewN ?_ _ | refine blk_drew ?_ | refine blk_alloc ?_ _)); exact BK509.out) hb); have n3_ := Aside0.mk (below_step (by repeat (first | (with_reducible first | exact HB.out | apply below_alloc | apply pw_below_drewN | apply below_drew1 | refine below_set ?_ GE509.out) | exact HB.out)) hb); clear HO_5; clear BK509; clear HB; have HO_5 := n0_; have HO523 := n1_; have BK509 := n2_; have HB := n3_; clear n0_ n1_ n2_ n3_; (try clear hb); (try clear hb2); (try clear hk); (try clear hi); (try clear ho0); obtain ⟨Ao63, co63, eo63⟩ := Kd.R_slice HO523.out; subst eo63))
                   go_ret
                   exact ⟨by first | rfl | (simp [errW_none, errW_some] <;> rfl) | (simp [*, errW_none, errW_some] <;> rfl), by repeat (first | (with_reducible first | exact HB.out | apply below_alloc | apply pw_below_drewN | apply below_drew1 | refine below_set ?_ GE509.out) | exact HB.out)⟩
                  ·rw [if_neg c60] at H
                   have c60b0 : (x7_2 == (l1.length : Int)) = false := beq_eq_false_iff_ne.mpr c60
                   have c60b1 : (x7_2 != (l1.length : Int)) = true := bne_iff_ne.mpr c60
                   by_cases c64 : 0 ≤ x7_2
                   ·rw [if_pos c64] at H
                    have c64b0 : decide (0 ≤ x7_2) = true := decide_eq_true c64
                    clear c64
                    by_cases c65 : x7_2 < (l1.length : Int)
                    ·rw [if_pos c65] at H
                     have c65b0 : decide (x7_2 < (l1.length : Int)) = true := decide_eq_true c65
                     clear c65
                     obtain ⟨ji66, hji66⟩ : ∃ j_ : Int, (Int.tmod (Go.bits .and .i64 (rd l1 x7_2) 65535) (t521.length : Int)) = j_ := ⟨_, rfl⟩
                     replace H : (if 0 ≤ (ji66) then (if (ji66) < (t521.length : Int) then (if 0 ≤ (rd t521 (ji66)) then (if (rd t521 (ji66)) < (x5_2.length : Int) then (plnlaw5_DomWays.l0 kj43 l1 (x5_2.set ((rd t521 (ji66)) : Int).toNat true) (rd t521 (ji66)) (wrap64 (x7_2 + 1)) a0_0 a0_1 l0_2 a0_3 l0_4) else (none)) else (none)) else (none)) else (none)) = some r := by first | (rw [hji66] at H; exact H) | (simp only [hji66] at H ⊢; exact H)
                     (try rw [hji66] at A55)
                     by_cases c67 : 0 ≤ (ji66)
                     ·rw [if_pos c67] at H
                      have c67b0 : decide (0 ≤ (ji66)) = true := decide_eq_true c67
                      clear c67
                      by_cases c68 : (ji66) < (t521.length : Int)
                      ·rw [if_pos c68] at H
                       have c68b0 : decide ((ji66) < (t521.length : Int)) = true := decide_eq_true c68
                       clear c68
                       by_cases c69 : 0 ≤ (rd t521 (ji66))
                       ·rw [if_pos c69] at H
                        have c69b0 : decide (0 ≤ (rd t521 (ji66))) = true := decide_eq_true c69
                        clear c69
                        by_cases c70 : (rd t521 (ji66)) < (x5_2.length : Int)
                        ·rw [if_pos c70] at H
                         have c70b0 : decide ((rd t521 (ji66)) < (x5_2.length : Int)) = true := decide_eq_true c70
                         clear c70
                         obtain ⟨y526, hy526⟩ : ∃ y_ : List Bool, y_ = (x5_2.set ((rd t521 (ji66)) : Int).toNat true) := ⟨_, rfl⟩
                         replace H : (plnlaw5_DomWays.l0 kj43 l1 y526 (rd t521 (ji66)) (wrap64 (x7_2 + 1)) a0_0 a0_1 l0_2 a0_3 l0_4) = some r := by first | (rw [hy526]; with_reducible exact H) | (have H2_ := (Option.bind_some _ _).symm.trans H; rw [hy526]; with_reducible exact H2_) | (have H2_ := (Option.bind_some _ _).symm.trans H; with_reducible exact H2_) | with_reducible exact H | (rw [hy526]; exact H) | exact H
                         have Ny526 := Aside0.mk hy526
                         clear hy526
                         have H' := Aside0.mk H
                         clear H
                         have hcz72_0 : wc.cell? ⟨gb509, 0, none⟩ = some (.string a0_0) := (blk_cell BK509.out 0).trans rfl
                         have hcz72_1 : wc.cell? ⟨gb509, 1, none⟩ = some (.bool a0_1) := (blk_cell BK509.out 1).trans rfl
                         have hcz72_2 : wc.cell? ⟨gb509, 2, none⟩ = some (.slice A0_2 l0_2.length c0_2) := (blk_cell BK509.out 2).trans rfl
                         have hcz72_3 : wc.cell? ⟨gb509, 3, none⟩ = some (.int .i64 a0_3) := (blk_cell BK509.out 3).trans rfl
                         have hcz72_4 : wc.cell? ⟨gb509, 4, none⟩ = some (.slice A0_4 l0_4.length c0_4) := (blk_cell BK509.out 4).trans rfl
                         have hfz72_0 := blk_frozen BK509.out 0
                         have hfz72_1 := blk_frozen BK509.out 1
                         have hfz72_2 := blk_frozen BK509.out 2
                         have hfz72_3 := blk_frozen BK509.out 3
                         have hfz72_4 := blk_frozen BK509.out 4
                         go_wp2_with (first | ((with_reducible refine gate_callee (f := 20) rfl ?_); refine goesL_ (some 69) rfl rfl Try.func20 (by kernel_rfl) rfl #[.agg #[.string a0_0, .bool a0_1, .slice A0_2 l0_2.length c0_2, .int .i64 a0_3, .slice A0_4 l0_4.length c0_4], .int .i64 x6_2] rfl (by (try simp only [List.map_toArray, List.map_cons, List.map_nil]); first | done | rfl | (simp only [List.length_drop, List.length_take]; rfl)) ?_; (with_reducible refine (plnref3_Next.calls kj43 a0_0 a0_1 _ _ l0_2 a0_3 _ _ l0_4 x6_2 t521 _ ?side1 ?side2 ?side3 ?side4 A55.out).mono ?_); (case side1 => repeat (first | exact (Kd.C_below HR0_2.out HB.out) | (with_reducible refine Kd.C_alloc ?_ _) | (with_reducible refine Kd.C_drewN ?_ _) | (with_reducible refine Kd.C_drew ?_))); (case side2 => exact HC0_2.out); (case side3 => repeat (first | exact (Kd.C_below HR0_4.out HB.out) | (with_reducible refine Kd.C_alloc ?_ _) | (with_reducible refine Kd.C_drewN ?_ _) | (with_reducible refine Kd.C_drew ?_))); (case side4 => exact HC0_4.out); rintro e w73 ⟨v522, rfl, ho0, hb⟩; refine ⟨_, rfl, ?_⟩; have n0_ := Aside0.mk (Kd.R_below (by (with_reducible repeat (first | apply Kd.R_alloc | apply Kd.R_drewN | apply Kd.R_drew)); exact HO_5.out) hb); have n1_ := Aside0.mk (Kd.R_lower ho0 (below_size (by repeat (first | (with_reducible first | exact HB.out | apply below_alloc | apply pw_below_drewN | apply below_drew1 | refine below_set ?_ GE509.out) | exact HB.out)))); have n2_ := Aside0.mk (blk_below (g := gb509) (o := .cells #[.string a0_0, .bool a0_1, .slice A0_2 l0_2.length c0_2, .int .i64 a0_3, .slice A0_4 l0_4.length c0_4] 25 (0, 0)) (by (with_reducible repeat (first | refine blk_drewN ?_ _ | refine blk_drew ?_ | refine blk_alloc ?_ _)); exact BK509.out) hb); have n3_ := Aside0.mk (below_step (by repeat (first | (with_reducible first | exact HB.out | apply below_alloc | apply pw_below_drewN | apply below_drew1 | refine below_set ?_ GE509.out) | exact HB.out)) hb); clear HO_5; clear BK509; clear HB; have HO_5 := n0_; have HO523 := n1_; have BK509 := n2_; have HB := n3_; clear n0_ n1_ n2_ n3_; (try clear hb); (try clear hb2); (try clear hk); (try clear hi); (try clear ho0); obtain ⟨Ao74, co74, eo74⟩ := Kd.R_slice HO523.out; subst eo74; have p524 : 0 ≤ (x7_2 : Int) := of_decide_eq_true (by first | (with_reducible assumption) | assumption); have q524 : x7_2 < (l1.length : Int) := of_decide_eq_true (by first | (with_reducible assumption) | assumption); obtain ⟨ad524, e524, hx524_0⟩ := Kd.at_int HR1.out x7_2 p524 q524; cases e524; replace hx524_0 := (HB.out.cell (World.block_lt_of_cell? w _ hx524_0)).trans hx524_0; replace p524 := eq_true p524; replace q524 := eq_true q524; have p525 : 0 ≤ ((ji66) : Int) := of_decide_eq_true (by first | (with_reducible assumption) | assumption); have q525 : (ji66) < (t521.length : Int) := of_decide_eq_true (by first | (with_reducible assumption) | assumption); obtain ⟨ad525, e525, hx525_0⟩ := Kd.at_int (Kd.R_reads' HO523.out).2.2 (ji66) p525 q525; cases e525; replace p525 := eq_true p525; replace q525 := eq_true q525; have p71 : 0 ≤ ((rd t521 (ji66)) : Int) := of_decide_eq_true (by first | (with_reducible assumption) | assumption); have q71 : ((rd t521 (ji66)) : Int) < ((x5_2.length : Int) : Int) := of_decide_eq_true (by first | (with_reducible assumption) | assumption); obtain ⟨hx71_0, hf71_0⟩ := Kd.R_celln false HO_5.out ((rd t521 (ji66)) : Int) p71 q71; replace p71 := eq_true p71; replace q71 := eq_true q71; obtain ⟨hy75_, hz75_⟩ := Kd.R_celln false HO_5.out ((rd t521 (ji66)) : Int) (of_decide_eq_true (by first | (with_reducible assumption) | assumption)) (of_decide_eq_true (by first | (with_reducible assumption) | assumption)); have HP75 := Kd.R_putg HO_5.out ((rd t521 (ji66)) : Int) true) | ((with_reducible refine gate_store (t := 4) (p := 92) rfl ?_); refine store_event (t := 4) (p := 92) (v := ?vo_w76) (w1 := (w73.setCell ⟨go25, ((rd t521 (ji66)) : Int).toNat, none⟩ (.bool true))) ?hg ?ho ?hn ?hr ?_; (case ho => rfl); (case hg => rfl); (case hn => rfl); (case hr => first | (go_simp; done) | (go_simp; rfl)); intro w76 hw; have hg : w73.grownBy w76 (some go25) := (by rw [hw]; exact HP75.2); have hp_ : Kd.R Kd.bool 4 w76 w.heap.size (fun _ => True) (.slice (some ⟨go25, 0, none⟩) x5_2.length co25) y526 := (by rw [hw, Ny526.out]; exact HP75.1); clear HP75; have n0_ := Aside0.mk (hp_); have n1_ := Aside0.mk (blk_grown (g := gb509) (o := .cells #[.string a0_0, .bool a0_1, .slice A0_2 l0_2.length c0_2, .int .i64 a0_3, .slice A0_4 l0_4.length c0_4] 25 (0, 0)) (by (with_reducible repeat (first | refine blk_drewN ?_ _ | refine blk_drew ?_ | refine blk_alloc ?_ _)); exact BK509.out) hg (Kd.R_ne HO_5.out BK509.out (by decide))); have n2_ := Aside0.mk (Kd.R_over' (v := (.slice (some ⟨go25, 0, none⟩) x5_2.length co25)) (by (with_reducible repeat (first | apply Kd.R_alloc | apply Kd.R_drewN | apply Kd.R_drew)); exact HO523.out) (Kd.R_typed HO_5.out) (by decide) hg); have n3_ := Aside0.mk ((by rw [hw]; exact below_set (HB.out) GB25.out : Below w.heap.size w w76)); clear HO_5; clear BK509; clear HO523; clear HB; have HO_5 := n0_; have BK509 := n1_; have HO523 := n2_; have HB := n3_; clear n0_ n1_ n2_ n3_; clear hg hw hp_))
                         (try simp only [← hl5_2])
                         go_roundg kj43
                         case measure => have := HJ4.out; have := HK2.out; have := HK3.out; have := HJ43.out; omega
                         case rel => exact ⟨(y526), (rd t521 (ji66)), (wrap64 (x7_2 + 1)), (by first | rfl | (simp; done) | (simp only [← hji66] <;> (first | rfl | simp)) | (simp [*]; done)), (by first | rfl | (simp; done) | (simp [*]; done)), H', ⟨by have := HJ4.out; have := HK2.out; have := HK3.out; have := HJ43.out; omega⟩, ⟨by (try simp only [hl5_2]); (with_reducible repeat (first | apply Kd.R_alloc | apply Kd.R_drewN | apply Kd.R_drew)); exact HO_5.out⟩, ⟨by (try simp only [hl5_2]); (with_reducible repeat (first | refine blk_drewN ?_ _ | refine blk_drew ?_ | refine blk_alloc ?_ _)); exact BK509.out⟩, ⟨by repeat (first | (with_reducible first | exact HB.out | apply below_alloc | apply pw_below_drewN | apply below_drew1 | refine below_set ?_ GE509.out) | exact HB.out)⟩⟩
                        ·rw [if_neg c70] at H
                         exact absurd H (by simp)
                       ·rw [if_neg c69] at H
                        exact absurd H (by simp)
                      ·rw [if_neg c68] at H
                       exact absurd H (by simp)
                     ·rw [if_neg c67] at H
                      exact absurd H (by simp)
                    ·rw [if_neg c65] at H
                     exact absurd H (by simp)
                   ·rw [if_neg c64] at H
                    exact absurd H (by simp)
          ·rw [if_neg c31] at H
           have c31b0 : decide (x7_2 ≤ (l1.length : Int)) = false := decide_eq_false c31
           clear c31
           obtain rfl := Option.some.inj H
           go_wp2
           go_ret
           exact ⟨by first | rfl | (simp [errW_none, errW_some] <;> rfl) | (simp [*, errW_none, errW_some] <;> rfl), by repeat (first | (with_reducible first | exact HB.out | apply below_alloc | apply pw_below_drewN | apply below_drew1 | refine below_set ?_ GE509.out) | exact HB.out)⟩
       ·rw [if_neg c24] at H
        exact absurd H (by simp)
      ·rw [if_neg c23] at H
       exact absurd H (by simp)
     ·rw [if_neg c22] at H
      exact absurd H (by simp)
 ·replace c4 := Bool.eq_false_iff.mpr c4
  subst c4
  have H1 : (some false) = some r := by rw [if_neg (show ¬ (false = true) by decide)] at H; exact H
  clear H; have H := H1; clear H1
  obtain rfl := Option.some.inj H
  go_enter Try.func6, Try.ntmps6
  go_wp2_with (first | ((with_reducible refine gate_dst (N := 2) rfl ?_); (try (refine gate_guard (by rfl) ?_; dsimp only)); refine box_event ?hg (N := 2) ?hd (cs := #[.string a0_0, .bool a0_1, .slice A0_2 l0_2.length c0_2, .int .i64 a0_3, .slice A0_4 l0_4.length c0_4]) (t := 25) ?hr ?_; (case hd => rfl); (case hg => rfl); (case hr => first | (go_simp; done) | (go_simp; rfl)); intro gb509 hg w77 hbox hb; have n0_ := Aside0.mk (below_step (by repeat (first | (with_reducible first | exact HB.out | apply below_alloc | apply pw_below_drewN | apply below_drew1) | exact HB.out)) hb); have n1_ := Aside0.mk (hbox); have n2_ := Aside0.mk ((by rw [hg]; exact (below_size (by repeat (first | (with_reducible first | exact HB.out | apply below_alloc | apply pw_below_drewN | apply below_drew1) | exact HB.out))) : w.heap.size ≤ gb509)); have n3_ := Aside0.mk ((by rw [hg]; exact (below_size (by repeat (first | (with_reducible first | exact HB.out | apply below_alloc | apply pw_below_drewN | apply below_drew1) | exact HB.out))) : w.heap.size ≤ gb509)); clear HB; have HB := n0_; have BK509 := n1_; have GW509 := n2_; have GE509 := n3_; clear n0_ n1_ n2_ n3_; clear hb hbox hg) | ((with_reducible refine gate_callee (f := 32) rfl ?_); refine goesL_ (some 10) rfl rfl Try.func32 (by kernel_rfl) rfl #[] rfl (by (try simp only [List.map_toArray, List.map_cons, List.map_nil]); first | done | rfl | (simp only [List.length_drop, List.length_take]; rfl)) ?_; (with_reducible refine (plnlaw5_first.calls k  false _ A3.out).mono ?_); rintro e w78 ⟨rfl, hb⟩; refine ⟨_, rfl, ?_⟩; have n0_ := Aside0.mk (blk_below (g := gb509) (o := .cells #[.string a0_0, .bool a0_1, .slice A0_2 l0_2.length c0_2, .int .i64 a0_3, .slice A0_4 l0_4.length c0_4] 25 (0, 0)) (by (with_reducible repeat (first | refine blk_drewN ?_ _ | refine blk_drew ?_ | refine blk_alloc ?_ _)); exact BK509.out) hb); have n1_ := Aside0.mk (below_step (by repeat (first | (with_reducible first | exact HB.out | apply below_alloc | apply pw_below_drewN | apply below_drew1 | refine below_set ?_ GE509.out) | exact HB.out)) hb); clear BK509; clear HB; have BK509 := n0_; have HB := n1_; clear n0_ n1_; (try clear hb); (try clear hb2); (try clear hk); (try clear hi)))
  go_ret
  exact ⟨by first | rfl | (simp [errW_none, errW_some] <;> rfl) | (simp [*, errW_none, errW_some] <;> rfl), by repeat (first | (with_reducible first | exact HB.out | apply below_alloc | apply pw_below_drewN | apply below_drew1 | refine below_set ?_ GE509.out) | exact HB.out)⟩
def plnlaw5_DomWays.Pure : Prop := ∀ (a0_0 : ByteArray) (a0_1 : Bool) (l0_2 : List Int) (a0_3 : Int) (l0_4 : List (S54)) (l1 : List Int), B25 (⟨a0_0, a0_1, l0_2, a0_3, l0_4⟩ : S25) → (l1.length * 8 ≤ 140737488351232 ∧ ∀ x_ ∈ l1, (Lit.int .i64 x_).wf = true) → ∃ k, plnlaw5_DomWays.f k a0_0 a0_1 l0_2 a0_3 l0_4 l1 = some true
theorem plnlaw5_DomWays.walk (P : plnlaw5_DomWays.Pure) (a0_0 : ByteArray) (a0_1 : Bool) (A0_2 : Option Addr) (c0_2 : Nat) (l0_2 : List Int) (a0_3 : Int) (A0_4 : Option Addr) (c0_4 : Nat) (l0_4 : List (S54)) (A1 : Option Addr) (c1 : Nat) (l1 : List Int) (w : World) (hr0_2 : Kd.C (Kd.int .i64) w A0_2 l0_2.length l0_2) (hc0_2 : l0_2.length ≤ c0_2) (hr0_4 : Kd.C k54 w A0_4 l0_4.length l0_4) (hc0_4 : l0_4.length ≤ c0_4) (hr1 : Kd.C (Kd.int .i64) w A1 l1.length l1) (hc1 : l1.length ≤ c1) (hb0 : B25 (⟨a0_0, a0_1, l0_2, a0_3, l0_4⟩ : S25)) (hb1 : (l1.length * 8 ≤ 140737488351232 ∧ ∀ x_ ∈ l1, (Lit.int .i64 x_).wf = true)) :
  Calls Try.prog 6 #[.agg #[.string a0_0, .bool a0_1, .slice A0_2 l0_2.length c0_2, .int .i64 a0_3, .slice A0_4 l0_4.length c0_4], .slice A1 l1.length c1] w fun e w' => e = .returned (.bool true) ∧ Below w.heap.size w w' := by
 obtain ⟨k, h⟩ := P a0_0 a0_1 l0_2 a0_3 l0_4 l1 hb0 hb1
 refine (plnlaw5_DomWays.calls k a0_0 a0_1 _ _ l0_2 a0_3 _ _ l0_4 _ _ l1 true w hr0_2 hc0_2 hr0_4 hc0_4 hr1 hc1 h).mono ?_
 rintro e w' ⟨rfl, hd⟩
 exact ⟨rfl, hd⟩
end Go.Proofs.Ytkcimaibaicdcaa.P
