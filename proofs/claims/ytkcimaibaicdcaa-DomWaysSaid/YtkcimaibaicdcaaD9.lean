/- A part of the proof of the law of DomWays: lemmas and walks, out of this session's texts, with what the claim does not use struck out. -/
import Derived.Test.YtkcimaibaicdcaaD6
import Derived.Test.YtkcimaibaicdcaaD7
import Derived.Test.YtkcimaibaicdcaaD8
namespace Go.Proofs.Ytkcimaibaicdcaa.P
open Go.RowKit Go.Proofs.YtkcimaibaicdcaaW.PrintWords Go.Proofs.YtkcimaibaicdcaaW.PrintLast Go.Proofs.YtkcimaibaicdcaaW.PrintMore
attribute [local go_sem] max2_int min2_int max_two min_two max_three min_three max_four min_four   
set_option linter.unusedVariables false
set_option linter.unusedSimpArgs false
mutual
def plnref3_Next.j0 : Nat → Bool → ByteArray → Bool → List Int → Int → List (S54) → Int → Int → Int → Int → Int → List Int → List Int → Option (List Int)
 | 0, _, _, _, _, _, _, _, _, _, _, _, _, _ => none
 | k + 1, x27, x177000, x177001, x177002, x177003, x177004, x190000, x190001, x190002, x190003, x190004, x190005, x190006 => if x27 = true then (some ([] : List Int)) else (plnref3_Next.l0 k ([] : List Int) 0 x177000 x177001 x177002 x177003 x177004 x190000 x190001 x190002 x190003 x190004 x190005 x190006)
def plnref3_Next.l0 : Nat → List Int → Int → ByteArray → Bool → List Int → Int → List (S54) → Int → Int → Int → Int → Int → List Int → List Int → Option (List Int)
 | 0, _, _, _, _, _, _, _, _, _, _, _, _, _, _ => none
 | k + 1, x7, x8, x177000, x177001, x177002, x177003, x177004, x190000, x190001, x190002, x190003, x190004, x190005, x190006 => if x8 < (x190006.length : Int) then (if 0 ≤ x8 then (if (rd x190006 x8) ≥ 0 then (if (rd x190006 x8) < (x177004.length : Int) then ((plnref3_In.f k x7 (rd x190006 x8)).bind fun t191 => (if t191 = true then (plnref3_Next.l0 k x7 (wrap64 (x8 + 1)) x177000 x177001 x177002 x177003 x177004 x190000 x190001 x190002 x190003 x190004 x190005 x190006) else (if x7.length < 17592186044416 then (plnref3_Next.l0 k (x7 ++ [rd x190006 x8]) (wrap64 (x8 + 1)) x177000 x177001 x177002 x177003 x177004 x190000 x190001 x190002 x190003 x190004 x190005 x190006) else (none)))) else (plnref3_Next.l0 k x7 (wrap64 (x8 + 1)) x177000 x177001 x177002 x177003 x177004 x190000 x190001 x190002 x190003 x190004 x190005 x190006)) else (plnref3_Next.l0 k x7 (wrap64 (x8 + 1)) x177000 x177001 x177002 x177003 x177004 x190000 x190001 x190002 x190003 x190004 x190005 x190006)) else (none)) else (some x7)
end
def plnref3_Next.f (k : Nat) (a0_0 : ByteArray) (a0_1 : Bool) (l0_2 : List Int) (a0_3 : Int) (l0_4 : List (S54)) (a1 : Int) : Option (List Int) := (plnref3_Last.f a0_0 a0_1 l0_2 a0_3 l0_4 a1).bind fun bt177 => (if bt177.2.2.2.2.2.2.2 = true then (if bt177.1 = 27 then (plnref3_Next.j0 k false a0_0 a0_1 l0_2 a0_3 l0_4 bt177.1 bt177.2.1 bt177.2.2.1 bt177.2.2.2.1 bt177.2.2.2.2.1 bt177.2.2.2.2.2.1 bt177.2.2.2.2.2.2.1) else (plnref3_Next.j0 k (bt177.1 != 28) a0_0 a0_1 l0_2 a0_3 l0_4 bt177.1 bt177.2.1 bt177.2.2.1 bt177.2.2.2.1 bt177.2.2.2.2.1 bt177.2.2.2.2.2.1 bt177.2.2.2.2.2.2.1)) else (plnref3_Next.j0 k true a0_0 a0_1 l0_2 a0_3 l0_4 bt177.1 bt177.2.1 bt177.2.2.1 bt177.2.2.2.1 bt177.2.2.2.2.1 bt177.2.2.2.2.2.1 bt177.2.2.2.2.2.2.1))
theorem plnref3_Next.mono_l : ∀ k, (∀ y0 y1 y2 y3 y4 y5 y6 y7 y8 y9 y10 y11 y12, LeO (plnref3_Next.j0 k y0 y1 y2 y3 y4 y5 y6 y7 y8 y9 y10 y11 y12) (plnref3_Next.j0 (k + 1) y0 y1 y2 y3 y4 y5 y6 y7 y8 y9 y10 y11 y12)) ∧ (∀ y0 y1 y2 y3 y4 y5 y6 y7 y8 y9 y10 y11 y12 y13, LeO (plnref3_Next.l0 k y0 y1 y2 y3 y4 y5 y6 y7 y8 y9 y10 y11 y12 y13) (plnref3_Next.l0 (k + 1) y0 y1 y2 y3 y4 y5 y6 y7 y8 y9 y10 y11 y12 y13))
 | 0 => ⟨fun _ _ _ _ _ _ _ _ _ _ _ _ _ r h => by simp [plnref3_Next.j0] at h, fun _ _ _ _ _ _ _ _ _ _ _ _ _ _ r h => by simp [plnref3_Next.l0] at h⟩
 | k + 1 => by
  obtain ⟨ih0, ih1⟩ := plnref3_Next.mono_l k
  refine ⟨?_, ?_⟩
  ·intro y0 y1 y2 y3 y4 y5 y6 y7 y8 y9 y10 y11 y12
   unfold plnref3_Next.j0
   repeat' first
   | (with_reducible exact ih0 _ _ _ _ _ _ _ _ _ _ _ _ _)
   | (with_reducible exact ih1 _ _ _ _ _ _ _ _ _ _ _ _ _ _)
   | (with_reducible exact plnref3_In.mono _ _ _)
   | (with_reducible exact LeO.refl _)
   | (with_reducible exact LeO.none _)
   | (with_reducible refine LeO.ite ?_ ?_)
   | (with_reducible refine LeO.bind ?_ (fun _ => ?_))
   | exact ih0 _ _ _ _ _ _ _ _ _ _ _ _ _
   | exact ih1 _ _ _ _ _ _ _ _ _ _ _ _ _ _
   | exact plnref3_In.mono _ _ _
   | exact LeO.none _
   | refine LeO.ite ?_ ?_
   | refine LeO.bind ?_ (fun _ => ?_)
  ·intro y0 y1 y2 y3 y4 y5 y6 y7 y8 y9 y10 y11 y12 y13
   unfold plnref3_Next.l0
   repeat' first
   | (with_reducible exact ih0 _ _ _ _ _ _ _ _ _ _ _ _ _)
   | (with_reducible exact ih1 _ _ _ _ _ _ _ _ _ _ _ _ _ _)
   | (with_reducible exact plnref3_In.mono _ _ _)
   | (with_reducible exact LeO.refl _)
   | (with_reducible exact LeO.none _)
   | (with_reducible refine LeO.ite ?_ ?_)
   | (with_reducible refine LeO.bind ?_ (fun _ => ?_))
   | exact ih0 _ _ _ _ _ _ _ _ _ _ _ _ _
   | exact ih1 _ _ _ _ _ _ _ _ _ _ _ _ _ _
   | exact plnref3_In.mono _ _ _
   | exact LeO.none _
   | refine LeO.ite ?_ ?_
   | refine LeO.bind ?_ (fun _ => ?_)
theorem plnref3_Next.mono : ∀ a0 a1 a2 a3 a4 a5 k, LeO (plnref3_Next.f k a0 a1 a2 a3 a4 a5) (plnref3_Next.f (k + 1) a0 a1 a2 a3 a4 a5) := by
 intro a0 a1 a2 a3 a4 a5 k
 obtain ⟨ih0, ih1⟩ := plnref3_Next.mono_l k
 unfold plnref3_Next.f
 repeat' first
   | (with_reducible exact ih0 _ _ _ _ _ _ _ _ _ _ _ _ _)
   | (with_reducible exact ih1 _ _ _ _ _ _ _ _ _ _ _ _ _ _)
   | (with_reducible exact plnref3_In.mono _ _ _)
   | (with_reducible exact LeO.refl _)
   | (with_reducible exact LeO.none _)
   | (with_reducible refine LeO.ite ?_ ?_)
   | (with_reducible refine LeO.bind ?_ (fun _ => ?_))
   | exact ih0 _ _ _ _ _ _ _ _ _ _ _ _ _
   | exact ih1 _ _ _ _ _ _ _ _ _ _ _ _ _ _
   | exact plnref3_In.mono _ _ _
   | exact LeO.none _
   | refine LeO.ite ?_ ?_
   | refine LeO.bind ?_ (fun _ => ?_)
set_option maxHeartbeats 8000000 in
set_option maxRecDepth 100000 in
theorem plnref3_Next.calls (k : Nat) (a0_0 : ByteArray) (a0_1 : Bool) (A0_2 : Option Addr) (c0_2 : Nat) (l0_2 : List Int) (a0_3 : Int) (A0_4 : Option Addr) (c0_4 : Nat) (l0_4 : List (S54)) (a1 : Int) (r : List Int) (w : World) (hr0_2 : Kd.C (Kd.int .i64) w A0_2 l0_2.length l0_2) (hc0_2 : l0_2.length ≤ c0_2) (hr0_4 : Kd.C k54 w A0_4 l0_4.length l0_4) (hc0_4 : l0_4.length ≤ c0_4) (h : plnref3_Next.f k a0_0 a0_1 l0_2 a0_3 l0_4 a1 = some r) :
  Calls Try.prog 20 #[.agg #[.string a0_0, .bool a0_1, .slice A0_2 l0_2.length c0_2, .int .i64 a0_3, .slice A0_4 l0_4.length c0_4], .int .i64 a1] w fun e w' => ∃ v0_ : Value, e = .returned (v0_) ∧ Kd.R (Kd.int .i64) 3 w' w.heap.size (fun _ => True) v0_ r ∧ Below w.heap.size w w' := by
 have hu25 := Try.underlying25
 have hu56 := Try.underlying56
 have HR0_2 := Aside0.mk hr0_2
 have HC0_2 := Aside0.mk hc0_2
 clear hr0_2 hc0_2
 have HR0_4 := Aside0.mk hr0_4
 have HC0_4 := Aside0.mk hc0_4
 clear hr0_4 hc0_4; have HB := Aside0.mk (Below.refl w.heap.size w)
 have H : ((plnref3_Last.f a0_0 a0_1 l0_2 a0_3 l0_4 a1).bind fun bt177 => (if bt177.2.2.2.2.2.2.2 = true then (if bt177.1 = 27 then (plnref3_Next.j0 k false a0_0 a0_1 l0_2 a0_3 l0_4 bt177.1 bt177.2.1 bt177.2.2.1 bt177.2.2.2.1 bt177.2.2.2.2.1 bt177.2.2.2.2.2.1 bt177.2.2.2.2.2.2.1) else (plnref3_Next.j0 k (bt177.1 != 28) a0_0 a0_1 l0_2 a0_3 l0_4 bt177.1 bt177.2.1 bt177.2.2.1 bt177.2.2.2.1 bt177.2.2.2.2.1 bt177.2.2.2.2.2.1 bt177.2.2.2.2.2.2.1)) else (plnref3_Next.j0 k true a0_0 a0_1 l0_2 a0_3 l0_4 bt177.1 bt177.2.1 bt177.2.2.1 bt177.2.2.2.1 bt177.2.2.2.2.1 bt177.2.2.2.2.2.1 bt177.2.2.2.2.2.2.1))) = some r := h
 clear h
 replace H := Option.bind_eq_some_iff.mp H
 obtain ⟨⟨t177, t178, t179, t180, t181, t182, t185, t188⟩, A30, H⟩ := H
 replace H : (if t188 = true then (if t177 = 27 then (plnref3_Next.j0 k false a0_0 a0_1 l0_2 a0_3 l0_4 t177 t178 t179 t180 t181 t182 t185) else (plnref3_Next.j0 k (t177 != 28) a0_0 a0_1 l0_2 a0_3 l0_4 t177 t178 t179 t180 t181 t182 t185)) else (plnref3_Next.j0 k true a0_0 a0_1 l0_2 a0_3 l0_4 t177 t178 t179 t180 t181 t182 t185)) = some r := H
 have A3 := Aside0.mk A30
 clear A30
 have HC4 := Aside0.mk H
 clear H
 go_enter Try.func20, Try.ntmps20
 go_upto_region 2 with (first | ((with_reducible refine gate_dst (N := 2) rfl ?_); (try (refine gate_guard (by rfl) ?_; dsimp only)); refine box_event ?hg (N := 2) ?hd (cs := #[.string a0_0, .bool a0_1, .slice A0_2 l0_2.length c0_2, .int .i64 a0_3, .slice A0_4 l0_4.length c0_4]) (t := 25) ?hr ?_; (case hd => rfl); (case hg => rfl); (case hr => first | (go_simp; done) | (go_simp; rfl)); intro gb176 hg w5 hbox hb; have n0_ := Aside0.mk (below_step (by repeat (first | (with_reducible first | exact HB.out | apply below_alloc | apply pw_below_drewN | apply below_drew1) | exact HB.out)) hb); have n1_ := Aside0.mk (hbox); have n2_ := Aside0.mk ((by rw [hg]; exact (below_size (by repeat (first | (with_reducible first | exact HB.out | apply below_alloc | apply pw_below_drewN | apply below_drew1) | exact HB.out))) : w.heap.size ≤ gb176)); have n3_ := Aside0.mk ((by rw [hg]; exact (below_size (by repeat (first | (with_reducible first | exact HB.out | apply below_alloc | apply pw_below_drewN | apply below_drew1) | exact HB.out))) : w.heap.size ≤ gb176)); clear HB; have HB := n0_; have BK176 := n1_; have GW176 := n2_; have GE176 := n3_; clear n0_ n1_ n2_ n3_; clear hb hbox hg; have hcz6_0 : w5.cell? ⟨gb176, 0, none⟩ = some (.string a0_0) := (blk_cell BK176.out 0).trans rfl; have hcz6_1 : w5.cell? ⟨gb176, 1, none⟩ = some (.bool a0_1) := (blk_cell BK176.out 1).trans rfl; have hcz6_2 : w5.cell? ⟨gb176, 2, none⟩ = some (.slice A0_2 l0_2.length c0_2) := (blk_cell BK176.out 2).trans rfl; have hcz6_3 : w5.cell? ⟨gb176, 3, none⟩ = some (.int .i64 a0_3) := (blk_cell BK176.out 3).trans rfl; have hcz6_4 : w5.cell? ⟨gb176, 4, none⟩ = some (.slice A0_4 l0_4.length c0_4) := (blk_cell BK176.out 4).trans rfl; have hfz6_0 := blk_frozen BK176.out 0; have hfz6_1 := blk_frozen BK176.out 1; have hfz6_2 := blk_frozen BK176.out 2; have hfz6_3 := blk_frozen BK176.out 3; have hfz6_4 := blk_frozen BK176.out 4) | ((with_reducible refine gate_callee (f := 63) rfl ?_); refine goesL_ (some 13) rfl rfl Try.func63 (by kernel_rfl) rfl #[.agg #[.string a0_0, .bool a0_1, .slice A0_2 l0_2.length c0_2, .int .i64 a0_3, .slice A0_4 l0_4.length c0_4], .int .i64 a1] rfl (by (try simp only [List.map_toArray, List.map_cons, List.map_nil]); first | done | rfl | (simp only [List.length_drop, List.length_take]; rfl)) ?_; (with_reducible refine (plnref3_Last.calls a0_0 a0_1 _ _ l0_2 a0_3 (fun k_ => k_ < w.heap.size) _ _ l0_4 a1 t177 t178 t179 t180 t181 t182 t185 t188 _ ?side1 ?side2 ?side3 A3.out).mono ?_); (case side1 => repeat (first | exact (Kd.C_below HR0_2.out HB.out) | (with_reducible refine Kd.C_alloc ?_ _) | (with_reducible refine Kd.C_drewN ?_ _) | (with_reducible refine Kd.C_drew ?_))); (case side2 => exact HC0_2.out); (case side3 => exact Kd.V_mk HC0_4.out (Kd.F_below (Kd.C_F k54_heap HR0_4.out) (by repeat (first | (with_reducible first | exact HB.out | apply below_alloc | apply pw_below_drewN | apply below_drew1 | refine below_set ?_ GE176.out) | exact HB.out)))); rintro e w7 ⟨v183, v186, rfl, ho0, ho1, hb⟩; refine ⟨_, rfl, ?_⟩; have n0_ := Aside0.mk (Kd.V_lower (Kd.V_mono (ok' := fun k_ => k_ ≠ gb176) ho0 (fun k_ hk_ => Or.elim hk_ (fun hs_ => fun e_ => Nat.not_le.2 hs_ (by rw [e_]; exact GW176.out)) (fun hn_ => (Kd.freshB (g := gb176) (o := .cells #[.string a0_0, .bool a0_1, .slice A0_2 l0_2.length c0_2, .int .i64 a0_3, .slice A0_4 l0_4.length c0_4] 25 (0, 0)) (by (with_reducible repeat (first | refine blk_drewN ?_ _ | refine blk_drew ?_ | refine blk_alloc ?_ _)); exact BK176.out) k_ hn_)))) (below_size (by repeat (first | (with_reducible first | exact HB.out | apply below_alloc | apply pw_below_drewN | apply below_drew1 | refine below_set ?_ GE176.out) | exact HB.out)))); have n1_ := Aside0.mk (Kd.V_lower (Kd.V_mono (ok' := fun k_ => k_ ≠ gb176) ho1 (fun k_ hk_ => Or.elim hk_ (fun hs_ => fun e_ => Nat.not_le.2 hs_ (by rw [e_]; exact GW176.out)) (fun hn_ => (Kd.freshB (g := gb176) (o := .cells #[.string a0_0, .bool a0_1, .slice A0_2 l0_2.length c0_2, .int .i64 a0_3, .slice A0_4 l0_4.length c0_4] 25 (0, 0)) (by (with_reducible repeat (first | refine blk_drewN ?_ _ | refine blk_drew ?_ | refine blk_alloc ?_ _)); exact BK176.out) k_ hn_)))) (below_size (by repeat (first | (with_reducible first | exact HB.out | apply below_alloc | apply pw_below_drewN | apply below_drew1 | refine below_set ?_ GE176.out) | exact HB.out)))); have n2_ := Aside0.mk (blk_below (g := gb176) (o := .cells #[.string a0_0, .bool a0_1, .slice A0_2 l0_2.length c0_2, .int .i64 a0_3, .slice A0_4 l0_4.length c0_4] 25 (0, 0)) (by (with_reducible repeat (first | refine blk_drewN ?_ _ | refine blk_drew ?_ | refine blk_alloc ?_ _)); exact BK176.out) hb); have n3_ := Aside0.mk (below_step (by repeat (first | (with_reducible first | exact HB.out | apply below_alloc | apply pw_below_drewN | apply below_drew1 | refine below_set ?_ GE176.out) | exact HB.out)) hb); clear BK176; clear HB; have HO184 := n0_; have HO187 := n1_; have BK176 := n2_; have HB := n3_; clear n0_ n1_ n2_ n3_; (try clear hb); (try clear hb2); (try clear hk); (try clear hi); (try clear ho0); (try clear ho1)) | ((with_reducible refine gate_dst (N := 5) rfl ?_); (try (refine gate_guard (by rfl) ?_; dsimp only)); refine box_event ?hg (N := 5) ?hd (cs := #[.int .i64 0, .int .i64 0, .int .i64 0, .int .i64 0, .int .i64 0, .slice none 0 0, .slice none 0 0]) (t := 56) ?hr ?_; (case hd => rfl); (case hg => rfl); (case hr => first | (go_simp; done) | (go_simp; rfl)); intro gb189 hg w8 hbox hb; have n0_ := Aside0.mk (Kd.V_below (Kd.V_elderB (by (with_reducible repeat (first | apply Kd.V_alloc | apply Kd.V_drewN | apply Kd.V_drew)); exact HO184.out) gb189 (Nat.le_of_eq hg.symm)) hb); have n1_ := Aside0.mk (Kd.V_below (Kd.V_elderB (by (with_reducible repeat (first | apply Kd.V_alloc | apply Kd.V_drewN | apply Kd.V_drew)); exact HO187.out) gb189 (Nat.le_of_eq hg.symm)) hb); have n2_ := Aside0.mk (blk_below (g := gb176) (o := .cells #[.string a0_0, .bool a0_1, .slice A0_2 l0_2.length c0_2, .int .i64 a0_3, .slice A0_4 l0_4.length c0_4] 25 (0, 0)) (by (with_reducible repeat (first | refine blk_drewN ?_ _ | refine blk_drew ?_ | refine blk_alloc ?_ _)); exact BK176.out) hb); have n3_ := Aside0.mk (below_step (by repeat (first | (with_reducible first | exact HB.out | apply below_alloc | apply pw_below_drewN | apply below_drew1 | refine below_set ?_ GE176.out) | exact HB.out)) hb); have n4_ := Aside0.mk (hbox); have n5_ := Aside0.mk ((by rw [hg]; exact (below_size (by repeat (first | (with_reducible first | exact HB.out | apply below_alloc | apply pw_below_drewN | apply below_drew1 | refine below_set ?_ GE176.out) | exact HB.out))) : w.heap.size ≤ gb189)); have n6_ := Aside0.mk ((by rw [hg]; exact (below_size (by repeat (first | (with_reducible first | exact HB.out | apply below_alloc | apply pw_below_drewN | apply below_drew1 | refine below_set ?_ GE176.out) | exact HB.out))) : w.heap.size ≤ gb189)); have n7_ := Aside0.mk ((by rw [hg]; exact Nat.ne_of_lt (blk_lt (g := gb176) (o := .cells #[.string a0_0, .bool a0_1, .slice A0_2 l0_2.length c0_2, .int .i64 a0_3, .slice A0_4 l0_4.length c0_4] 25 (0, 0)) (by (with_reducible repeat (first | refine blk_drewN ?_ _ | refine blk_drew ?_ | refine blk_alloc ?_ _)); exact BK176.out)) : gb176 ≠ gb189)); have n8_ := Aside0.mk ((by rw [hg]; exact Nat.ne_of_gt (blk_lt (g := gb176) (o := .cells #[.string a0_0, .bool a0_1, .slice A0_2 l0_2.length c0_2, .int .i64 a0_3, .slice A0_4 l0_4.length c0_4] 25 (0, 0)) (by (with_reducible repeat (first | refine blk_drewN ?_ _ | refine blk_drew ?_ | refine blk_alloc ?_ _)); exact BK176.out)) : gb189 ≠ gb176)); clear HO184; clear HO187; clear BK176; clear HB; have HO184 := n0_; have HO187 := n1_; have BK176 := n2_; have HB := n3_; have BK189 := n4_; have GW189 := n5_; have GE189 := n6_; have NB176_189 := n7_; have NB189_176 := n8_; clear n0_ n1_ n2_ n3_ n4_ n5_ n6_ n7_ n8_; clear hb hbox hg; have hnb9 := NB189_176.out; have hnc9 := NB176_189.out; have hcz10_0 : w8.cell? ⟨gb189, 0, none⟩ = some (.int .i64 0) := (blk_cell BK189.out 0).trans rfl; have hcz10_1 : w8.cell? ⟨gb189, 1, none⟩ = some (.int .i64 0) := (blk_cell BK189.out 1).trans rfl; have hcz10_2 : w8.cell? ⟨gb189, 2, none⟩ = some (.int .i64 0) := (blk_cell BK189.out 2).trans rfl; have hcz10_3 : w8.cell? ⟨gb189, 3, none⟩ = some (.int .i64 0) := (blk_cell BK189.out 3).trans rfl; have hcz10_4 : w8.cell? ⟨gb189, 4, none⟩ = some (.int .i64 0) := (blk_cell BK189.out 4).trans rfl; have hcz10_5 : w8.cell? ⟨gb189, 5, none⟩ = some (.slice none 0 0) := (blk_cell BK189.out 5).trans rfl; have hcz10_6 : w8.cell? ⟨gb189, 6, none⟩ = some (.slice none 0 0) := (blk_cell BK189.out 6).trans rfl; have hfz10_0 := blk_frozen BK189.out 0; have hfz10_1 := blk_frozen BK189.out 1; have hfz10_2 := blk_frozen BK189.out 2; have hfz10_3 := blk_frozen BK189.out 3; have hfz10_4 := blk_frozen BK189.out 4; have hfz10_5 := blk_frozen BK189.out 5; have hfz10_6 := blk_frozen BK189.out 6; obtain ⟨Ao11, co11, eo11⟩ := Kd.V_slice HO184.out; subst eo11; obtain ⟨Ao12, co12, eo12⟩ := Kd.V_slice HO187.out; subst eo12))
 (try simp only [Act.put, List.setIfInBounds_toArray, List.set_cons_zero, List.set_cons_succ])
 go_cut [27] (fun v27 wc => ∃ (kq : Nat) (x27_3 : Bool), v27 = .bool x27_3 ∧ Aside0 (plnref3_Next.j0 kq x27_3 a0_0 a0_1 l0_2 a0_3 l0_4 t177 t178 t179 t180 t181 t182 t185 = some r) ∧ Aside0 (kq ≤ k) ∧ Aside0 (Kd.V (Kd.int .i64) 3 wc w.heap.size (fun k_ => k_ ≠ gb176 ∧ k_ ≠ gb189) (.slice Ao11 t182.length co11) t182) ∧ Aside0 (Kd.V (Kd.int .i64) 3 wc w.heap.size (fun k_ => k_ ≠ gb176 ∧ k_ ≠ gb189) (.slice Ao12 t185.length co12) t185) ∧ Aside0 (wc.heap[gb176]? = some (.cells #[.string a0_0, .bool a0_1, (.slice A0_2 l0_2.length c0_2), .int .i64 a0_3, (.slice A0_4 l0_4.length c0_4)] 25 (0, 0))) ∧ Aside0 (wc.heap[gb189]? = some (.cells #[.int .i64 t177, .int .i64 t178, .int .i64 t179, .int .i64 t180, .int .i64 t181, (.slice Ao11 t182.length co11), (.slice Ao12 t185.length co12)] 56 (0, 0))) ∧ Aside0 (Below w.heap.size w wc))
 case first =>
  have H := HC4.out
  clear HC4
  by_cases c13 : t188 = true
  ·subst c13
   have H1 : (if t177 = 27 then (plnref3_Next.j0 k false a0_0 a0_1 l0_2 a0_3 l0_4 t177 t178 t179 t180 t181 t182 t185) else (plnref3_Next.j0 k (t177 != 28) a0_0 a0_1 l0_2 a0_3 l0_4 t177 t178 t179 t180 t181 t182 t185)) = some r := by rw [if_pos rfl] at H; exact H
   clear H; have H := H1; clear H1
   by_cases c14 : t177 = 27
   ·rw [if_pos c14] at H
    have c14b0 : (t177 == 27) = true := beq_iff_eq.mpr c14
    have c14b1 : (t177 != 27) = false := bne_eq_false_iff_eq.mpr c14
    clear c14
    (first | rw [c14b0] | (simp only [i64_w, i32_w]; rw [c14b0]) | skip)
    have H' := Aside0.mk H
    clear H
    have hnb15 := NB189_176.out
    have hnc15 := NB176_189.out
    have hcz16_0 : w8.cell? ⟨gb189, 0, none⟩ = some (.int .i64 0) := (blk_cell BK189.out 0).trans rfl
    have hcz16_1 : w8.cell? ⟨gb189, 1, none⟩ = some (.int .i64 0) := (blk_cell BK189.out 1).trans rfl
    have hcz16_2 : w8.cell? ⟨gb189, 2, none⟩ = some (.int .i64 0) := (blk_cell BK189.out 2).trans rfl
    have hcz16_3 : w8.cell? ⟨gb189, 3, none⟩ = some (.int .i64 0) := (blk_cell BK189.out 3).trans rfl
    have hcz16_4 : w8.cell? ⟨gb189, 4, none⟩ = some (.int .i64 0) := (blk_cell BK189.out 4).trans rfl
    have hcz16_5 : w8.cell? ⟨gb189, 5, none⟩ = some (.slice none 0 0) := (blk_cell BK189.out 5).trans rfl
    have hcz16_6 : w8.cell? ⟨gb189, 6, none⟩ = some (.slice none 0 0) := (blk_cell BK189.out 6).trans rfl
    have hfz16_0 := blk_frozen BK189.out 0
    have hfz16_1 := blk_frozen BK189.out 1
    have hfz16_2 := blk_frozen BK189.out 2
    have hfz16_3 := blk_frozen BK189.out 3
    have hfz16_4 := blk_frozen BK189.out 4
    have hfz16_5 := blk_frozen BK189.out 5
    have hfz16_6 := blk_frozen BK189.out 6
    go_wp2
    go_meet
    case rel => exact ⟨_, (false), (by first | rfl | (simp; done) | (simp [*]; done)), H', ⟨by first | omega | exact Nat.le_refl _⟩, ⟨by (with_reducible repeat (first | apply Kd.V_alloc | apply Kd.V_drewN | apply Kd.V_drew)); exact Kd.V_mono (Kd.V_far (p := ⟨gb189, 6, none⟩) (Kd.V_far (p := ⟨gb189, 5, none⟩) (Kd.V_far (p := ⟨gb189, 4, none⟩) (Kd.V_far (p := ⟨gb189, 3, none⟩) (Kd.V_far (p := ⟨gb189, 2, none⟩) (Kd.V_far (p := ⟨gb189, 1, none⟩) (Kd.V_far (p := ⟨gb189, 0, none⟩) (Kd.V_mono HO184.out (fun k_ hk => (⟨hk, hk.2⟩ : _ ∧ k_ ≠ gb189))) (fun _ hk => hk.2) (.int .i64 t177)) (fun _ hk => hk.2) (.int .i64 t178)) (fun _ hk => hk.2) (.int .i64 t179)) (fun _ hk => hk.2) (.int .i64 t180)) (fun _ hk => hk.2) (.int .i64 t181)) (fun _ hk => hk.2) (.slice Ao11 t182.length co11)) (fun _ hk => hk.2) (.slice Ao12 t185.length co12)) (fun _ hk => ⟨hk.1.1, hk.1.2⟩)⟩, ⟨by (with_reducible repeat (first | apply Kd.V_alloc | apply Kd.V_drewN | apply Kd.V_drew)); exact Kd.V_mono (Kd.V_far (p := ⟨gb189, 6, none⟩) (Kd.V_far (p := ⟨gb189, 5, none⟩) (Kd.V_far (p := ⟨gb189, 4, none⟩) (Kd.V_far (p := ⟨gb189, 3, none⟩) (Kd.V_far (p := ⟨gb189, 2, none⟩) (Kd.V_far (p := ⟨gb189, 1, none⟩) (Kd.V_far (p := ⟨gb189, 0, none⟩) (Kd.V_mono HO187.out (fun k_ hk => (⟨hk, hk.2⟩ : _ ∧ k_ ≠ gb189))) (fun _ hk => hk.2) (.int .i64 t177)) (fun _ hk => hk.2) (.int .i64 t178)) (fun _ hk => hk.2) (.int .i64 t179)) (fun _ hk => hk.2) (.int .i64 t180)) (fun _ hk => hk.2) (.int .i64 t181)) (fun _ hk => hk.2) (.slice Ao11 t182.length co11)) (fun _ hk => hk.2) (.slice Ao12 t185.length co12)) (fun _ hk => ⟨hk.1.1, hk.1.2⟩)⟩, ⟨by (with_reducible repeat (first | refine blk_drewN ?_ _ | refine blk_drew ?_ | refine blk_alloc ?_ _)); refine blk_far ?_ NB176_189.out _; (with_reducible repeat (first | refine blk_drewN ?_ _ | refine blk_drew ?_ | refine blk_alloc ?_ _)); refine blk_far ?_ NB176_189.out _; (with_reducible repeat (first | refine blk_drewN ?_ _ | refine blk_drew ?_ | refine blk_alloc ?_ _)); refine blk_far ?_ NB176_189.out _; (with_reducible repeat (first | refine blk_drewN ?_ _ | refine blk_drew ?_ | refine blk_alloc ?_ _)); refine blk_far ?_ NB176_189.out _; (with_reducible repeat (first | refine blk_drewN ?_ _ | refine blk_drew ?_ | refine blk_alloc ?_ _)); refine blk_far ?_ NB176_189.out _; (with_reducible repeat (first | refine blk_drewN ?_ _ | refine blk_drew ?_ | refine blk_alloc ?_ _)); refine blk_far ?_ NB176_189.out _; (with_reducible repeat (first | refine blk_drewN ?_ _ | refine blk_drew ?_ | refine blk_alloc ?_ _)); refine blk_far ?_ NB176_189.out _; (with_reducible repeat (first | refine blk_drewN ?_ _ | refine blk_drew ?_ | refine blk_alloc ?_ _)); exact BK176.out⟩, ⟨by (with_reducible repeat (first | refine blk_drewN ?_ _ | refine blk_drew ?_ | refine blk_alloc ?_ _)); refine blk_put (cs := #[.int .i64 t177, .int .i64 t178, .int .i64 t179, .int .i64 t180, .int .i64 t181, .slice Ao11 t182.length co11, .slice none 0 0]) ?_ 6 _ rfl; (with_reducible repeat (first | refine blk_drewN ?_ _ | refine blk_drew ?_ | refine blk_alloc ?_ _)); refine blk_put (cs := #[.int .i64 t177, .int .i64 t178, .int .i64 t179, .int .i64 t180, .int .i64 t181, .slice none 0 0, .slice none 0 0]) ?_ 5 _ rfl; (with_reducible repeat (first | refine blk_drewN ?_ _ | refine blk_drew ?_ | refine blk_alloc ?_ _)); refine blk_put (cs := #[.int .i64 t177, .int .i64 t178, .int .i64 t179, .int .i64 t180, .int .i64 0, .slice none 0 0, .slice none 0 0]) ?_ 4 _ rfl; (with_reducible repeat (first | refine blk_drewN ?_ _ | refine blk_drew ?_ | refine blk_alloc ?_ _)); refine blk_put (cs := #[.int .i64 t177, .int .i64 t178, .int .i64 t179, .int .i64 0, .int .i64 0, .slice none 0 0, .slice none 0 0]) ?_ 3 _ rfl; (with_reducible repeat (first | refine blk_drewN ?_ _ | refine blk_drew ?_ | refine blk_alloc ?_ _)); refine blk_put (cs := #[.int .i64 t177, .int .i64 t178, .int .i64 0, .int .i64 0, .int .i64 0, .slice none 0 0, .slice none 0 0]) ?_ 2 _ rfl; (with_reducible repeat (first | refine blk_drewN ?_ _ | refine blk_drew ?_ | refine blk_alloc ?_ _)); refine blk_put (cs := #[.int .i64 t177, .int .i64 0, .int .i64 0, .int .i64 0, .int .i64 0, .slice none 0 0, .slice none 0 0]) ?_ 1 _ rfl; (with_reducible repeat (first | refine blk_drewN ?_ _ | refine blk_drew ?_ | refine blk_alloc ?_ _)); refine blk_put (cs := #[.int .i64 0, .int .i64 0, .int .i64 0, .int .i64 0, .int .i64 0, .slice none 0 0, .slice none 0 0]) ?_ 0 _ rfl; (with_reducible repeat (first | refine blk_drewN ?_ _ | refine blk_drew ?_ | refine blk_alloc ?_ _)); exact BK189.out⟩, ⟨by repeat (first | (with_reducible first | exact HB.out | apply below_alloc | apply pw_below_drewN | apply below_drew1 | refine below_set ?_ GE176.out | refine below_set ?_ GE189.out) | exact HB.out)⟩⟩
   ·rw [if_neg c14] at H
    have c14b0 : (t177 == 27) = false := beq_eq_false_iff_ne.mpr c14
    have c14b1 : (t177 != 27) = true := bne_iff_ne.mpr c14
    (first | rw [c14b0] | (simp only [i64_w, i32_w]; rw [c14b0]) | skip)
    have H' := Aside0.mk H
    clear H
    have hnb17 := NB189_176.out
    have hnc17 := NB176_189.out
    have hcz18_0 : w8.cell? ⟨gb189, 0, none⟩ = some (.int .i64 0) := (blk_cell BK189.out 0).trans rfl
    have hcz18_1 : w8.cell? ⟨gb189, 1, none⟩ = some (.int .i64 0) := (blk_cell BK189.out 1).trans rfl
    have hcz18_2 : w8.cell? ⟨gb189, 2, none⟩ = some (.int .i64 0) := (blk_cell BK189.out 2).trans rfl
    have hcz18_3 : w8.cell? ⟨gb189, 3, none⟩ = some (.int .i64 0) := (blk_cell BK189.out 3).trans rfl
    have hcz18_4 : w8.cell? ⟨gb189, 4, none⟩ = some (.int .i64 0) := (blk_cell BK189.out 4).trans rfl
    have hcz18_5 : w8.cell? ⟨gb189, 5, none⟩ = some (.slice none 0 0) := (blk_cell BK189.out 5).trans rfl
    have hcz18_6 : w8.cell? ⟨gb189, 6, none⟩ = some (.slice none 0 0) := (blk_cell BK189.out 6).trans rfl
    have hfz18_0 := blk_frozen BK189.out 0
    have hfz18_1 := blk_frozen BK189.out 1
    have hfz18_2 := blk_frozen BK189.out 2
    have hfz18_3 := blk_frozen BK189.out 3
    have hfz18_4 := blk_frozen BK189.out 4
    have hfz18_5 := blk_frozen BK189.out 5
    have hfz18_6 := blk_frozen BK189.out 6
    go_wp2
    go_meet
    case rel => exact ⟨_, ((t177 != 28)), (by first | rfl | (simp; done) | (simp [*]; done)), H', ⟨by first | omega | exact Nat.le_refl _⟩, ⟨by (with_reducible repeat (first | apply Kd.V_alloc | apply Kd.V_drewN | apply Kd.V_drew)); exact Kd.V_mono (Kd.V_far (p := ⟨gb189, 6, none⟩) (Kd.V_far (p := ⟨gb189, 5, none⟩) (Kd.V_far (p := ⟨gb189, 4, none⟩) (Kd.V_far (p := ⟨gb189, 3, none⟩) (Kd.V_far (p := ⟨gb189, 2, none⟩) (Kd.V_far (p := ⟨gb189, 1, none⟩) (Kd.V_far (p := ⟨gb189, 0, none⟩) (Kd.V_mono HO184.out (fun k_ hk => (⟨hk, hk.2⟩ : _ ∧ k_ ≠ gb189))) (fun _ hk => hk.2) (.int .i64 t177)) (fun _ hk => hk.2) (.int .i64 t178)) (fun _ hk => hk.2) (.int .i64 t179)) (fun _ hk => hk.2) (.int .i64 t180)) (fun _ hk => hk.2) (.int .i64 t181)) (fun _ hk => hk.2) (.slice Ao11 t182.length co11)) (fun _ hk => hk.2) (.slice Ao12 t185.length co12)) (fun _ hk => ⟨hk.1.1, hk.1.2⟩)⟩, ⟨by (with_reducible repeat (first | apply Kd.V_alloc | apply Kd.V_drewN | apply Kd.V_drew)); exact Kd.V_mono (Kd.V_far (p := ⟨gb189, 6, none⟩) (Kd.V_far (p := ⟨gb189, 5, none⟩) (Kd.V_far (p := ⟨gb189, 4, none⟩) (Kd.V_far (p := ⟨gb189, 3, none⟩) (Kd.V_far (p := ⟨gb189, 2, none⟩) (Kd.V_far (p := ⟨gb189, 1, none⟩) (Kd.V_far (p := ⟨gb189, 0, none⟩) (Kd.V_mono HO187.out (fun k_ hk => (⟨hk, hk.2⟩ : _ ∧ k_ ≠ gb189))) (fun _ hk => hk.2) (.int .i64 t177)) (fun _ hk => hk.2) (.int .i64 t178)) (fun _ hk => hk.2) (.int .i64 t179)) (fun _ hk => hk.2) (.int .i64 t180)) (fun _ hk => hk.2) (.int .i64 t181)) (fun _ hk => hk.2) (.slice Ao11 t182.length co11)) (fun _ hk => hk.2) (.slice Ao12 t185.length co12)) (fun _ hk => ⟨hk.1.1, hk.1.2⟩)⟩, ⟨by (with_reducible repeat (first | refine blk_drewN ?_ _ | refine blk_drew ?_ | refine blk_alloc ?_ _)); refine blk_far ?_ NB176_189.out _; (with_reducible repeat (first | refine blk_drewN ?_ _ | refine blk_drew ?_ | refine blk_alloc ?_ _)); refine blk_far ?_ NB176_189.out _; (with_reducible repeat (first | refine blk_drewN ?_ _ | refine blk_drew ?_ | refine blk_alloc ?_ _)); refine blk_far ?_ NB176_189.out _; (with_reducible repeat (first | refine blk_drewN ?_ _ | refine blk_drew ?_ | refine blk_alloc ?_ _)); refine blk_far ?_ NB176_189.out _; (with_reducible repeat (first | refine blk_drewN ?_ _ | refine blk_drew ?_ | refine blk_alloc ?_ _)); refine blk_far ?_ NB176_189.out _; (with_reducible repeat (first | refine blk_drewN ?_ _ | refine blk_drew ?_ | refine blk_alloc ?_ _)); refine blk_far ?_ NB176_189.out _; (with_reducible repeat (first | refine blk_drewN ?_ _ | refine blk_drew ?_ | refine blk_alloc ?_ _)); refine blk_far ?_ NB176_189.out _; (with_reducible repeat (first | refine blk_drewN ?_ _ | refine blk_drew ?_ | refine blk_alloc ?_ _)); exact BK176.out⟩, ⟨by (with_reducible repeat (first | refine blk_drewN ?_ _ | refine blk_drew ?_ | refine blk_alloc ?_ _)); refine blk_put (cs := #[.int .i64 t177, .int .i64 t178, .int .i64 t179, .int .i64 t180, .int .i64 t181, .slice Ao11 t182.length co11, .slice none 0 0]) ?_ 6 _ rfl; (with_reducible repeat (first | refine blk_drewN ?_ _ | refine blk_drew ?_ | refine blk_alloc ?_ _)); refine blk_put (cs := #[.int .i64 t177, .int .i64 t178, .int .i64 t179, .int .i64 t180, .int .i64 t181, .slice none 0 0, .slice none 0 0]) ?_ 5 _ rfl; (with_reducible repeat (first | refine blk_drewN ?_ _ | refine blk_drew ?_ | refine blk_alloc ?_ _)); refine blk_put (cs := #[.int .i64 t177, .int .i64 t178, .int .i64 t179, .int .i64 t180, .int .i64 0, .slice none 0 0, .slice none 0 0]) ?_ 4 _ rfl; (with_reducible repeat (first | refine blk_drewN ?_ _ | refine blk_drew ?_ | refine blk_alloc ?_ _)); refine blk_put (cs := #[.int .i64 t177, .int .i64 t178, .int .i64 t179, .int .i64 0, .int .i64 0, .slice none 0 0, .slice none 0 0]) ?_ 3 _ rfl; (with_reducible repeat (first | refine blk_drewN ?_ _ | refine blk_drew ?_ | refine blk_alloc ?_ _)); refine blk_put (cs := #[.int .i64 t177, .int .i64 t178, .int .i64 0, .int .i64 0, .int .i64 0, .slice none 0 0, .slice none 0 0]) ?_ 2 _ rfl; (with_reducible repeat (first | refine blk_drewN ?_ _ | refine blk_drew ?_ | refine blk_alloc ?_ _)); refine blk_put (cs := #[.int .i64 t177, .int .i64 0, .int .i64 0, .int .i64 0, .int .i64 0, .slice none 0 0, .slice none 0 0]) ?_ 1 _ rfl; (with_reducible repeat (first | refine blk_drewN ?_ _ | refine blk_drew ?_ | refine blk_alloc ?_ _)); refine blk_put (cs := #[.int .i64 0, .int .i64 0, .int .i64 0, .int .i64 0, .int .i64 0, .slice none 0 0, .slice none 0 0]) ?_ 0 _ rfl; (with_reducible repeat (first | refine blk_drewN ?_ _ | refine blk_drew ?_ | refine blk_alloc ?_ _)); exact BK189.out⟩, ⟨by repeat (first | (with_reducible first | exact HB.out | apply below_alloc | apply pw_below_drewN | apply below_drew1 | refine below_set ?_ GE176.out | refine below_set ?_ GE189.out) | exact HB.out)⟩⟩
  ·replace c13 := Bool.eq_false_iff.mpr c13
   subst c13
   have H1 : (plnref3_Next.j0 k true a0_0 a0_1 l0_2 a0_3 l0_4 t177 t178 t179 t180 t181 t182 t185) = some r := by rw [if_neg (show ¬ (false = true) by decide)] at H; exact H
   clear H; have H := H1; clear H1
   have H' := Aside0.mk H
   clear H
   go_wp2
   go_meet
   case rel => exact ⟨_, (true), (by first | rfl | (simp; done) | (simp [*]; done)), H', ⟨by first | omega | exact Nat.le_refl _⟩, ⟨by (with_reducible repeat (first | apply Kd.V_alloc | apply Kd.V_drewN | apply Kd.V_drew)); exact Kd.V_mono (Kd.V_far (p := ⟨gb189, 6, none⟩) (Kd.V_far (p := ⟨gb189, 5, none⟩) (Kd.V_far (p := ⟨gb189, 4, none⟩) (Kd.V_far (p := ⟨gb189, 3, none⟩) (Kd.V_far (p := ⟨gb189, 2, none⟩) (Kd.V_far (p := ⟨gb189, 1, none⟩) (Kd.V_far (p := ⟨gb189, 0, none⟩) (Kd.V_mono HO184.out (fun k_ hk => (⟨hk, hk.2⟩ : _ ∧ k_ ≠ gb189))) (fun _ hk => hk.2) (.int .i64 t177)) (fun _ hk => hk.2) (.int .i64 t178)) (fun _ hk => hk.2) (.int .i64 t179)) (fun _ hk => hk.2) (.int .i64 t180)) (fun _ hk => hk.2) (.int .i64 t181)) (fun _ hk => hk.2) (.slice Ao11 t182.length co11)) (fun _ hk => hk.2) (.slice Ao12 t185.length co12)) (fun _ hk => ⟨hk.1.1, hk.1.2⟩)⟩, ⟨by (with_reducible repeat (first | apply Kd.V_alloc | apply Kd.V_drewN | apply Kd.V_drew)); exact Kd.V_mono (Kd.V_far (p := ⟨gb189, 6, none⟩) (Kd.V_far (p := ⟨gb189, 5, none⟩) (Kd.V_far (p := ⟨gb189, 4, none⟩) (Kd.V_far (p := ⟨gb189, 3, none⟩) (Kd.V_far (p := ⟨gb189, 2, none⟩) (Kd.V_far (p := ⟨gb189, 1, none⟩) (Kd.V_far (p := ⟨gb189, 0, none⟩) (Kd.V_mono HO187.out (fun k_ hk => (⟨hk, hk.2⟩ : _ ∧ k_ ≠ gb189))) (fun _ hk => hk.2) (.int .i64 t177)) (fun _ hk => hk.2) (.int .i64 t178)) (fun _ hk => hk.2) (.int .i64 t179)) (fun _ hk => hk.2) (.int .i64 t180)) (fun _ hk => hk.2) (.int .i64 t181)) (fun _ hk => hk.2) (.slice Ao11 t182.length co11)) (fun _ hk => hk.2) (.slice Ao12 t185.length co12)) (fun _ hk => ⟨hk.1.1, hk.1.2⟩)⟩, ⟨by (with_reducible repeat (first | refine blk_drewN ?_ _ | refine blk_drew ?_ | refine blk_alloc ?_ _)); refine blk_far ?_ NB176_189.out _; (with_reducible repeat (first | refine blk_drewN ?_ _ | refine blk_drew ?_ | refine blk_alloc ?_ _)); refine blk_far ?_ NB176_189.out _; (with_reducible repeat (first | refine blk_drewN ?_ _ | refine blk_drew ?_ | refine blk_alloc ?_ _)); refine blk_far ?_ NB176_189.out _; (with_reducible repeat (first | refine blk_drewN ?_ _ | refine blk_drew ?_ | refine blk_alloc ?_ _)); refine blk_far ?_ NB176_189.out _; (with_reducible repeat (first | refine blk_drewN ?_ _ | refine blk_drew ?_ | refine blk_alloc ?_ _)); refine blk_far ?_ NB176_189.out _; (with_reducible repeat (first | refine blk_drewN ?_ _ | refine blk_drew ?_ | refine blk_alloc ?_ _)); refine blk_far ?_ NB176_189.out _; (with_reducible repeat (first | refine blk_drewN ?_ _ | refine blk_drew ?_ | refine blk_alloc ?_ _)); refine blk_far ?_ NB176_189.out _; (with_reducible repeat (first | refine blk_drewN ?_ _ | refine blk_drew ?_ | refine blk_alloc ?_ _)); exact BK176.out⟩, ⟨by (with_reducible repeat (first | refine blk_drewN ?_ _ | refine blk_drew ?_ | refine blk_alloc ?_ _)); refine blk_put (cs := #[.int .i64 t177, .int .i64 t178, .int .i64 t179, .int .i64 t180, .int .i64 t181, .slice Ao11 t182.length co11, .slice none 0 0]) ?_ 6 _ rfl; (with_reducible repeat (first | refine blk_drewN ?_ _ | refine blk_drew ?_ | refine blk_alloc ?_ _)); refine blk_put (cs := #[.int .i64 t177, .int .i64 t178, .int .i64 t179, .int .i64 t180, .int .i64 t181, .slice none 0 0, .slice none 0 0]) ?_ 5 _ rfl; (with_reducible repeat (first | refine blk_drewN ?_ _ | refine blk_drew ?_ | refine blk_alloc ?_ _)); refine blk_put (cs := #[.int .i64 t177, .int .i64 t178, .int .i64 t179, .int .i64 t180, .int .i64 0, .slice none 0 0, .slice none 0 0]) ?_ 4 _ rfl; (with_reducible repeat (first | refine blk_drewN ?_ _ | refine blk_drew ?_ | refine blk_alloc ?_ _)); refine blk_put (cs := #[.int .i64 t177, .int .i64 t178, .int .i64 t179, .int .i64 0, .int .i64 0, .slice none 0 0, .slice none 0 0]) ?_ 3 _ rfl; (with_reducible repeat (first | refine blk_drewN ?_ _ | refine blk_drew ?_ | refine blk_alloc ?_ _)); refine blk_put (cs := #[.int .i64 t177, .int .i64 t178, .int .i64 0, .int .i64 0, .int .i64 0, .slice none 0 0, .slice none 0 0]) ?_ 2 _ rfl; (with_reducible repeat (first | refine blk_drewN ?_ _ | refine blk_drew ?_ | refine blk_alloc ?_ _)); refine blk_put (cs := #[.int .i64 t177, .int .i64 0, .int .i64 0, .int .i64 0, .int .i64 0, .slice none 0 0, .slice none 0 0]) ?_ 1 _ rfl; (with_reducible repeat (first | refine blk_drewN ?_ _ | refine blk_drew ?_ | refine blk_alloc ?_ _)); refine blk_put (cs := #[.int .i64 0, .int .i64 0, .int .i64 0, .int .i64 0, .int .i64 0, .slice none 0 0, .slice none 0 0]) ?_ 0 _ rfl; (with_reducible repeat (first | refine blk_drewN ?_ _ | refine blk_drew ?_ | refine blk_alloc ?_ _)); exact BK189.out⟩, ⟨by repeat (first | (with_reducible first | exact HB.out | apply below_alloc | apply pw_below_drewN | apply below_drew1 | refine below_set ?_ GE176.out | refine below_set ?_ GE189.out) | exact HB.out)⟩⟩
 case rest =>
  clear HC4
  try clear c1
  try clear c2
  try clear p2
  try clear c6
  try clear c9
  try clear c13
  try clear c14
  try clear c14b0
  try clear c14b1
  try clear c15
  try clear c17
  try clear hcz10_0
  try clear hcz10_1
  try clear hcz10_2
  try clear hcz10_3
  try clear hcz10_4
  try clear hcz10_5
  try clear hcz10_6
  try clear hcz16_0
  try clear hcz16_1
  try clear hcz16_2
  try clear hcz16_3
  try clear hcz16_4
  try clear hcz16_5
  try clear hcz16_6
  try clear hcz18_0
  try clear hcz18_1
  try clear hcz18_2
  try clear hcz18_3
  try clear hcz18_4
  try clear hcz18_5
  try clear hcz18_6
  try clear hcz6_0
  try clear hcz6_1
  try clear hcz6_2
  try clear hcz6_3
  try clear hcz6_4
  try clear hfz10_0
  try clear hfz10_1
  try clear hfz10_2
  try clear hfz10_3
  try clear hfz10_4
  try clear hfz10_5
  try clear hfz10_6
  try clear hfz16_0
  try clear hfz16_1
  try clear hfz16_2
  try clear hfz16_3
  try clear hfz16_4
  try clear hfz16_5
  try clear hfz16_6
  try clear hfz18_0
  try clear hfz18_1
  try clear hfz18_2
  try clear hfz18_3
  try clear hfz18_4
  try clear hfz18_5
  try clear hfz18_6
  try clear hfz6_0
  try clear hfz6_1
  try clear hfz6_2
  try clear hfz6_3
  try clear hfz6_4
  obtain ⟨kq, x27_3, rfl, HA, HJ3, HO_190005, HO_190006, BK176, BK189, HB⟩ := hcut
  cases kq with
  | zero => exact absurd HA.out (by simp [plnref3_Next.j0])
  | succ kj3 =>
   have H := HA.out
   clear HA
   simp only [plnref3_Next.j0] at H
   by_cases c19 : x27_3 = true
   ·subst c19
    have H1 : (some ([] : List Int)) = some r := by rw [if_pos rfl] at H; exact H
    clear H; have H := H1; clear H1
    obtain rfl := Option.some.inj H
    go_wp2
    go_ret
    exact ⟨_, by first | rfl | (simp [errW_none, errW_some] <;> rfl) | (simp [*, errW_none, errW_some] <;> rfl), by first | exact Kd.R_nil _ _ _ _ _ | exact Kd.N_nil _ _ _ _ _ | exact Kd.V_nil _ _ _ _ _ | exact Kd.Q_nil _ _ _ _ _ | exact Kd.S_nil _ _ _ _ _, by repeat (first | (with_reducible first | exact HB.out | apply below_alloc | apply pw_below_drewN | apply below_drew1 | refine below_set ?_ GE176.out | refine below_set ?_ GE189.out) | exact HB.out)⟩
   ·replace c19 := Bool.eq_false_iff.mpr c19
    subst c19
    have H1 : (plnref3_Next.l0 kj3 ([] : List Int) 0 a0_0 a0_1 l0_2 a0_3 l0_4 t177 t178 t179 t180 t181 t182 t185) = some r := by rw [if_neg (show ¬ (false = true) by decide)] at H; exact H
    clear H; have H := H1; clear H1
    have H' := Aside0.mk H
    clear H
    go_wp2
    go_loopg [7, 8] kj3 (fun kq v7 v8 w' => ∃ (x7_2 : List Int) (x8_2 : Int), v8 = .int .i64 x8_2 ∧ Aside0 (plnref3_Next.l0 kq x7_2 x8_2 a0_0 a0_1 l0_2 a0_3 l0_4 t177 t178 t179 t180 t181 t182 t185 = some r) ∧ Aside0 (kq ≤ kj3) ∧ Aside0 (Kd.R (Kd.int .i64) 3 w' w.heap.size (fun _ => True) v7 x7_2) ∧ Aside0 (Kd.V (Kd.int .i64) 3 w' w.heap.size (fun k_ => some k_ ≠ (v7 : Value).ownBlock ∧ k_ ≠ gb176 ∧ k_ ≠ gb189) (.slice Ao11 t182.length co11) t182) ∧ Aside0 (Kd.V (Kd.int .i64) 3 w' w.heap.size (fun k_ => some k_ ≠ (v7 : Value).ownBlock ∧ k_ ≠ gb176 ∧ k_ ≠ gb189) (.slice Ao12 t185.length co12) t185) ∧ Aside0 (w'.heap[gb176]? = some (.cells #[.string a0_0, .bool a0_1, (.slice A0_2 l0_2.length c0_2), .int .i64 a0_3, (.slice A0_4 l0_4.length c0_4)] 25 (0, 0))) ∧ Aside0 (w'.heap[gb189]? = some (.cells #[.int .i64 t177, .int .i64 t178, .int .i64 t179, .int .i64 t180, .int .i64 t181, (.slice Ao11 t182.length co11), (.slice Ao12 t185.length co12)] 56 (0, 0))) ∧ Aside0 (Below w.heap.size w w'))
    case atStart => exact ⟨(([] : List Int)), (0), (by first | rfl | (simp; done) | (simp [*]; done)), H', ⟨Nat.le_refl _⟩, ⟨by first | exact Kd.R_nil _ _ _ _ _ | exact Kd.N_nil _ _ _ _ _ | exact Kd.V_nil _ _ _ _ _ | exact Kd.Q_nil _ _ _ _ _ | exact Kd.S_nil _ _ _ _ _⟩, ⟨by (with_reducible repeat (first | apply Kd.V_alloc | apply Kd.V_drewN | apply Kd.V_drew)); exact Kd.V_mono HO_190005.out (fun _ hk => ⟨(by simp [Value.ownBlock]), ⟨hk.1, hk.2⟩⟩)⟩, ⟨by (with_reducible repeat (first | apply Kd.V_alloc | apply Kd.V_drewN | apply Kd.V_drew)); exact Kd.V_mono HO_190006.out (fun _ hk => ⟨(by simp [Value.ownBlock]), ⟨hk.1, hk.2⟩⟩)⟩, ⟨by (with_reducible repeat (first | refine blk_drewN ?_ _ | refine blk_drew ?_ | refine blk_alloc ?_ _)); exact BK176.out⟩, ⟨by (with_reducible repeat (first | refine blk_drewN ?_ _ | refine blk_drew ?_ | refine blk_alloc ?_ _)); exact BK189.out⟩, ⟨by repeat (first | (with_reducible first | exact HB.out | apply below_alloc | apply pw_below_drewN | apply below_drew1 | refine below_set ?_ GE176.out | refine below_set ?_ GE189.out) | exact HB.out)⟩⟩
    case round =>
     clear H'
     try clear c1
     try clear c2
     try clear p2
     try clear c6
     try clear c9
     try clear c13
     try clear c14
     try clear c14b0
     try clear c14b1
     try clear c15
     try clear c17
     try clear c19
     try clear hcz10_0
     try clear hcz10_1
     try clear hcz10_2
     try clear hcz10_3
     try clear hcz10_4
     try clear hcz10_5
     try clear hcz10_6
     try clear hcz16_0
     try clear hcz16_1
     try clear hcz16_2
     try clear hcz16_3
     try clear hcz16_4
     try clear hcz16_5
     try clear hcz16_6
     try clear hcz18_0
     try clear hcz18_1
     try clear hcz18_2
     try clear hcz18_3
     try clear hcz18_4
     try clear hcz18_5
     try clear hcz18_6
     try clear hcz6_0
     try clear hcz6_1
     try clear hcz6_2
     try clear hcz6_3
     try clear hcz6_4
     try clear hfz10_0
     try clear hfz10_1
     try clear hfz10_2
     try clear hfz10_3
     try clear hfz10_4
     try clear hfz10_5
     try clear hfz10_6
     try clear hfz16_0
     try clear hfz16_1
     try clear hfz16_2
     try clear hfz16_3
     try clear hfz16_4
     try clear hfz16_5
     try clear hfz16_6
     try clear hfz18_0
     try clear hfz18_1
     try clear hfz18_2
     try clear hfz18_3
     try clear hfz18_4
     try clear hfz18_5
     try clear hfz18_6
     try clear hfz6_0
     try clear hfz6_1
     try clear hfz6_2
     try clear hfz6_3
     try clear hfz6_4
     try clear p2
     obtain ⟨x7_2, x8_2, rfl, HA, HK2, HO_7, HO_190005, HO_190006, BK176, BK189, HB⟩ := hrel
     cases gk with
     | zero => exact absurd HA.out (by simp [plnref3_Next.l0])
     | succ k2 =>
      have H := HA.out
      clear HA
      simp only [plnref3_Next.l0] at H
      by_cases c20 : x8_2 < (t185.length : Int)
      ·rw [if_pos c20] at H
       have c20b0 : decide (x8_2 < (t185.length : Int)) = true := decide_eq_true c20
       clear c20
       by_cases c21 : 0 ≤ x8_2
       ·rw [if_pos c21] at H
        have c21b0 : decide (0 ≤ x8_2) = true := decide_eq_true c21
        clear c21
        by_cases c22 : (rd t185 x8_2) ≥ 0
        ·rw [if_pos c22] at H
         have c22b0 : decide (0 ≤ (rd t185 x8_2)) = true := decide_eq_true c22
         clear c22
         by_cases c23 : (rd t185 x8_2) < (l0_4.length : Int)
         ·rw [if_pos c23] at H
          have c23b0 : decide ((rd t185 x8_2) < (l0_4.length : Int)) = true := decide_eq_true c23
          clear c23
          replace H := Option.bind_eq_some_iff.mp H
          obtain ⟨t191, A240, H⟩ := H
          replace H : (if t191 = true then (plnref3_Next.l0 k2 x7_2 (wrap64 (x8_2 + 1)) a0_0 a0_1 l0_2 a0_3 l0_4 t177 t178 t179 t180 t181 t182 t185) else (if x7_2.length < 17592186044416 then (plnref3_Next.l0 k2 (x7_2 ++ [rd t185 x8_2]) (wrap64 (x8_2 + 1)) a0_0 a0_1 l0_2 a0_3 l0_4 t177 t178 t179 t180 t181 t182 t185) else (none))) = some r := H
          have A24 := Aside0.mk A240
          clear A240
          by_cases c25 : t191 = true
          ·subst c25
           have H1 : (plnref3_Next.l0 k2 x7_2 (wrap64 (x8_2 + 1)) a0_0 a0_1 l0_2 a0_3 l0_4 t177 t178 t179 t180 t181 t182 t185) = some r := by rw [if_pos rfl] at H; exact H
           clear H; have H := H1; clear H1
           have H' := Aside0.mk H
           clear H
           have hnb26 := NB189_176.out
           have hnc26 := NB176_189.out
           have hcz27_0 : wr.cell? ⟨gb189, 0, none⟩ = some (.int .i64 t177) := (blk_cell BK189.out 0).trans rfl
           have hcz27_1 : wr.cell? ⟨gb189, 1, none⟩ = some (.int .i64 t178) := (blk_cell BK189.out 1).trans rfl
           have hcz27_2 : wr.cell? ⟨gb189, 2, none⟩ = some (.int .i64 t179) := (blk_cell BK189.out 2).trans rfl
           have hcz27_3 : wr.cell? ⟨gb189, 3, none⟩ = some (.int .i64 t180) := (blk_cell BK189.out 3).trans rfl
           have hcz27_4 : wr.cell? ⟨gb189, 4, none⟩ = some (.int .i64 t181) := (blk_cell BK189.out 4).trans rfl
           have hcz27_5 : wr.cell? ⟨gb189, 5, none⟩ = some (.slice Ao11 t182.length co11) := (blk_cell BK189.out 5).trans rfl
           have hcz27_6 : wr.cell? ⟨gb189, 6, none⟩ = some (.slice Ao12 t185.length co12) := (blk_cell BK189.out 6).trans rfl
           have hfz27_0 := blk_frozen BK189.out 0
           have hfz27_1 := blk_frozen BK189.out 1
           have hfz27_2 := blk_frozen BK189.out 2
           have hfz27_3 := blk_frozen BK189.out 3
           have hfz27_4 := blk_frozen BK189.out 4
           have hfz27_5 := blk_frozen BK189.out 5
           have hfz27_6 := blk_frozen BK189.out 6
           have p190 : 0 ≤ (x8_2 : Int) := of_decide_eq_true (by first | (with_reducible assumption) | assumption)
           have q190 : x8_2 < (t185.length : Int) := of_decide_eq_true (by first | (with_reducible assumption) | assumption)
           obtain ⟨ad190, e190, hx190_0⟩ := Kd.at_int (Kd.V_reads' HO_190006.out).2.2 x8_2 p190 q190
           cases e190
           replace p190 := eq_true p190
           replace q190 := eq_true q190
           have hcz28_0 : wr.cell? ⟨gb176, 0, none⟩ = some (.string a0_0) := (blk_cell BK176.out 0).trans rfl
           have hcz28_1 : wr.cell? ⟨gb176, 1, none⟩ = some (.bool a0_1) := (blk_cell BK176.out 1).trans rfl
           have hcz28_2 : wr.cell? ⟨gb176, 2, none⟩ = some (.slice A0_2 l0_2.length c0_2) := (blk_cell BK176.out 2).trans rfl
           have hcz28_3 : wr.cell? ⟨gb176, 3, none⟩ = some (.int .i64 a0_3) := (blk_cell BK176.out 3).trans rfl
           have hcz28_4 : wr.cell? ⟨gb176, 4, none⟩ = some (.slice A0_4 l0_4.length c0_4) := (blk_cell BK176.out 4).trans rfl
           have hfz28_0 := blk_frozen BK176.out 0
           have hfz28_1 := blk_frozen BK176.out 1
           have hfz28_2 := blk_frozen BK176.out 2
           have hfz28_3 := blk_frozen BK176.out 3
           have hfz28_4 := blk_frozen BK176.out 4
           obtain ⟨Ao29, co29, eo29⟩ := Kd.R_slice HO_7.out
           subst eo29
           go_wp2_with (first | (go_at_call 31; (with_reducible refine (plnref3_In.calls k2 _ _ x7_2 (rd t185 x8_2) true _ ?side1 ?side2 A24.out).mono ?_); (case side1 => repeat (first | exact (Kd.R_reads' HO_7.out).2.2 | (with_reducible refine Kd.C_alloc ?_ _) | (with_reducible refine Kd.C_drewN ?_ _) | (with_reducible refine Kd.C_drew ?_))); (case side2 => exact (Kd.R_reads' HO_7.out).2.1); rintro e w' ⟨rfl, ⟨nd, rfl⟩⟩))
           go_roundg k2
           case measure => have := HJ3.out; have := HK2.out; omega
           case rel => exact ⟨(x7_2), (wrap64 (x8_2 + 1)), (by first | rfl | (simp; done) | (simp [*]; done)), H', ⟨by have := HJ3.out; have := HK2.out; omega⟩, ⟨by (with_reducible repeat (first | apply Kd.R_alloc | apply Kd.R_drewN | apply Kd.R_drew)); exact HO_7.out⟩, ⟨by (with_reducible repeat (first | apply Kd.V_alloc | apply Kd.V_drewN | apply Kd.V_drew)); exact HO_190005.out⟩, ⟨by (with_reducible repeat (first | apply Kd.V_alloc | apply Kd.V_drewN | apply Kd.V_drew)); exact HO_190006.out⟩, ⟨by (with_reducible repeat (first | refine blk_drewN ?_ _ | refine blk_drew ?_ | refine blk_alloc ?_ _)); exact BK176.out⟩, ⟨by (with_reducible repeat (first | refine blk_drewN ?_ _ | refine blk_drew ?_ | refine blk_alloc ?_ _)); exact BK189.out⟩, ⟨by repeat (first | (with_reducible first | exact HB.out | apply below_alloc | apply pw_below_drewN | apply below_drew1 | refine below_set ?_ GE176.out | refine below_set ?_ GE189.out) | exact HB.out)⟩⟩
          ·replace c25 := Bool.eq_false_iff.mpr c25
           subst c25
           have H1 : (if x7_2.length < 17592186044416 then (plnref3_Next.l0 k2 (x7_2 ++ [rd t185 x8_2]) (wrap64 (x8_2 + 1)) a0_0 a0_1 l0_2 a0_3 l0_4 t177 t178 t179 t180 t181 t182 t185) else (none)) = some r := by rw [if_neg (show ¬ (false = true) by decide)] at H; exact H
           clear H; have H := H1; clear H1
           by_cases c30 : x7_2.length < 17592186044416
           ·rw [if_pos c30] at H
            have LMc30 := Aside0.mk c30
            clear c30
            obtain ⟨y192, hy192⟩ : ∃ y_ : List Int, y_ = (x7_2 ++ [rd t185 x8_2]) := ⟨_, rfl⟩
            replace H : (plnref3_Next.l0 k2 y192 (wrap64 (x8_2 + 1)) a0_0 a0_1 l0_2 a0_3 l0_4 t177 t178 t179 t180 t181 t182 t185) = some r := by first | (rw [hy192]; with_reducible exact H) | (have H2_ := (Option.bind_some _ _).symm.trans H; rw [hy192]; with_reducible exact H2_) | (have H2_ := (Option.bind_some _ _).symm.trans H; with_reducible exact H2_) | with_reducible exact H | (rw [hy192]; exact H) | exact H
            have Ny192 := Aside0.mk hy192
            clear hy192
            have H' := Aside0.mk H
            clear H
            have hnb31 := NB189_176.out
            have hnc31 := NB176_189.out
            have hcz32_0 : wr.cell? ⟨gb189, 0, none⟩ = some (.int .i64 t177) := (blk_cell BK189.out 0).trans rfl
            have hcz32_1 : wr.cell? ⟨gb189, 1, none⟩ = some (.int .i64 t178) := (blk_cell BK189.out 1).trans rfl
            have hcz32_2 : wr.cell? ⟨gb189, 2, none⟩ = some (.int .i64 t179) := (blk_cell BK189.out 2).trans rfl
            have hcz32_3 : wr.cell? ⟨gb189, 3, none⟩ = some (.int .i64 t180) := (blk_cell BK189.out 3).trans rfl
            have hcz32_4 : wr.cell? ⟨gb189, 4, none⟩ = some (.int .i64 t181) := (blk_cell BK189.out 4).trans rfl
            have hcz32_5 : wr.cell? ⟨gb189, 5, none⟩ = some (.slice Ao11 t182.length co11) := (blk_cell BK189.out 5).trans rfl
            have hcz32_6 : wr.cell? ⟨gb189, 6, none⟩ = some (.slice Ao12 t185.length co12) := (blk_cell BK189.out 6).trans rfl
            have hfz32_0 := blk_frozen BK189.out 0
            have hfz32_1 := blk_frozen BK189.out 1
            have hfz32_2 := blk_frozen BK189.out 2
            have hfz32_3 := blk_frozen BK189.out 3
            have hfz32_4 := blk_frozen BK189.out 4
            have hfz32_5 := blk_frozen BK189.out 5
            have hfz32_6 := blk_frozen BK189.out 6
            have p190 : 0 ≤ (x8_2 : Int) := of_decide_eq_true (by first | (with_reducible assumption) | assumption)
            have q190 : x8_2 < (t185.length : Int) := of_decide_eq_true (by first | (with_reducible assumption) | assumption)
            obtain ⟨ad190, e190, hx190_0⟩ := Kd.at_int (Kd.V_reads' HO_190006.out).2.2 x8_2 p190 q190
            cases e190
            replace p190 := eq_true p190
            replace q190 := eq_true q190
            have hcz33_0 : wr.cell? ⟨gb176, 0, none⟩ = some (.string a0_0) := (blk_cell BK176.out 0).trans rfl
            have hcz33_1 : wr.cell? ⟨gb176, 1, none⟩ = some (.bool a0_1) := (blk_cell BK176.out 1).trans rfl
            have hcz33_2 : wr.cell? ⟨gb176, 2, none⟩ = some (.slice A0_2 l0_2.length c0_2) := (blk_cell BK176.out 2).trans rfl
            have hcz33_3 : wr.cell? ⟨gb176, 3, none⟩ = some (.int .i64 a0_3) := (blk_cell BK176.out 3).trans rfl
            have hcz33_4 : wr.cell? ⟨gb176, 4, none⟩ = some (.slice A0_4 l0_4.length c0_4) := (blk_cell BK176.out 4).trans rfl
            have hfz33_0 := blk_frozen BK176.out 0
            have hfz33_1 := blk_frozen BK176.out 1
            have hfz33_2 := blk_frozen BK176.out 2
            have hfz33_3 := blk_frozen BK176.out 3
            have hfz33_4 := blk_frozen BK176.out 4
            obtain ⟨Ao34, co34, eo34⟩ := Kd.R_slice HO_7.out
            subst eo34
            go_wp2_with (first | (go_at_call 31; (with_reducible refine (plnref3_In.calls k2 _ _ x7_2 (rd t185 x8_2) false _ ?side1 ?side2 A24.out).mono ?_); (case side1 => repeat (first | exact (Kd.R_reads' HO_7.out).2.2 | (with_reducible refine Kd.C_alloc ?_ _) | (with_reducible refine Kd.C_drewN ?_ _) | (with_reducible refine Kd.C_drew ?_))); (case side2 => exact (Kd.R_reads' HO_7.out).2.1); rintro e w' ⟨rfl, ⟨nd, rfl⟩⟩) | ((with_reducible refine gate_builtin (b := .append) (xs := #[.tmp 55, .tmp 57]) rfl ?_); (try (refine gate_guard (by rfl) ?_; dsimp only)); at_builtin; refine Kd.R_append (Kd.int .i64) (w0 := w) w.heap.size rfl (.tmp 55) (.tmp 57) 22 3 (.int .i64 0) 8 rfl Try.underlying22 info3 rfl (by decide) (by omega) (.slice Ao34 x7_2.length co34) x7_2 (rd t185 x8_2) [.int .i64 (rd t185 x8_2)] (fun _ => True) (fun _ => False) rfl rfl ?aP (fun _ hk => hk.elim) ?aF ?aO ?aB ?aS ?aL ?_; (case aP => exact rfl); (case aB => exact (by repeat (first | (with_reducible first | exact HB.out | apply below_alloc | apply pw_below_drewN | apply below_drew1 | refine below_set ?_ GE176.out | refine below_set ?_ GE189.out) | exact HB.out))); (case aF => exact (fun _ _ => trivial)); (case aO => exact (by (with_reducible repeat (first | apply Kd.R_alloc | apply Kd.R_drewN | apply Kd.R_drew)); exact HO_7.out)); (case aS => exact (below_size (by repeat (first | (with_reducible first | exact HB.out | apply below_alloc | apply pw_below_drewN | apply below_drew1 | refine below_set ?_ GE176.out | refine below_set ?_ GE189.out) | exact HB.out)))); (case aL => have := LMc30.out; omega); intro v193 w35 ho hb hg hat; rw [← Ny192.out] at ho; have n0_ := Aside0.mk (Kd.V_afterv (ok := (fun k_ => k_ ≠ gb176 ∧ k_ ≠ gb189)) (by (with_reducible repeat (first | apply Kd.V_alloc | apply Kd.V_drewN | apply Kd.V_drew)); exact Kd.V_mono HO_190005.out (fun _ hk => ⟨⟨hk.2.1, hk.2.2⟩, hk.1⟩)) hg hat); have n1_ := Aside0.mk (Kd.V_afterv (ok := (fun k_ => k_ ≠ gb176 ∧ k_ ≠ gb189)) (by (with_reducible repeat (first | apply Kd.V_alloc | apply Kd.V_drewN | apply Kd.V_drew)); exact Kd.V_mono HO_190006.out (fun _ hk => ⟨⟨hk.2.1, hk.2.2⟩, hk.1⟩)) hg hat); have n2_ := Aside0.mk (blk_grown (g := gb176) (o := .cells #[.string a0_0, .bool a0_1, .slice A0_2 l0_2.length c0_2, .int .i64 a0_3, .slice A0_4 l0_4.length c0_4] 25 (0, 0)) (by (with_reducible repeat (first | refine blk_drewN ?_ _ | refine blk_drew ?_ | refine blk_alloc ?_ _)); exact BK176.out) hg (Kd.R_ne HO_7.out BK176.out (by decide))); have n3_ := Aside0.mk (blk_grown (g := gb189) (o := .cells #[.int .i64 t177, .int .i64 t178, .int .i64 t179, .int .i64 t180, .int .i64 t181, .slice Ao11 t182.length co11, .slice (some ad190) t185.length co12] 56 (0, 0)) (by (with_reducible repeat (first | refine blk_drewN ?_ _ | refine blk_drew ?_ | refine blk_alloc ?_ _)); exact BK189.out) hg (Kd.R_ne HO_7.out BK189.out (by decide))); have n4_ := Aside0.mk (hb); have n5_ := Aside0.mk (ho); clear HO_190005; clear HO_190006; clear BK176; clear BK189; clear HB; clear HO_7; have HO_190005 := n0_; have HO_190006 := n1_; have BK176 := n2_; have BK189 := n3_; have HB := n4_; have HO194 := n5_; clear n0_ n1_ n2_ n3_ n4_ n5_; clear ho hb hg hat))
            go_roundg k2
            case measure => have := HJ3.out; have := HK2.out; omega
            case rel => exact ⟨(y192), (wrap64 (x8_2 + 1)), (by first | rfl | (simp; done) | (simp [*]; done)), H', ⟨by have := HJ3.out; have := HK2.out; omega⟩, ⟨by (with_reducible repeat (first | apply Kd.R_alloc | apply Kd.R_drewN | apply Kd.R_drew)); exact HO194.out⟩, ⟨by (with_reducible repeat (first | apply Kd.V_alloc | apply Kd.V_drewN | apply Kd.V_drew)); exact Kd.V_mono HO_190005.out (fun _ hk => ⟨hk.2, ⟨hk.1.1, hk.1.2⟩⟩)⟩, ⟨by (with_reducible repeat (first | apply Kd.V_alloc | apply Kd.V_drewN | apply Kd.V_drew)); exact Kd.V_mono HO_190006.out (fun _ hk => ⟨hk.2, ⟨hk.1.1, hk.1.2⟩⟩)⟩, ⟨by (with_reducible repeat (first | refine blk_drewN ?_ _ | refine blk_drew ?_ | refine blk_alloc ?_ _)); exact BK176.out⟩, ⟨by (with_reducible repeat (first | refine blk_drewN ?_ _ | refine blk_drew ?_ | refine blk_alloc ?_ _)); exact BK189.out⟩, ⟨by repeat (first | (with_reducible first | exact HB.out | apply below_alloc | apply pw_below_drewN | apply below_drew1 | refine below_set ?_ GE176.out | refine below_set ?_ GE189.out) | exact HB.out)⟩⟩
           ·rw [if_neg c30] at H
            exact absurd H (by simp)
         ·rw [if_neg c23] at H
          have c23b0 : decide ((rd t185 x8_2) < (l0_4.length : Int)) = false := decide_eq_false c23
          clear c23
          have H' := Aside0.mk H
          clear H
          have hnb36 := NB189_176.out
          have hnc36 := NB176_189.out
          have hcz37_0 : wr.cell? ⟨gb189, 0, none⟩ = some (.int .i64 t177) := (blk_cell BK189.out 0).trans rfl
          have hcz37_1 : wr.cell? ⟨gb189, 1, none⟩ = some (.int .i64 t178) := (blk_cell BK189.out 1).trans rfl
          have hcz37_2 : wr.cell? ⟨gb189, 2, none⟩ = some (.int .i64 t179) := (blk_cell BK189.out 2).trans rfl
          have hcz37_3 : wr.cell? ⟨gb189, 3, none⟩ = some (.int .i64 t180) := (blk_cell BK189.out 3).trans rfl
          have hcz37_4 : wr.cell? ⟨gb189, 4, none⟩ = some (.int .i64 t181) := (blk_cell BK189.out 4).trans rfl
          have hcz37_5 : wr.cell? ⟨gb189, 5, none⟩ = some (.slice Ao11 t182.length co11) := (blk_cell BK189.out 5).trans rfl
          have hcz37_6 : wr.cell? ⟨gb189, 6, none⟩ = some (.slice Ao12 t185.length co12) := (blk_cell BK189.out 6).trans rfl
          have hfz37_0 := blk_frozen BK189.out 0
          have hfz37_1 := blk_frozen BK189.out 1
          have hfz37_2 := blk_frozen BK189.out 2
          have hfz37_3 := blk_frozen BK189.out 3
          have hfz37_4 := blk_frozen BK189.out 4
          have hfz37_5 := blk_frozen BK189.out 5
          have hfz37_6 := blk_frozen BK189.out 6
          have p190 : 0 ≤ (x8_2 : Int) := of_decide_eq_true (by first | (with_reducible assumption) | assumption)
          have q190 : x8_2 < (t185.length : Int) := of_decide_eq_true (by first | (with_reducible assumption) | assumption)
          obtain ⟨ad190, e190, hx190_0⟩ := Kd.at_int (Kd.V_reads' HO_190006.out).2.2 x8_2 p190 q190
          cases e190
          replace p190 := eq_true p190
          replace q190 := eq_true q190
          have hcz38_0 : wr.cell? ⟨gb176, 0, none⟩ = some (.string a0_0) := (blk_cell BK176.out 0).trans rfl
          have hcz38_1 : wr.cell? ⟨gb176, 1, none⟩ = some (.bool a0_1) := (blk_cell BK176.out 1).trans rfl
          have hcz38_2 : wr.cell? ⟨gb176, 2, none⟩ = some (.slice A0_2 l0_2.length c0_2) := (blk_cell BK176.out 2).trans rfl
          have hcz38_3 : wr.cell? ⟨gb176, 3, none⟩ = some (.int .i64 a0_3) := (blk_cell BK176.out 3).trans rfl
          have hcz38_4 : wr.cell? ⟨gb176, 4, none⟩ = some (.slice A0_4 l0_4.length c0_4) := (blk_cell BK176.out 4).trans rfl
          have hfz38_0 := blk_frozen BK176.out 0
          have hfz38_1 := blk_frozen BK176.out 1
          have hfz38_2 := blk_frozen BK176.out 2
          have hfz38_3 := blk_frozen BK176.out 3
          have hfz38_4 := blk_frozen BK176.out 4
          go_wp2
          go_roundg k2
          case measure => have := HJ3.out; have := HK2.out; omega
          case rel => exact ⟨(x7_2), (wrap64 (x8_2 + 1)), (by first | rfl | (simp; done) | (simp [*]; done)), H', ⟨by have := HJ3.out; have := HK2.out; omega⟩, ⟨by (with_reducible repeat (first | apply Kd.R_alloc | apply Kd.R_drewN | apply Kd.R_drew)); exact HO_7.out⟩, ⟨by (with_reducible repeat (first | apply Kd.V_alloc | apply Kd.V_drewN | apply Kd.V_drew)); exact HO_190005.out⟩, ⟨by (with_reducible repeat (first | apply Kd.V_alloc | apply Kd.V_drewN | apply Kd.V_drew)); exact HO_190006.out⟩, ⟨by (with_reducible repeat (first | refine blk_drewN ?_ _ | refine blk_drew ?_ | refine blk_alloc ?_ _)); exact BK176.out⟩, ⟨by (with_reducible repeat (first | refine blk_drewN ?_ _ | refine blk_drew ?_ | refine blk_alloc ?_ _)); exact BK189.out⟩, ⟨by repeat (first | (with_reducible first | exact HB.out | apply below_alloc | apply pw_below_drewN | apply below_drew1 | refine below_set ?_ GE176.out | refine below_set ?_ GE189.out) | exact HB.out)⟩⟩
        ·rw [if_neg c22] at H
         have c22b0 : decide (0 ≤ (rd t185 x8_2)) = false := decide_eq_false c22
         clear c22
         have H' := Aside0.mk H
         clear H
         have hnb39 := NB189_176.out
         have hnc39 := NB176_189.out
         have hcz40_0 : wr.cell? ⟨gb189, 0, none⟩ = some (.int .i64 t177) := (blk_cell BK189.out 0).trans rfl
         have hcz40_1 : wr.cell? ⟨gb189, 1, none⟩ = some (.int .i64 t178) := (blk_cell BK189.out 1).trans rfl
         have hcz40_2 : wr.cell? ⟨gb189, 2, none⟩ = some (.int .i64 t179) := (blk_cell BK189.out 2).trans rfl
         have hcz40_3 : wr.cell? ⟨gb189, 3, none⟩ = some (.int .i64 t180) := (blk_cell BK189.out 3).trans rfl
         have hcz40_4 : wr.cell? ⟨gb189, 4, none⟩ = some (.int .i64 t181) := (blk_cell BK189.out 4).trans rfl
         have hcz40_5 : wr.cell? ⟨gb189, 5, none⟩ = some (.slice Ao11 t182.length co11) := (blk_cell BK189.out 5).trans rfl
         have hcz40_6 : wr.cell? ⟨gb189, 6, none⟩ = some (.slice Ao12 t185.length co12) := (blk_cell BK189.out 6).trans rfl
         have hfz40_0 := blk_frozen BK189.out 0
         have hfz40_1 := blk_frozen BK189.out 1
         have hfz40_2 := blk_frozen BK189.out 2
         have hfz40_3 := blk_frozen BK189.out 3
         have hfz40_4 := blk_frozen BK189.out 4
         have hfz40_5 := blk_frozen BK189.out 5
         have hfz40_6 := blk_frozen BK189.out 6
         have p190 : 0 ≤ (x8_2 : Int) := of_decide_eq_true (by first | (with_reducible assumption) | assumption)
         have q190 : x8_2 < (t185.length : Int) := of_decide_eq_true (by first | (with_reducible assumption) | assumption)
         obtain ⟨ad190, e190, hx190_0⟩ := Kd.at_int (Kd.V_reads' HO_190006.out).2.2 x8_2 p190 q190
         cases e190
         replace p190 := eq_true p190
         replace q190 := eq_true q190
         go_wp2
         go_roundg k2
         case measure => have := HJ3.out; have := HK2.out; omega
         case rel => exact ⟨(x7_2), (wrap64 (x8_2 + 1)), (by first | rfl | (simp; done) | (simp [*]; done)), H', ⟨by have := HJ3.out; have := HK2.out; omega⟩, ⟨by (with_reducible repeat (first | apply Kd.R_alloc | apply Kd.R_drewN | apply Kd.R_drew)); exact HO_7.out⟩, ⟨by (with_reducible repeat (first | apply Kd.V_alloc | apply Kd.V_drewN | apply Kd.V_drew)); exact HO_190005.out⟩, ⟨by (with_reducible repeat (first | apply Kd.V_alloc | apply Kd.V_drewN | apply Kd.V_drew)); exact HO_190006.out⟩, ⟨by (with_reducible repeat (first | refine blk_drewN ?_ _ | refine blk_drew ?_ | refine blk_alloc ?_ _)); exact BK176.out⟩, ⟨by (with_reducible repeat (first | refine blk_drewN ?_ _ | refine blk_drew ?_ | refine blk_alloc ?_ _)); exact BK189.out⟩, ⟨by repeat (first | (with_reducible first | exact HB.out | apply below_alloc | apply pw_below_drewN | apply below_drew1 | refine below_set ?_ GE176.out | refine below_set ?_ GE189.out) | exact HB.out)⟩⟩
       ·rw [if_neg c21] at H
        exact absurd H (by simp)
      ·rw [if_neg c20] at H
       have c20b0 : decide (x8_2 < (t185.length : Int)) = false := decide_eq_false c20
       clear c20
       obtain rfl := Option.some.inj H
       have hnb41 := NB189_176.out
       have hnc41 := NB176_189.out
       have hcz42_0 : wr.cell? ⟨gb189, 0, none⟩ = some (.int .i64 t177) := (blk_cell BK189.out 0).trans rfl
       have hcz42_1 : wr.cell? ⟨gb189, 1, none⟩ = some (.int .i64 t178) := (blk_cell BK189.out 1).trans rfl
       have hcz42_2 : wr.cell? ⟨gb189, 2, none⟩ = some (.int .i64 t179) := (blk_cell BK189.out 2).trans rfl
       have hcz42_3 : wr.cell? ⟨gb189, 3, none⟩ = some (.int .i64 t180) := (blk_cell BK189.out 3).trans rfl
       have hcz42_4 : wr.cell? ⟨gb189, 4, none⟩ = some (.int .i64 t181) := (blk_cell BK189.out 4).trans rfl
       have hcz42_5 : wr.cell? ⟨gb189, 5, none⟩ = some (.slice Ao11 t182.length co11) := (blk_cell BK189.out 5).trans rfl
       have hcz42_6 : wr.cell? ⟨gb189, 6, none⟩ = some (.slice Ao12 t185.length co12) := (blk_cell BK189.out 6).trans rfl
       have hfz42_0 := blk_frozen BK189.out 0
       have hfz42_1 := blk_frozen BK189.out 1
       have hfz42_2 := blk_frozen BK189.out 2
       have hfz42_3 := blk_frozen BK189.out 3
       have hfz42_4 := blk_frozen BK189.out 4
       have hfz42_5 := blk_frozen BK189.out 5
       have hfz42_6 := blk_frozen BK189.out 6
       go_wp2
       go_ret
       exact ⟨_, by first | rfl | (simp [errW_none, errW_some] <;> rfl) | (simp [*, errW_none, errW_some] <;> rfl), by (with_reducible repeat (first | apply Kd.R_alloc | apply Kd.R_drewN | apply Kd.R_drew)); exact HO_7.out, by repeat (first | (with_reducible first | exact HB.out | apply below_alloc | apply pw_below_drewN | apply below_drew1 | refine below_set ?_ GE176.out | refine below_set ?_ GE189.out) | exact HB.out)⟩
end Go.Proofs.Ytkcimaibaicdcaa.P
