/- A part of the proof of the law of FlowOrders: lemmas and walks, out of this session's texts, with what the claim does not use struck out. -/
import Derived.Test.YtkcimaibaicdcaaO6
import Derived.Test.YtkcimaibaicdcaaO17
import Derived.Test.YtkcimaibaicdcaaO18
section
namespace Go.Proofs.Ytkcimaibaicdcaa.P
open Go.RowKit Go.Proofs.YtkcimaibaicdcaaW.PrintWords Go.Proofs.YtkcimaibaicdcaaW.PrintLast Go.Proofs.YtkcimaibaicdcaaW.PrintMore
attribute [local go_sem] max2_int min2_int max_two min_two max_three min_three max_four min_four   
set_option linter.unusedVariables false
set_option linter.unusedSimpArgs false
def plnref3_Reach.f (k : Nat) (a0_0 : ByteArray) (a0_1 : Bool) (l0_2 : List Int) (a0_3 : Int) (l0_4 : List (S54)) : Option (List Bool) := (plnref3_from.f k a0_0 a0_1 l0_2 a0_3 l0_4 0 (-1)).bind fun t242 => (some t242)
theorem plnref3_Reach.mono : ∀ a0 a1 a2 a3 a4 k, LeO (plnref3_Reach.f k a0 a1 a2 a3 a4) (plnref3_Reach.f (k + 1) a0 a1 a2 a3 a4) := by
 intro a0 a1 a2 a3 a4 k
 unfold plnref3_Reach.f
 repeat' first
   | (with_reducible exact plnref3_from.mono _ _ _ _ _ _ _ _)
   | (with_reducible exact LeO.refl _)
   | (with_reducible exact LeO.none _)
   | (with_reducible refine LeO.ite ?_ ?_)
   | (with_reducible refine LeO.bind ?_ (fun _ => ?_))
   | exact plnref3_from.mono _ _ _ _ _ _ _ _
   | exact LeO.none _
   | refine LeO.ite ?_ ?_
   | refine LeO.bind ?_ (fun _ => ?_)
set_option maxHeartbeats 8000000 in
set_option maxRecDepth 100000 in
theorem plnref3_Reach.calls (k : Nat) (a0_0 : ByteArray) (a0_1 : Bool) (A0_2 : Option Addr) (c0_2 : Nat) (l0_2 : List Int) (a0_3 : Int) (A0_4 : Option Addr) (c0_4 : Nat) (l0_4 : List (S54)) (r : List Bool) (w : World) (hr0_2 : Kd.C (Kd.int .i64) w A0_2 l0_2.length l0_2) (hc0_2 : l0_2.length ≤ c0_2) (hr0_4 : Kd.C k54 w A0_4 l0_4.length l0_4) (hc0_4 : l0_4.length ≤ c0_4) (h : plnref3_Reach.f k a0_0 a0_1 l0_2 a0_3 l0_4 = some r) :
  Calls Try.prog 26 #[.agg #[.string a0_0, .bool a0_1, .slice A0_2 l0_2.length c0_2, .int .i64 a0_3, .slice A0_4 l0_4.length c0_4]] w fun e w' => ∃ v0_ : Value, e = .returned (v0_) ∧ Kd.R Kd.bool 4 w' w.heap.size (fun _ => True) v0_ r ∧ Below w.heap.size w w' := by
 have hu25 := Try.underlying25
 have HR0_2 := Aside0.mk hr0_2
 have HC0_2 := Aside0.mk hc0_2
 clear hr0_2 hc0_2
 have HR0_4 := Aside0.mk hr0_4
 have HC0_4 := Aside0.mk hc0_4
 clear hr0_4 hc0_4; have HB := Aside0.mk (Below.refl w.heap.size w)
 have H : ((plnref3_from.f k a0_0 a0_1 l0_2 a0_3 l0_4 0 (-1)).bind fun t242 => (some t242)) = some r := h
 clear h
 replace H := Option.bind_eq_some_iff.mp H
 obtain ⟨t242, A20, H⟩ := H
 replace H : (some t242) = some r := H
 have A2 := Aside0.mk A20
 clear A20
 obtain rfl := Option.some.inj H
 go_enter Try.func26, Try.ntmps26
 go_wp2_with (first | ((with_reducible refine gate_dst (N := 1) rfl ?_); refine box_event ?hg (N := 1) ?hd (cs := #[.string a0_0, .bool a0_1, .slice A0_2 l0_2.length c0_2, .int .i64 a0_3, .slice A0_4 l0_4.length c0_4]) (t := 25) ?hr ?_; (case hd => rfl); (case hg => rfl); (case hr => first | (go_simp; done) | (go_simp; rfl)); intro gb241 hg w3 hbox hb; have n0_ := Aside0.mk (below_step (by repeat (first | (with_reducible first | exact HB.out | apply below_alloc | apply pw_below_drewN | apply below_drew1) | exact HB.out)) hb); have n1_ := Aside0.mk (hbox); have n2_ := Aside0.mk ((by rw [hg]; exact (below_size (by repeat (first | (with_reducible first | exact HB.out | apply below_alloc | apply pw_below_drewN | apply below_drew1) | exact HB.out))) : w.heap.size ≤ gb241)); have n3_ := Aside0.mk ((by rw [hg]; exact (below_size (by repeat (first | (with_reducible first | exact HB.out | apply below_alloc | apply pw_below_drewN | apply below_drew1) | exact HB.out))) : w.heap.size ≤ gb241)); clear HB; have HB := n0_; have BK241 := n1_; have GW241 := n2_; have GE241 := n3_; clear n0_ n1_ n2_ n3_; clear hb hbox hg; have hcz4_0 : w3.cell? ⟨gb241, 0, none⟩ = some (.string a0_0) := (blk_cell BK241.out 0).trans rfl; have hcz4_1 : w3.cell? ⟨gb241, 1, none⟩ = some (.bool a0_1) := (blk_cell BK241.out 1).trans rfl; have hcz4_2 : w3.cell? ⟨gb241, 2, none⟩ = some (.slice A0_2 l0_2.length c0_2) := (blk_cell BK241.out 2).trans rfl; have hcz4_3 : w3.cell? ⟨gb241, 3, none⟩ = some (.int .i64 a0_3) := (blk_cell BK241.out 3).trans rfl; have hcz4_4 : w3.cell? ⟨gb241, 4, none⟩ = some (.slice A0_4 l0_4.length c0_4) := (blk_cell BK241.out 4).trans rfl; have hfz4_0 := blk_frozen BK241.out 0; have hfz4_1 := blk_frozen BK241.out 1; have hfz4_2 := blk_frozen BK241.out 2; have hfz4_3 := blk_frozen BK241.out 3; have hfz4_4 := blk_frozen BK241.out 4) | ((with_reducible refine gate_callee (f := 65) rfl ?_); refine goesL_ (some 4) rfl rfl Try.func65 (by kernel_rfl) rfl #[.agg #[.string a0_0, .bool a0_1, .slice A0_2 l0_2.length c0_2, .int .i64 a0_3, .slice A0_4 l0_4.length c0_4], .int .i64 0, .int .i64 (-1)] rfl (by (try simp only [List.map_toArray, List.map_cons, List.map_nil]); first | done | rfl | (simp only [List.length_drop, List.length_take]; rfl)) ?_; (with_reducible refine (plnref3_from.calls k a0_0 a0_1 _ _ l0_2 a0_3 _ _ l0_4 0 (-1) t242 _ ?side1 ?side2 ?side3 ?side4 A2.out).mono ?_); (case side1 => repeat (first | exact (Kd.C_below HR0_2.out HB.out) | (with_reducible refine Kd.C_alloc ?_ _) | (with_reducible refine Kd.C_drewN ?_ _) | (with_reducible refine Kd.C_drew ?_))); (case side2 => exact HC0_2.out); (case side3 => repeat (first | exact (Kd.C_below HR0_4.out HB.out) | (with_reducible refine Kd.C_alloc ?_ _) | (with_reducible refine Kd.C_drewN ?_ _) | (with_reducible refine Kd.C_drew ?_))); (case side4 => exact HC0_4.out); rintro e w5 ⟨v243, rfl, ho0, hb⟩; refine ⟨_, rfl, ?_⟩; have n0_ := Aside0.mk (Kd.R_lower ho0 (below_size (by repeat (first | (with_reducible first | exact HB.out | apply below_alloc | apply pw_below_drewN | apply below_drew1 | refine below_set ?_ GE241.out) | exact HB.out)))); have n1_ := Aside0.mk (blk_below (g := gb241) (o := .cells #[.string a0_0, .bool a0_1, .slice A0_2 l0_2.length c0_2, .int .i64 a0_3, .slice A0_4 l0_4.length c0_4] 25 (0, 0)) (by (with_reducible repeat (first | refine blk_drewN ?_ _ | refine blk_drew ?_ | refine blk_alloc ?_ _)); exact BK241.out) hb); have n2_ := Aside0.mk (below_step (by repeat (first | (with_reducible first | exact HB.out | apply below_alloc | apply pw_below_drewN | apply below_drew1 | refine below_set ?_ GE241.out) | exact HB.out)) hb); clear BK241; clear HB; have HO244 := n0_; have BK241 := n1_; have HB := n2_; clear n0_ n1_ n2_; (try clear hb); (try clear hb2); (try clear hk); (try clear hi); (try clear ho0)))
 go_ret
 exact ⟨_, by first | rfl | (simp [errW_none, errW_some] <;> rfl) | (simp [*, errW_none, errW_some] <;> rfl), by (with_reducible repeat (first | apply Kd.R_alloc | apply Kd.R_drewN | apply Kd.R_drew)); exact HO244.out, by repeat (first | (with_reducible first | exact HB.out | apply below_alloc | apply pw_below_drewN | apply below_drew1 | refine below_set ?_ GE241.out) | exact HB.out)⟩
end Go.Proofs.Ytkcimaibaicdcaa.P
end
section
namespace Go.Proofs.Ytkcimaibaicdcaa.Gr
open Go.RowKit Go.Proofs.YtkcimaibaicdcaaW.PrintWords Go.Proofs.Ytkcimaibaicdcaa.P
section
variable {a0 : ByteArray} {a1 : Bool} {l2 : List Int} {a3 : Int} {l4 : List S54}
theorem rnext_l0 {y0 y1 y2 y3 y4 : Int} {y5 : List Int} (x : List Int) (hx : x.length ≤ 17592186043904) : ∀ i, 0 ≤ i → ∀ out : List Int, (out.length : Int) ≤ i → Ev (fun k => plnref3_Next.l0 k out i a0 a1 l2 a3 l4 y0 y1 y2 y3 y4 y5 x) ((x.drop i.toNat).foldl (addTo l4.length) out) := by
  refine up_to (x.length : Int) _ ?_ ?_
  · intro i hi out _
    refine Ev.step (fun k => by simp only [plnref3_Next.l0]; rw [if_neg (by omega)]) ?_
    rw [drop_end (by omega)]
    exact Ev.now _
  · intro i h0 h1 ih out ho
    rw [drop_rd h0 h1, List.foldl_cons]
    by_cases c1 : rd x i ≥ 0
    · by_cases c2 : rd x i < (l4.length : Int)
      · refine Ev.step (fun k => by simp only [plnref3_Next.l0]; rw [if_pos h1, if_pos h0, if_pos c1, if_pos c2, wrap_in (by omega) (by omega)]) ?_
        refine Ev.bind (in_ev out (rd x i) (by omega)) ?_
        by_cases c3 : rd x i ∈ out
        · have e : addTo l4.length out (rd x i) = out := by unfold addTo; rw [if_neg (fun h => h.2.2 c3)]
          rw [e]
          simp only [c3, decide_true, if_true]
          exact ih out (by omega)
        · have e : addTo l4.length out (rd x i) = out ++ [rd x i] := by unfold addTo; rw [if_pos ⟨c1, c2, c3⟩]
          rw [e]
          simp only [c3, decide_false, Bool.false_eq_true, if_false]
          have hl : out.length < 17592186044416 := by omega
          simp only [hl, if_true]
          exact ih _ (by simp; omega)
      · have e : addTo l4.length out (rd x i) = out := by unfold addTo; rw [if_neg (fun h => c2 h.2.1)]
        rw [e]
        refine Ev.step (fun k => by simp only [plnref3_Next.l0]; rw [if_pos h1, if_pos h0, if_pos c1, if_neg c2, wrap_in (by omega) (by omega)]) ?_
        exact ih out (by omega)
    · have e : addTo l4.length out (rd x i) = out := by unfold addTo; rw [if_neg (fun h => c1 h.1)]
      rw [e]
      refine Ev.step (fun k => by simp only [plnref3_Next.l0]; rw [if_pos h1, if_pos h0, if_neg c1, wrap_in (by omega) (by omega)]) ?_
      exact ih out (by omega)
theorem rnext_ev (h : IntoOk l4) (b : Int) : Ev (fun k => plnref3_Next.f k a0 a1 l2 a3 l4 b) (nextOf l4 b) := by
  have stop : ∀ y0 y1 y2 y3 y4 (y5 y6 : List Int), Ev (fun k => plnref3_Next.j0 k true a0 a1 l2 a3 l4 y0 y1 y2 y3 y4 y5 y6) [] := fun _ _ _ _ _ _ _ => Ev.step (fun k => by simp only [plnref3_Next.j0]; rw [if_pos trivial]) (Ev.now _)
  have none_ : plnref3_Last.f a0 a1 l2 a3 l4 b = some (0, 0, 0, 0, 0, [], [], false) → nextOf l4 b = [] → Ev (fun k => plnref3_Next.f k a0 a1 l2 a3 l4 b) (nextOf l4 b) := fun h1 h2 => by
    rw [h2]
    refine Ev.congr (fun k => by unfold plnref3_Next.f; rw [h1, Option.bind_some, if_neg (by decide)]) (stop _ _ _ _ _ _ _)
  by_cases c0 : b < 0
  · exact none_ (by unfold plnref3_Last.f; rw [if_pos c0]) (by unfold nextOf; rw [if_neg (fun h => by have := h.1; omega)])
  by_cases c1 : b ≥ (l4.length : Int)
  · exact none_ (by unfold plnref3_Last.f; rw [if_neg c0, if_pos c1]) (by unfold nextOf; rw [if_neg (fun h => by have := h.2.1; omega)])
  have b0 : 0 ≤ b := by omega
  have b1 : b < (l4.length : Int) := by omega
  obtain ⟨h2, h3⟩ := h.2 b b0 b1
  by_cases c2 : (rd_T54 l4 b).f0 = []
  · exact none_ (by unfold plnref3_Last.f; rw [if_neg c0, if_neg c1, if_pos b0, if_pos b1, if_pos (by rw [c2]; rfl)]) (by unfold nextOf; rw [if_neg (fun h => h.2.2.1 c2)])
  have hp : 0 < (rd_T54 l4 b).f0.length := List.length_pos_iff.2 c2
  have hw : wrap64 ((((rd_T54 l4 b).f0).length : Int) - 1) = ((rd_T54 l4 b).f0.length : Int) - 1 := wrap_in (by omega) (by omega)
  obtain ⟨h4, _⟩ := h3 (((rd_T54 l4 b).f0.length : Int) - 1) (by omega) (by omega)
  have hL : plnref3_Last.f a0 a1 l2 a3 l4 b = some ((lastI l4 b).f0, (lastI l4 b).f1, (lastI l4 b).f2, (lastI l4 b).f3, (lastI l4 b).f4, (lastI l4 b).f5, (lastI l4 b).f6, true) := by
    unfold plnref3_Last.f lastI
    rw [if_neg c0, if_neg c1, if_pos b0, if_pos b1, if_neg (by omega), hw, if_pos (by omega), if_pos (by omega)]
  refine Ev.congr (fun k => by unfold plnref3_Next.f; rw [hL, Option.bind_some, if_pos rfl]) ?_
  have run : Ev (fun k => plnref3_Next.l0 k [] 0 a0 a1 l2 a3 l4 (lastI l4 b).f0 (lastI l4 b).f1 (lastI l4 b).f2 (lastI l4 b).f3 (lastI l4 b).f4 (lastI l4 b).f5 (lastI l4 b).f6) ((lastI l4 b).f6.foldl (addTo l4.length) []) := by
    have := rnext_l0 (a0 := a0) (a1 := a1) (l2 := l2) (a3 := a3) (l4 := l4) (y0 := (lastI l4 b).f0) (y1 := (lastI l4 b).f1) (y2 := (lastI l4 b).f2) (y3 := (lastI l4 b).f3) (y4 := (lastI l4 b).f4) (y5 := (lastI l4 b).f5) (lastI l4 b).f6 h4 0 (by omega) [] (by simp)
    simpa using this
  by_cases c3 : (lastI l4 b).f0 = 27
  · have e : nextOf l4 b = (lastI l4 b).f6.foldl (addTo l4.length) [] := by unfold nextOf; rw [if_pos ⟨b0, b1, c2, .inl c3⟩]
    rw [e]
    simp only [if_pos c3]
    refine Ev.step (fun k => by simp only [plnref3_Next.j0]; rw [if_neg (by decide)]) ?_
    exact run
  · simp only [if_neg c3]
    by_cases c4 : (lastI l4 b).f0 = 28
    · have e : nextOf l4 b = (lastI l4 b).f6.foldl (addTo l4.length) [] := by unfold nextOf; rw [if_pos ⟨b0, b1, c2, .inr c4⟩]
      rw [e]
      have : ((lastI l4 b).f0 != 28) = false := by rw [c4]; rfl
      rw [this]
      refine Ev.step (fun k => by simp only [plnref3_Next.j0]; rw [if_neg (by decide)]) ?_
      exact run
    · have e : nextOf l4 b = [] := by unfold nextOf; rw [if_neg (fun h => h.2.2.2.elim c3 c4)]
      rw [e]
      have : ((lastI l4 b).f0 != 28) = true := by rw [bne_iff_ne]; exact c4
      rw [this]
      exact stop _ _ _ _ _ _ _
theorem rdL_set {xs : List (List Int)} {i j : Int} {x : List Int} (h0 : 0 ≤ i) (h1 : i < (xs.length : Int)) (hj : 0 ≤ j) : rd_L1 (xs.set i.toNat x) j = if i = j then x else rd_L1 xs j := by
  unfold rd_L1
  rw [List.getD_eq_getElem?_getD, List.getD_eq_getElem?_getD, List.getElem?_set]
  by_cases e : i = j
  · subst e
    have : i.toNat < xs.length := by omega
    simp [this]
  · have : ¬ i.toNat = j.toNat := by omega
    simp [e, this]
theorem rdL_replicate {n : Nat} {j : Int} : rd_L1 (List.replicate n []) j = [] := by
  simp only [rd_L1, List.getD_eq_getElem?_getD, List.getElem?_replicate]
  split <;> rfl
def PrevAt (l4 : List S54) (acc : List (List Int)) (i j : Int) : Prop :=
  acc.length = l4.length ∧ ∀ b : Int, 0 ≤ b → b < (l4.length : Int) →
    (∀ a, a ∈ rd_L1 acc b ↔ (0 ≤ a ∧ a < i ∧ b ∈ nextOf l4 a) ∨ (a = i ∧ ∃ q : Int, 0 ≤ q ∧ q < j ∧ q < ((nextOf l4 i).length : Int) ∧ rd (nextOf l4 i) q = b)) ∧
    ((rd_L1 acc b).length : Int) ≤ i + 1 ∧ ((¬ ∃ q : Int, 0 ≤ q ∧ q < j ∧ q < ((nextOf l4 i).length : Int) ∧ rd (nextOf l4 i) q = b) → ((rd_L1 acc b).length : Int) ≤ i)
def PrevIs (l4 : List S54) (r : List (List Int)) : Prop :=
  r.length = l4.length ∧ ∀ b : Int, 0 ≤ b → b < (l4.length : Int) → (∀ a, a ∈ rd_L1 r b ↔ 0 ≤ a ∧ a < (l4.length : Int) ∧ b ∈ nextOf l4 a) ∧ (rd_L1 r b).length ≤ l4.length
theorem rd_inj {x : List Int} (h : x.Nodup) {i j : Int} (i0 : 0 ≤ i) (i1 : i < (x.length : Int)) (j0 : 0 ≤ j) (j1 : j < (x.length : Int)) (e : rd x i = rd x j) : i = j := by
  have h1 := rd_eq i0 i1
  have h2 := rd_eq j0 j1
  rw [e] at h1
  have := (List.getElem?_inj (i := i.toNat) (j := j.toNat) (by omega) h).1 (h1.trans h2.symm)
  omega
theorem prevAt_put {acc : List (List Int)} {i j : Int} (h : PrevAt l4 acc i j) (i0 : 0 ≤ i) (j0 : 0 ≤ j) (j1 : j < ((nextOf l4 i).length : Int)) :
    PrevAt l4 (acc.set (rd (nextOf l4 i) j).toNat (rd_L1 acc (rd (nextOf l4 i) j) ++ [i])) i (j + 1) := by
  obtain ⟨hl, h⟩ := h
  obtain ⟨t0, t1⟩ := next_in (rd_mem j0 j1)
  have fresh : ¬ ∃ q : Int, 0 ≤ q ∧ q < j ∧ q < ((nextOf l4 i).length : Int) ∧ rd (nextOf l4 i) q = rd (nextOf l4 i) j := by
    rintro ⟨q, q0, q1, q2, e⟩
    have := rd_inj (next_nodup l4 i) q0 q2 j0 j1 e
    omega
  refine ⟨by simpa using hl, fun b b0 b1 => ?_⟩
  obtain ⟨k1, k2, k3⟩ := h b b0 b1
  rw [rdL_set t0 (by omega) b0]
  by_cases e : rd (nextOf l4 i) j = b
  · rw [if_pos e, e]
    rw [e] at fresh
    have k4 := k3 fresh
    refine ⟨fun a => ?_, by simp; omega, fun hn => absurd ⟨j, j0, by omega, j1, e⟩ hn⟩
    rw [List.mem_append, List.mem_singleton, k1 a]
    constructor
    · rintro ((h1 | ⟨_, h1⟩) | rfl)
      · exact .inl h1
      · exact absurd h1 fresh
      · exact .inr ⟨rfl, j, j0, by omega, j1, e⟩
    · rintro (h1 | ⟨rfl, _⟩)
      · exact .inl (.inl h1)
      · exact .inr rfl
  · rw [if_neg e]
    have iff_ : (∃ q : Int, 0 ≤ q ∧ q < j + 1 ∧ q < ((nextOf l4 i).length : Int) ∧ rd (nextOf l4 i) q = b) ↔ (∃ q : Int, 0 ≤ q ∧ q < j ∧ q < ((nextOf l4 i).length : Int) ∧ rd (nextOf l4 i) q = b) := by
      constructor
      · rintro ⟨q, q0, q1, q2, q3⟩
        refine ⟨q, q0, ?_, q2, q3⟩
        rcases Int.lt_or_eq_of_le (Int.le_of_lt_add_one q1) with hq | rfl
        · exact hq
        · exact absurd q3 e
      · rintro ⟨q, q0, q1, q2, q3⟩
        exact ⟨q, q0, by omega, q2, q3⟩
    rw [iff_]
    exact ⟨k1, k2, k3⟩
theorem prevAt_next {acc : List (List Int)} {i j : Int} (h : PrevAt l4 acc i j) (i0 : 0 ≤ i) (j1 : ((nextOf l4 i).length : Int) ≤ j) : PrevAt l4 acc (i + 1) 0 := by
  obtain ⟨hl, h⟩ := h
  refine ⟨hl, fun b b0 b1 => ?_⟩
  obtain ⟨k1, k2, k3⟩ := h b b0 b1
  refine ⟨fun a => ?_, by omega, fun _ => by omega⟩
  rw [k1 a]
  constructor
  · rintro (⟨a0, a1, a2⟩ | ⟨rfl, q, q0, q1, q2, q3⟩)
    · exact .inl ⟨a0, by omega, a2⟩
    · exact .inl ⟨i0, by omega, by rw [← q3]; exact rd_mem q0 q2⟩
  · rintro (⟨a0, a1, a2⟩ | ⟨_, q, q0, q1, _⟩)
    · rcases Int.lt_or_eq_of_le (Int.le_of_lt_add_one a1) with ha | rfl
      · exact .inl ⟨a0, ha, a2⟩
      · obtain ⟨q, q0, q1, q2⟩ := mem_rd a2
        exact .inr ⟨rfl, q, q0, by omega, q1, q2⟩
    · omega
theorem prev_ev (h : IntoOk l4) : ∃ r, Ev (fun k => flow_Prev.f k a0 a1 l2 a3 l4) r ∧ Ev (fun k => plnref3_Prev.f k a0 a1 l2 a3 l4) r ∧ PrevIs l4 r := by
  have hn := h.1
  have inner : ∀ i : Int, 0 ≤ i → i < (l4.length : Int) → (∀ acc, PrevAt l4 acc (i + 1) 0 → ∃ r, Ev (fun k => flow_Prev.l0 k acc l4.length (i + 1) a0 a1 l2 a3 l4) r ∧ Ev (fun k => plnref3_Prev.l0 k acc (i + 1) a0 a1 l2 a3 l4) r ∧ PrevIs l4 r) →
      ∀ j, 0 ≤ j → ∀ acc, PrevAt l4 acc i j → ∃ r, Ev (fun k => flow_Prev.l1 k acc i l4.length i (nextOf l4 i) (nextOf l4 i).length j a0 a1 l2 a3 l4) r ∧ Ev (fun k => plnref3_Prev.l1 k acc i (nextOf l4 i) j a0 a1 l2 a3 l4) r ∧ PrevIs l4 r := by
    intro i i0 i1 hrest
    refine up_to ((nextOf l4 i).length : Int) _ ?_ ?_
    · intro j hj acc hA
      obtain ⟨r, h1, h2, h3⟩ := hrest acc (prevAt_next hA i0 hj)
      refine ⟨r, Ev.step (fun k => by simp only [flow_Prev.l1]; rw [if_neg (by omega), wrap_in (by omega) (by omega)]) h1, Ev.step (fun k => by simp only [plnref3_Prev.l1]; rw [if_neg (by omega), wrap_in (by omega) (by omega)]) h2, h3⟩
    · intro j j0 j1 ih acc hA
      obtain ⟨t0, t1⟩ := next_in (rd_mem j0 j1)
      obtain ⟨r, h1, h2, h3⟩ := ih _ (prevAt_put hA i0 j0 j1)
      have hl := (hA.2 _ t0 t1).2.1
      have jm : ((nextOf l4 i).length : Int) ≤ 17592186043904 := by
        unfold nextOf
        split
        · rename_i hg
          obtain ⟨g0, g1, g2, _⟩ := hg
          have hp := List.length_pos_iff.2 g2
          obtain ⟨h4, _⟩ := (h.2 i i0 i1).2 (((rd_T54 l4 i).f0.length : Int) - 1) (by omega) (by omega)
          have := fold_len (n := l4.length) (x := (lastI l4 i).f6) (out := [])
          have h4' : (lastI l4 i).f6.length ≤ 17592186043904 := h4
          simp at this
          omega
        · simp
      refine ⟨r, Ev.step (fun k => by simp only [flow_Prev.l1]; rw [if_pos j1, if_pos j0, if_pos j1, if_pos t0, if_pos (by rw [hA.1]; exact t1), if_pos (by omega), wrap_in (by omega) (by omega)]) h1, Ev.step (fun k => by simp only [plnref3_Prev.l1]; rw [if_pos j1, if_pos j0, if_pos t0, if_pos (by rw [hA.1]; exact t1), if_pos (by omega), wrap_in (by omega) (by omega)]) h2, h3⟩
  have outer : ∀ i, 0 ≤ i → ∀ acc, PrevAt l4 acc i 0 → i ≤ (l4.length : Int) → ∃ r, Ev (fun k => flow_Prev.l0 k acc l4.length i a0 a1 l2 a3 l4) r ∧ Ev (fun k => plnref3_Prev.l0 k acc i a0 a1 l2 a3 l4) r ∧ PrevIs l4 r := by
    refine up_to (l4.length : Int) _ ?_ ?_
    · intro i hi acc hA hle
      obtain rfl : i = (l4.length : Int) := by omega
      refine ⟨acc, Ev.step (fun k => by simp only [flow_Prev.l0]; rw [if_neg (by omega)]) (Ev.now _), Ev.step (fun k => by simp only [plnref3_Prev.l0]; rw [if_neg (by omega)]) (Ev.now _), hA.1, fun b b0 b1 => ?_⟩
      obtain ⟨k1, _, k3⟩ := hA.2 b b0 b1
      refine ⟨fun a => ?_, by have := k3 (by rintro ⟨q, q0, q1, _⟩; omega); omega⟩
      rw [k1 a]
      constructor
      · rintro (hh | ⟨_, q, q0, q1, _⟩)
        · exact hh
        · omega
      · exact .inl
    · intro i i0 i1 ih acc hA _
      obtain ⟨r, h1, h2, h3⟩ := inner i i0 i1 (fun acc hA => ih acc hA (by omega)) 0 (by omega) acc hA
      exact ⟨r, Ev.step (fun k => by simp only [flow_Prev.l0]; rw [if_pos i1]) (Ev.bind (next_ev h i) h1), Ev.step (fun k => by simp only [plnref3_Prev.l0]; rw [if_pos i1]) (Ev.bind (rnext_ev h i) h2), h3⟩
  obtain ⟨r, h1, h2, h3⟩ := outer 0 (by omega) (List.replicate l4.length []) ⟨by simp, fun b b0 b1 => ⟨fun a => by rw [rdL_replicate]; exact ⟨(fun hh => by cases hh), fun hh => by rcases hh with ⟨_, _, _⟩ | ⟨_, q, q0, q1, _⟩ <;> omega⟩, by rw [rdL_replicate]; simp, fun _ => by rw [rdL_replicate]; simp⟩⟩ (by omega)
  refine ⟨r, Ev.congr (fun k => by unfold flow_Prev.f; rw [if_pos (by omega), if_pos (by simp; omega), Int.toNat_natCast]) h1, Ev.congr (fun k => by unfold plnref3_Prev.f; rw [if_pos (by omega), if_pos (by simp; omega), Int.toNat_natCast]) h2, h3⟩
end
end Go.Proofs.Ytkcimaibaicdcaa.Gr
end
