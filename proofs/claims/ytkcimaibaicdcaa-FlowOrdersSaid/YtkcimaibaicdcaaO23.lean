/- A part of the proof of the law of FlowOrders: lemmas and walks, out of this session's texts, with what the claim does not use struck out. -/
import Derived.Test.YtkcimaibaicdcaaO12
import Derived.Test.YtkcimaibaicdcaaO22
namespace Go.Proofs.Ytkcimaibaicdcaa.Pure
open Go.RowKit Go.Proofs.Ytkcimaibaicdcaa.P Go.Proofs.YtkcimaibaicdcaaW.PrintWords Go.Proofs.YtkcimaibaicdcaaW.PrintLast Go.Proofs.Ytkcimaibaicdcaa.Gr
def posOf (ro : List Int) (v : Int) : Int := if v ∈ ro then (ro.length : Int) - (ro.idxOf v : Int) else 0
theorem posOf_pos {ro : List Int} {v : Int} (h : v ∈ ro) : 0 < posOf ro v ∧ posOf ro v ≤ ro.length := by
  unfold posOf; rw [if_pos h]
  have := List.idxOf_lt_length_of_mem h
  omega
theorem rd_rev {ro : List Int} (hd : ro.Nodup) {i : Int} (i0 : 0 ≤ i) (i1 : i < (ro.length : Int)) : rd ro.reverse i ∈ ro ∧ posOf ro (rd ro.reverse i) = i + 1 := by
  have e := rd_eq (xs := ro.reverse) i0 (by simpa using i1)
  have hm : rd ro.reverse i ∈ ro := List.mem_reverse.1 (rd_mem (xs := ro.reverse) i0 (by simpa using i1))
  refine ⟨hm, ?_⟩
  unfold posOf; rw [if_pos hm]
  rw [List.getElem?_reverse (by omega)] at e
  have hl := List.idxOf_lt_length_of_mem hm
  have e2 : ro[ro.idxOf (rd ro.reverse i)]? = some (rd ro.reverse i) := by rw [List.getElem?_eq_getElem hl, List.getElem_idxOf]
  have := (List.getElem?_inj (i := ro.length - 1 - i.toNat) (j := ro.idxOf (rd ro.reverse i)) (by omega) hd).1 (e.trans e2.symm)
  omega
theorem posOf_inj {ro : List Int} {u v : Int} (hu : u ∈ ro) (hv : v ∈ ro) (e : posOf ro u = posOf ro v) : u = v := by
  unfold posOf at e; rw [if_pos hu, if_pos hv] at e
  have h1 := List.idxOf_lt_length_of_mem hu
  have h2 := List.idxOf_lt_length_of_mem hv
  have e3 : ro.idxOf u = ro.idxOf v := by omega
  have e1 : ro[ro.idxOf u]'h1 = u := List.getElem_idxOf h1
  have e2 : ro[ro.idxOf v]'h2 = v := List.getElem_idxOf h2
  rw [← e1, ← e2]; simp only [e3]
section
variable {a0 : ByteArray} {a1 : Bool} {l2 : List Int} {a3 : Int} {l4 : List S54}
structure Laid (n : Nat) (ro : List Int) (rp : Bool) (pr : List (List Int)) (at_ : List Int) (r : List Bool) : Prop where
  small : n ≤ 5864062014634
  lp : pr.length = n
  la : at_.length = n
  lr : r.length = n
  pos : ∀ v : Int, 0 ≤ v → v < (n : Int) → rd at_ v = posOf ro v
  sees : ∀ v : Int, 0 ≤ v → v < (n : Int) → (rdOf false r v = true ↔ v ∈ ro)
  row : ∀ b : Int, 0 ≤ b → b < (n : Int) → (rd_L1 pr b).length ≤ n
  inn : ∀ b : Int, 0 ≤ b → b < (n : Int) → ∀ p ∈ rd_L1 pr b, 0 ≤ p ∧ p < (n : Int)
  one : ∀ b : Int, 0 ≤ b → b < (n : Int) → b ∈ ro → b ≠ 0 → ∃ p ∈ rd_L1 pr b, p ∈ ro ∧ posOf ro p < posOf ro b
  all : rp = false → ∀ b : Int, 0 ≤ b → b < (n : Int) → b ∈ ro → ∀ p ∈ rd_L1 pr b, p ∈ ro → posOf ro p < posOf ro b
theorem pos_iff {ro : List Int} {v : Int} : posOf ro v > 0 ↔ v ∈ ro := by
  constructor
  · intro h
    by_cases hv : v ∈ ro
    · exact hv
    · unfold posOf at h; rw [if_neg hv] at h; omega
  · exact fun h => (posOf_pos h).1
theorem orders_l2 {ro : List Int} {rp : Bool} {pr : List (List Int)} {at_ : List Int} {r : List Bool} (H : Laid l4.length ro rp pr at_ r) {b : Int} (b0 : 0 ≤ b) (b1 : b < (l4.length : Int)) (hb : b ∈ ro) (x9 : Bool) (h9 : rp = false → x9 = false)
    (hrest : ∀ x7 x9, (rp = false → x9 = false) → Ev (fun k => plnlaw4_FlowOrders.l1 k r pr at_ x7 x9 (b + 1) a0 a1 l2 a3 l4) true) (x7 : Int) :
    ∀ j, 0 ≤ j → ∀ x11 x12 : Bool, (x11 = true ∨ ∃ i : Int, j ≤ i ∧ i < ((rd_L1 pr b).length : Int) ∧ rd (rd_L1 pr b) i ∈ ro ∧ posOf ro (rd (rd_L1 pr b) i) < posOf ro b) → (rp = false → x12 = true) →
      Ev (fun k => plnlaw4_FlowOrders.l2 k r pr at_ x7 x9 b x11 x12 j a0 a1 l2 a3 l4) true := by
  have hs := H.small
  have hlp := H.lp
  have hla := H.la
  have hrow := H.row b b0 b1
  refine up_to ((rd_L1 pr b).length : Int) _ ?_ ?_
  · intro j hj x11 x12 h1 h2
    have e : x11 = true := by
      rcases h1 with e | ⟨i, i0, i1, _⟩
      · exact e
      · omega
    subst e
    cases x9 with
    | true =>
      refine Ev.step (fun k => by simp only [plnlaw4_FlowOrders.l2]; rw [if_pos b0, if_pos (by omega), if_neg (by omega), if_pos trivial, if_pos trivial, wrap_in (by omega) (by omega)]) ?_
      exact hrest _ _ h9
    | false =>
      refine Ev.step (fun k => by simp only [plnlaw4_FlowOrders.l2]; rw [if_pos b0, if_pos (by omega), if_neg (by omega), if_pos trivial, if_neg (by decide), wrap_in (by omega) (by omega)]) ?_
      exact hrest _ _ (fun hf => by rw [h2 hf]; rfl)
  · intro j j0 j1 ih x11 x12 h1 h2
    have hm : rd (rd_L1 pr b) j ∈ rd_L1 pr b := rd_mem j0 j1
    obtain ⟨p0, p1⟩ := H.inn b b0 b1 _ hm
    have ep := H.pos _ p0 p1
    have eb := H.pos _ b0 b1
    have e0 : ∀ k, plnlaw4_FlowOrders.l2 (k + 1) r pr at_ x7 x9 b x11 x12 j a0 a1 l2 a3 l4 =
        if rd at_ (rd (rd_L1 pr b) j) > 0 then plnlaw4_FlowOrders.l2 k r pr at_ x7 x9 b (x11 || decide (rd at_ (rd (rd_L1 pr b) j) < rd at_ b)) (x12 && decide (rd at_ (rd (rd_L1 pr b) j) < rd at_ b)) (j + 1) a0 a1 l2 a3 l4
        else plnlaw4_FlowOrders.l2 k r pr at_ x7 x9 b x11 x12 (j + 1) a0 a1 l2 a3 l4 := fun k => by
      simp only [plnlaw4_FlowOrders.l2]
      rw [if_pos b0, if_pos (by omega), if_pos j1, if_pos j0, if_pos p0, if_pos (by omega), if_pos p0, wrap_in (by omega) (by omega)]
      have hba : b < (at_.length : Int) := by omega
      cases x11 <;> cases x12 <;> simp [hba]
    refine Ev.step e0 ?_
    by_cases hp : rd (rd_L1 pr b) j ∈ ro
    · have hpp := (posOf_pos hp).1
      refine Ev.congr (fun k => by rw [if_pos (by omega)]) ?_
      refine ih _ _ ?_ ?_
      · rw [ep, eb]
        rcases h1 with e | ⟨i, i0, i1, i2, i3⟩
        · exact .inl (by rw [e]; rfl)
        · by_cases e : i = j
          · subst e; exact .inl (by simp [i3])
          · exact .inr ⟨i, by omega, i1, i2, i3⟩
      · intro hf
        have := H.all hf b b0 b1 hb _ hm hp
        rw [ep, eb, h2 hf]; simp [this]
    · have : ¬ posOf ro (rd (rd_L1 pr b) j) > 0 := fun h => hp (pos_iff.1 h)
      refine Ev.congr (fun k => by rw [if_neg (by omega)]) ?_
      refine ih _ _ ?_ h2
      rcases h1 with e | ⟨i, i0, i1, i2, i3⟩
      · exact .inl e
      · by_cases e : i = j
        · subst e; exact absurd i2 hp
        · exact .inr ⟨i, by omega, i1, i2, i3⟩
theorem orders_l1 {ro : List Int} {rp : Bool} {pr : List (List Int)} {at_ : List Int} {r : List Bool} (H : Laid l4.length ro rp pr at_ r) (hloops : Ev (fun k => flow_Loops.f k a0 a1 l2 a3 l4) rp) :
    ∀ b, 0 ≤ b → ∀ (x7 : Int) (x9 : Bool), (rp = false → x9 = false) → Ev (fun k => plnlaw4_FlowOrders.l1 k r pr at_ x7 x9 b a0 a1 l2 a3 l4) true := by
  have hs := H.small
  have hlr := H.lr
  have hla := H.la
  have hlp := H.lp
  refine up_to (l4.length : Int) _ ?_ ?_
  · intro b hb x7 x9 h9
    refine Ev.step (fun k => by simp only [plnlaw4_FlowOrders.l1]; rw [if_neg (by omega)]) ?_
    refine Ev.bind hloops ?_
    cases rp with
    | true => simpa using Ev.now true
    | false => rw [h9 rfl]; simpa using Ev.now true
  · intro b b0 b1 ih x7 x9 h9
    have es := H.sees b b0 b1
    have ep := H.pos b b0 b1
    have e1 : rdOf false r b = decide (rd at_ b > 0) := by
      rw [Bool.eq_iff_iff, es, ep]; simp [pos_iff]
    refine Ev.step (fun k => by simp only [plnlaw4_FlowOrders.l1]; rw [if_pos (by omega), if_pos b0, if_pos (by omega), if_neg (by rw [e1]; simp)]) ?_
    have skip : Ev (fun k => plnlaw4_FlowOrders.j3 k r pr at_ x7 x9 b true a0 a1 l2 a3 l4) true := by
      refine Ev.step (fun k => by simp only [plnlaw4_FlowOrders.j3]; rw [if_pos trivial, wrap_in (by omega) (by omega)]) ?_
      exact ih _ _ h9
    by_cases hr : rdOf false r b = true
    · refine Ev.congr (fun k => by rw [if_pos hr]) ?_
      by_cases hb : b = 0
      · have : (b == 0) = true := by rw [hb]; rfl
        rw [this]; exact skip
      · have : (b == 0) = false := by rw [beq_eq_false_iff_ne]; exact hb
        rw [this]
        refine Ev.step (fun k => by simp only [plnlaw4_FlowOrders.j3]; rw [if_neg (by decide)]) ?_
        refine orders_l2 H b0 b1 (es.1 hr) x9 h9 ih _ 0 (by omega) false true (.inr ?_) (fun _ => rfl)
        obtain ⟨p, p0, p1, p2⟩ := H.one b b0 b1 (es.1 hr) hb
        obtain ⟨i, i0, i1, rfl⟩ := mem_rd p0
        exact ⟨i, i0, i1, p1, p2⟩
    · refine Ev.congr (fun k => by rw [if_neg hr]) ?_
      exact skip
end
theorem FlowOrders : plnlaw4_FlowOrders.Pure := by
  intro a0 a1 l2 a3 l4 hB
  have h := intoOk_of hB
  have hn := h.1
  obtain ⟨t, ht, hlight⟩ := light_ev (a0 := a0) (a1 := a1) (l2 := l2) (a3 := a3) h
  refine Ev.rounds (Ev.congr (fun k => by unfold plnlaw4_FlowOrders.f; rfl) (Ev.bind first_ev (Ev.bind ht ?_)))
  cases t with
  | false =>
    simp only [Bool.false_eq_true, if_false]
    exact Ev.bind first_ev (Ev.now _)
  | true =>
    simp only [if_true]
    have h16 := hlight rfl
    obtain ⟨pr, p1, _, p3⟩ := prev_ev (a0 := a0) (a1 := a1) (l2 := l2) (a3 := a3) h
    obtain ⟨r, q1, q2⟩ := flow_reach_ev (a0 := a0) (a1 := a1) (l2 := l2) (a3 := a3) h
    obtain ⟨rs, ro, rp, hW, o1, _, o3⟩ := order_ev (a0 := a0) (a1 := a1) (l2 := l2) (a3 := a3) h
    have hro : ro.length ≤ l4.length := by have := hW.dfs.size; have := List.count_le_length (l := rs) (a := 2); have := hW.dfs.len; omega
    have hd := hW.dfs.nodup
    refine Ev.bind o1 (Ev.bind q1 (Ev.bind p1 ?_))
    refine Ev.congr (fun k => by rw [if_pos (by have := q2.1; omega), show ((pr.length : Int) != (l4.length : Int)) = false by simp [p3.1]]) ?_
    refine Ev.step (fun k => by simp only [plnlaw4_FlowOrders.j0]; rw [if_neg (by decide), if_pos (by omega), if_pos (by have := q2.1; omega)]) ?_
    have H : ∀ at_ : List Int, at_.length = l4.length → (∀ v : Int, 0 ≤ v → v < (l4.length : Int) → rd at_ v = posOf ro v) → Laid l4.length ro rp pr at_ r := fun at_ la hp => by
      refine ⟨hn, p3.1, la, q2.1, hp, fun v v0 v1 => ?_, fun b b0 b1 => (p3.2 b b0 b1).2, fun b b0 b1 p hp => ?_, fun b b0 b1 hb hne => ?_, fun hf b b0 b1 hb p hp hpo => ?_⟩
      · rw [q2.2 v v0 v1, hW.mem_iff h, ← rc_all h]
        constructor
        · rintro ⟨_, x, y⟩; exact ⟨x, y⟩
        · rintro ⟨x, y⟩; exact ⟨by omega, x, y⟩
      · obtain ⟨x, y, _⟩ := ((p3.2 b b0 b1).1 p).1 hp
        exact ⟨x, y⟩
      · rcases hW.dfs.tree b hb with e | ⟨p, x, y, z, e⟩
        · exact absurd e hne
        · refine ⟨p, ((p3.2 b b0 b1).1 p).2 ⟨x, y, z⟩, ?_⟩
          rcases e with e | ⟨e, e2⟩
          · rcases hW.done p x y with q | q <;> omega
          · refine ⟨e, ?_⟩
            unfold posOf; rw [if_pos e, if_pos hb]
            have := List.idxOf_lt_length_of_mem e
            omega
      · obtain ⟨x, y, z⟩ := ((p3.2 b b0 b1).1 p).1 hp
        have := (hW.dfs.fore hf p hpo b z).2
        unfold posOf; rw [if_pos hpo, if_pos hb]
        have := List.idxOf_lt_length_of_mem hpo
        omega
    have key := up_to (ro.length : Int) (fun i => ∀ at_ : List Int, at_.length = l4.length → (∀ v : Int, 0 ≤ v → v < (l4.length : Int) → rd at_ v = if posOf ro v ≤ i then posOf ro v else 0) → Ev (fun k => plnlaw4_FlowOrders.l0 k ro.reverse r pr at_ 0 i a0 a1 l2 a3 l4) true) ?_ ?_ 0 (by omega)
    · refine key _ (by simp [q2.1]) fun v v0 v1 => ?_
      rw [rd_replicate v0 (by have := q2.1; omega)]
      split
      · by_cases hv : v ∈ ro
        · have := (posOf_pos hv).1; omega
        · unfold posOf; rw [if_neg hv]
      · rfl
    · intro i hi at_ la hp
      refine Ev.step (fun k => by simp only [plnlaw4_FlowOrders.l0]; rw [if_neg (by simp; omega)]) ?_
      refine orders_l1 (H at_ la fun v v0 v1 => ?_) o3 0 (by omega) 0 false (fun _ => rfl)
      rw [hp v v0 v1]
      by_cases hv : v ∈ ro
      · have := (posOf_pos hv).2; rw [if_pos (by omega)]
      · unfold posOf; rw [if_neg hv]; split <;> rfl
    · intro i i0 i1 ih at_ la hp
      obtain ⟨hm, e⟩ := rd_rev hd i0 i1
      obtain ⟨b0, b1, _⟩ := (hW.dfs.mem _).1 hm
      have ez : rd at_ (rd ro.reverse i) = 0 := by rw [hp _ b0 b1, e, if_neg (by omega)]
      have next : Ev (fun k => plnlaw4_FlowOrders.l0 k ro.reverse r pr (at_.set (rd ro.reverse i).toNat (wrap64 (i + 1))) 0 (wrap64 (i + 1)) a0 a1 l2 a3 l4) true := by
        rw [wrap_in (by omega) (by omega)]
        refine ih _ (by simpa using la) fun v v0 v1 => ?_
        rw [rd_set b0 (by omega) v0]
        by_cases ev : rd ro.reverse i = v
        · rw [if_pos ev, ← ev, e, if_pos (by omega)]
        · rw [if_neg ev, hp v v0 v1]
          by_cases hle : posOf ro v ≤ i
          · rw [if_pos hle, if_pos (by omega)]
          · rw [if_neg hle]
            by_cases hv : v ∈ ro
            · have : posOf ro v ≠ i + 1 := fun q => ev (posOf_inj hm hv (by omega))
              rw [if_neg (by omega)]
            · unfold posOf at hle; rw [if_neg hv] at hle; omega
      refine Ev.step (fun k => by simp only [plnlaw4_FlowOrders.l0]; rw [if_pos (by simpa using i1), if_pos i0, if_neg (by omega), if_neg (by omega), if_pos b0, if_pos (by omega), if_pos ez]) ?_
      by_cases hi : i = 0
      · have hz : rd ro.reverse i = 0 := by
          obtain ⟨r1, r2⟩ := hW.root (by omega)
          refine posOf_inj hm r1 ?_
          rw [e]; unfold posOf; rw [if_pos r1]; omega
        refine Ev.congr (fun k => by rw [if_pos hi, if_pos hz]) next
      · exact Ev.congr (fun k => by rw [if_neg hi]) next
end Go.Proofs.Ytkcimaibaicdcaa.Pure
