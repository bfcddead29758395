/- A part of the proof of the law of FlowTells: lemmas and walks, out of this session's texts, with what the claim does not use struck out. -/
import Derived.Test.YtkcimaibaicdcaaF8
import Derived.Test.YtkcimaibaicdcaaF9
import Derived.Test.YtkcimaibaicdcaaF15
import Derived.Test.YtkcimaibaicdcaaF18
import Derived.Test.YtkcimaibaicdcaaF20
import Derived.Test.YtkcimaibaicdcaaF21
section
namespace Go.Proofs.Ytkcimaibaicdcaa.Gr
open Go.RowKit Go.Proofs.YtkcimaibaicdcaaW.PrintWords Go.Proofs.Ytkcimaibaicdcaa.P
def SeenIs (n : Nat) (ls : List Int) (seen : List Bool) : Prop := seen.length = n ∧ ∀ v : Int, 0 ≤ v → v < (n : Int) → (rdOf false seen v = true ↔ rd ls v ≠ 0)
section
variable {a0 : ByteArray} {a1 : Bool} {l2 : List Int} {a3 : Int} {l4 : List S54}
theorem next_len (h : IntoOk l4) (b : Int) : ((nextOf l4 b).length : Int) ≤ 17592186043904 := by
  unfold nextOf
  split
  · rename_i hg
    obtain ⟨g0, g1, g2, _⟩ := hg
    have hp := List.length_pos_iff.2 g2
    obtain ⟨h4, _⟩ := (h.2 b g0 g1).2 (((rd_T54 l4 b).f0.length : Int) - 1) (by omega) (by omega)
    have := fold_len (n := l4.length) (x := (lastI l4 b).f6) (out := [])
    have h4' : (lastI l4 b).f6.length ≤ 17592186043904 := h4
    simp at this
    omega
  · simp
structure Comes (l4 : List S54) (ls : List Int) (b : Int) : Prop where
  met : Rc (nextOf l4) (fun _ => True) 0 b
  grey : ∀ v : Int, 0 ≤ v → v < (l4.length : Int) → rd ls v = 1 → Rc (nextOf l4) (fun _ => True) v b
  from_ : b = 0 ∨ ∃ p : Int, 0 ≤ p ∧ p < (l4.length : Int) ∧ b ∈ nextOf l4 p ∧ p ≠ b ∧ rd ls p = 1
def Ends (a0 : ByteArray) (a1 : Bool) (l2 : List Int) (a3 : Int) (l4 : List S54) (f : Nat → Option (List Int × List Int × Bool)) (g : List Bool → Nat → Option (List Int × List Bool)) (ls lo : List Int) (lp : Bool) (b : Int) (Q : List Int → List Int → Bool → Prop) : Prop :=
  ∃ rs ro rp, Ev f (rs, ro, rp) ∧ (∀ seen, SeenIs l4.length ls seen → ∃ seen', SeenIs l4.length rs seen' ∧ Ev (g seen) (ro, seen')) ∧ Dfs (nextOf l4) l4.length 0 rs ro rp ∧ Q rs ro rp ∧ rd rs b = 2
theorem visit_loop (h : IntoOk l4) (b : Int) (b0 : 0 ≤ b) (b1 : b < (l4.length : Int)) (m : Nat)
    (ih : ∀ (t : Int) ls lo lp, Dfs (nextOf l4) l4.length 0 ls lo lp → ls.count 0 ≤ m → 0 ≤ t → t < (l4.length : Int) → rd ls t = 0 → Comes l4 ls t →
      Ends a0 a1 l2 a3 l4 (fun k => flow_visit.f k a0 a1 l2 a3 l4 t ls lo lp) (fun seen k => plnref3_deep.f k a0 a1 l2 a3 l4 t seen lo) ls lo lp t (fun rs ro rp => Went l4.length ls lo rs ro lp rp)) :
    ∀ i, 0 ≤ i → ∀ ls lo lp, Dfs (nextOf l4) l4.length 0 ls lo lp → ls.count 0 ≤ m → rd ls b = 1 → Comes l4 ls b →
      (∀ j, 0 ≤ j → j < i → j < ((nextOf l4 b).length : Int) → rd ls (rd (nextOf l4 b) j) ≠ 0 ∧ (lp = false → rd (nextOf l4 b) j ∈ lo)) →
      Ends a0 a1 l2 a3 l4 (fun k => flow_visit.l0 k a0 a1 l2 a3 l4 b (nextOf l4 b) i ls lo lp) (fun seen k => plnref3_deep.l0 k b seen lo (nextOf l4 b) i a0 a1 l2 a3 l4) ls lo lp b
        (fun rs ro rp => ∃ lf lof, rs = lf.set b.toNat 2 ∧ ro = lof ++ [b] ∧ Went l4.length ls lo lf lof lp rp) := by
  have hn := h.1
  have hx := next_len h b
  refine up_to ((nextOf l4 b).length : Int) _ ?_ ?_
  · intro i hi ls lo lp hD hm hb hC hin
    have hl : b < (ls.length : Int) := by rw [hD.len]; exact b1
    have hsz : lo.length < 17592186044416 := by have := hD.size; have := List.count_le_length (l := ls) (a := 2); have := hD.len; omega
    have rs : ∀ v : Int, 0 ≤ v → rd (ls.set b.toNat 2) v = if b = v then 2 else rd ls v := fun v hv => rd_set b0 hl hv
    refine ⟨ls.set b.toNat 2, lo ++ [b], lp, Ev.step (fun k => by simp only [flow_visit.l0]; rw [if_neg (by omega), if_pos b0, if_pos hl, if_pos hsz]) (Ev.now _), fun seen hs => ⟨seen, ⟨hs.1, fun v v0 v1 => ?_⟩, Ev.step (fun k => by simp only [plnref3_deep.l0]; rw [if_neg (by omega), if_pos hsz]) (Ev.now _)⟩, ?_, ⟨ls, lo, rfl, rfl, Went.refl _ _ _ _⟩, by rw [rs b b0, if_pos rfl]⟩
    · rw [hs.2 v v0 v1, rs v v0]
      by_cases e : b = v
      · subst e; rw [if_pos rfl, hb]; simp
      · rw [if_neg e]
    · refine hD.leave b0 b1 hb (fun w hw => ?_) hC.from_
      obtain ⟨w0, w1⟩ := next_in hw
      obtain ⟨j, j0, j1, rfl⟩ := mem_rd hw
      obtain ⟨k1, k2⟩ := hin j j0 (by omega) j1
      exact ⟨w0, w1, k1, k2⟩
  · intro i i0 i1 ihi ls lo lp hD hm hb hC hin
    have hlen := hD.len
    have hw := rd_mem i0 i1
    obtain ⟨t0, t1⟩ := next_in hw
    have tl : rd (nextOf l4 b) i < (ls.length : Int) := by omega
    have hrt : Rc (nextOf l4) (fun _ => True) 0 (rd (nextOf l4 b) i) := .step hC.met hw trivial
    rcases hD.three _ t0 t1 with e | e | e
    ·
      have hC' : Comes l4 ls (rd (nextOf l4 b) i) := ⟨hrt, fun v v0 v1 hv => .step (hC.grey v v0 v1 hv) hw trivial, .inr ⟨b, b0, b1, hw, fun e2 => by rw [← e2] at e; omega, hb⟩⟩
      obtain ⟨rs, ro, rp, k1, k2, k3, k4, k5⟩ := ih _ ls lo lp hD hm t0 t1 e hC'
      have hb' : rd rs b = 1 := by rw [k4.keep b b0 b1 (by omega)]; exact hb
      have hC2 : Comes l4 rs b := ⟨hC.met, fun v v0 v1 hv => hC.grey v v0 v1 (k4.grey v v0 v1 hv), hC.from_.imp id (fun ⟨p, p0, p1, pv, pn, hp⟩ => ⟨p, p0, p1, pv, pn, by rw [k4.keep p p0 p1 (by omega)]; exact hp⟩)⟩
      have hflag : rp = false → lp = false := fun e2 => by cases lp with | false => rfl | true => exact absurd (k4.flag rfl) (by simp [e2])
      obtain ⟨tt, rfl⟩ := k4.more
      have hin2 : ∀ j, 0 ≤ j → j < i + 1 → j < ((nextOf l4 b).length : Int) → rd rs (rd (nextOf l4 b) j) ≠ 0 ∧ (rp = false → rd (nextOf l4 b) j ∈ lo ++ tt) := fun j j0 j1 j2 => by
        rcases Int.lt_or_eq_of_le (Int.le_of_lt_add_one j1) with hj | rfl
        · obtain ⟨m1, m2⟩ := hin j j0 hj j2
          obtain ⟨u0, u1⟩ := next_in (rd_mem j0 j2)
          exact ⟨by rw [k4.keep _ u0 u1 m1]; exact m1, fun e2 => List.mem_append_left _ (m2 (hflag e2))⟩
        · exact ⟨by omega, fun _ => (k3.mem _).2 ⟨t0, t1, k5⟩⟩
      obtain ⟨rs2, ro2, rp2, m1, m2, m3, ⟨lf, lof, m4, m5, m6⟩, m7⟩ := ihi rs (lo ++ tt) rp k3 (Nat.le_trans k4.zero hm) hb' hC2 hin2
      refine ⟨rs2, ro2, rp2, Ev.step (fun k => by simp only [flow_visit.l0]; rw [if_pos i1, if_pos i0, if_pos t0, if_pos tl, if_pos e, wrap_in (by omega) (by omega)]) (Ev.bind k1 m1), fun seen hs => ?_, m3, ⟨lf, lof, m4, m5, k4.trans m6⟩, m7⟩
      obtain ⟨s1, g1, g2⟩ := k2 seen hs
      obtain ⟨s2, g3, g4⟩ := m2 s1 g1
      refine ⟨s2, g3, Ev.step (fun k => by simp only [plnref3_deep.l0]; rw [if_pos i1, if_pos i0, if_pos t0, if_pos (by rw [hs.1]; exact t1), if_neg (by rw [hs.2 _ t0 t1]; simp [e]), wrap_in (by omega) (by omega)]) (Ev.bind g2 g4)⟩
    ·
      have hD' : Dfs (nextOf l4) l4.length 0 ls lo true := hD.turn hC.met hw (hC.grey _ t0 t1 e)
      have hin2 : ∀ j, 0 ≤ j → j < i + 1 → j < ((nextOf l4 b).length : Int) → rd ls (rd (nextOf l4 b) j) ≠ 0 ∧ (true = false → rd (nextOf l4 b) j ∈ lo) := fun j j0 j1 j2 => by
        rcases Int.lt_or_eq_of_le (Int.le_of_lt_add_one j1) with hj | rfl
        · exact ⟨(hin j j0 hj j2).1, fun e2 => by cases e2⟩
        · exact ⟨by omega, fun e2 => by cases e2⟩
      obtain ⟨rs2, ro2, rp2, m1, m2, m3, ⟨lf, lof, m4, m5, m6⟩, m7⟩ := ihi ls lo true hD' hm hb hC hin2
      refine ⟨rs2, ro2, rp2, Ev.step (fun k => by simp only [flow_visit.l0]; rw [if_pos i1, if_pos i0, if_pos t0, if_pos tl, if_neg (by omega), if_pos e, wrap_in (by omega) (by omega)]) m1, fun seen hs => ?_, m3, ⟨lf, lof, m4, m5, ⟨m6.keep, m6.grey, m6.more, fun _ => m6.flag rfl, m6.zero⟩⟩, m7⟩
      obtain ⟨s2, g3, g4⟩ := m2 seen hs
      refine ⟨s2, g3, Ev.step (fun k => by simp only [plnref3_deep.l0]; rw [if_pos i1, if_pos i0, if_pos t0, if_pos (by rw [hs.1]; exact t1), if_pos (by rw [hs.2 _ t0 t1]; omega), wrap_in (by omega) (by omega)]) g4⟩
    ·
      have hin2 : ∀ j, 0 ≤ j → j < i + 1 → j < ((nextOf l4 b).length : Int) → rd ls (rd (nextOf l4 b) j) ≠ 0 ∧ (lp = false → rd (nextOf l4 b) j ∈ lo) := fun j j0 j1 j2 => by
        rcases Int.lt_or_eq_of_le (Int.le_of_lt_add_one j1) with hj | rfl
        · exact hin j j0 hj j2
        · exact ⟨by omega, fun _ => (hD.mem _).2 ⟨t0, t1, e⟩⟩
      obtain ⟨rs2, ro2, rp2, m1, m2, m3, m4, m7⟩ := ihi ls lo lp hD hm hb hC hin2
      refine ⟨rs2, ro2, rp2, Ev.step (fun k => by simp only [flow_visit.l0]; rw [if_pos i1, if_pos i0, if_pos t0, if_pos tl, if_neg (by omega), if_neg (by omega), wrap_in (by omega) (by omega)]) m1, fun seen hs => ?_, m3, m4, m7⟩
      obtain ⟨s2, g3, g4⟩ := m2 seen hs
      refine ⟨s2, g3, Ev.step (fun k => by simp only [plnref3_deep.l0]; rw [if_pos i1, if_pos i0, if_pos t0, if_pos (by rw [hs.1]; exact t1), if_pos (by rw [hs.2 _ t0 t1]; omega), wrap_in (by omega) (by omega)]) g4⟩
theorem visit_ev (h : IntoOk l4) : ∀ (m : Nat) (t : Int) ls lo lp, Dfs (nextOf l4) l4.length 0 ls lo lp → ls.count 0 ≤ m → 0 ≤ t → t < (l4.length : Int) → rd ls t = 0 → Comes l4 ls t →
      Ends a0 a1 l2 a3 l4 (fun k => flow_visit.f k a0 a1 l2 a3 l4 t ls lo lp) (fun seen k => plnref3_deep.f k a0 a1 l2 a3 l4 t seen lo) ls lo lp t (fun rs ro rp => Went l4.length ls lo rs ro lp rp) := by
  intro m
  induction m with
  | zero =>
    intro t ls lo lp hD hm t0 t1 ht _
    have := hD.len
    have : 0 < ls.count 0 := List.count_pos_iff.2 (ht ▸ rd_mem t0 (by omega))
    omega
  | succ m ih =>
    intro b ls lo lp hD hm b0 b1 hb hC
    have hl : b < (ls.length : Int) := by rw [hD.len]; exact b1
    have rs1 : ∀ v : Int, 0 ≤ v → rd (ls.set b.toNat 1) v = if b = v then 1 else rd ls v := fun v hv => rd_set b0 hl hv
    have hz := count_put (x := 1) (y := 0) b0 hl
    rw [hb] at hz
    simp at hz
    have hC1 : Comes l4 (ls.set b.toNat 1) b := by
      refine ⟨hC.met, fun v v0 v1 hv => ?_, hC.from_.imp id (fun ⟨p, p0, p1, pv, pn, hp⟩ => ⟨p, p0, p1, pv, pn, by rw [rs1 p p0]; split <;> first | rfl | exact hp⟩)⟩
      rw [rs1 v v0] at hv
      by_cases e : b = v
      · subst e; exact .refl trivial
      · rw [if_neg e] at hv; exact hC.grey v v0 v1 hv
    obtain ⟨rs, ro, rp, k1, k2, k3, ⟨lf, lof, k4, k5, k6⟩, k7⟩ := visit_loop h b b0 b1 m ih 0 (by omega) _ lo lp (hD.enter b0 b1 hb hC.met) (by omega) (by rw [rs1 b b0, if_pos rfl]) hC1 (fun j j0 j1 => by omega)
    have hlf : lf.length = l4.length := by have := k3.len; rw [k4, List.length_set] at this; exact this
    have rs2 : ∀ v : Int, 0 ≤ v → rd rs v = if b = v then 2 else rd lf v := fun v hv => by rw [k4]; exact rd_set b0 (by rw [hlf]; exact b1) hv
    refine ⟨rs, ro, rp, Ev.step (fun k => by simp only [flow_visit.f]; rw [if_pos b0, if_pos hl]) (Ev.bind (next_ev h b) k1), fun seen hs => ?_, k3, ⟨fun v v0 v1 hv => ?_, fun v v0 v1 hv => ?_, ?_, k6.flag, ?_⟩, k7⟩
    · obtain ⟨s1, g1, g2⟩ := k2 (seen.set b.toNat true) ⟨by simpa using hs.1, fun v v0 v1 => by
        rw [rdb_set b0 (by rw [hs.1]; exact b1) v0, rs1 v v0]
        by_cases e : b = v
        · simp [e]
        · rw [if_neg e, if_neg e]; exact hs.2 v v0 v1⟩
      exact ⟨s1, g1, Ev.step (fun k => by simp only [plnref3_deep.f]; rw [if_pos b0, if_pos (by rw [hs.1]; exact b1)]) (Ev.bind (rnext_ev h b) g2)⟩
    · have e : ¬ b = v := by rintro rfl; exact hv hb
      have e1 : rd (ls.set b.toNat 1) v = rd ls v := by rw [rs1 v v0, if_neg e]
      rw [rs2 v v0, if_neg e, k6.keep v v0 v1 (by rw [e1]; exact hv), e1]
    · rw [rs2 v v0] at hv
      have e : ¬ b = v := by rintro rfl; rw [if_pos rfl] at hv; omega
      rw [if_neg e] at hv
      have := k6.grey v v0 v1 hv
      rwa [rs1 v v0, if_neg e] at this
    · obtain ⟨t, ht⟩ := k6.more
      exact ⟨t ++ [b], by rw [k5, ht, List.append_assoc]⟩
    · have e2 := count_put (xs := lf) (x := 2) (y := 0) b0 (by rw [hlf]; exact b1)
      rw [← k4] at e2
      have hbf : rd lf b = 1 := by rw [k6.keep b b0 b1 (by rw [rs1 b b0, if_pos rfl]; omega), rs1 b b0, if_pos rfl]
      rw [hbf] at e2
      simp at e2
      have := k6.zero
      omega
structure Walked (l4 : List S54) (rs ro : List Int) (rp : Bool) : Prop where
  dfs : Dfs (nextOf l4) l4.length 0 rs ro rp
  done : ∀ v : Int, 0 ≤ v → v < (l4.length : Int) → rd rs v = 0 ∨ rd rs v = 2
  root : (0 : Int) < l4.length → (0 : Int) ∈ ro ∧ ro.idxOf 0 + 1 = ro.length
theorem walked_ev (h : IntoOk l4) : ∃ rs ro rp, Ev (fun k => flow_walked.f k a0 a1 l2 a3 l4) (rs, ro, rp) ∧ Walked l4 rs ro rp ∧
    ((0 : Int) < l4.length → ∃ seen, Ev (fun k => plnref3_deep.f k a0 a1 l2 a3 l4 0 (List.replicate l4.length false) []) (ro, seen)) := by
  have hn := h.1
  have z : ∀ v : Int, 0 ≤ v → v < (l4.length : Int) → rd (List.replicate l4.length 0) v = 0 := fun v v0 v1 => rd_replicate v0 v1
  have hD : Dfs (nextOf l4) l4.length 0 (List.replicate l4.length 0) [] false := by
    refine ⟨by simp, fun v v0 v1 => .inl (z v v0 v1), by simp, by simp [List.count_replicate], fun v => ?_, (fun v hv => by cases hv), (fun _ v hv => by cases hv), (fun v hv => by cases hv), fun v v0 v1 hv => absurd (z v v0 v1) hv, (fun e => by cases e)⟩
    constructor
    · intro hv; cases hv
    · rintro ⟨v0, v1, hv⟩; rw [z v v0 v1] at hv; omega
  by_cases c : 0 < (l4.length : Int)
  · obtain ⟨rs, ro, rp, k1, k2, k3, k4, k5⟩ := visit_ev (a0 := a0) (a1 := a1) (l2 := l2) (a3 := a3) h _ 0 _ [] false hD (Nat.le_refl _) (by omega) c (z 0 (by omega) c) ⟨.refl trivial, fun v v0 v1 hv => by rw [z v v0 v1] at hv; omega, .inl rfl⟩
    have h0 := (k3.mem 0).2 ⟨by omega, c, k5⟩
    have hgr : ∀ v : Int, 0 ≤ v → v < (l4.length : Int) → rd rs v ≠ 1 := fun v v0 v1 e => by
      have := k4.grey v v0 v1 e
      rw [z v v0 v1] at this
      omega
    refine ⟨rs, ro, rp, Ev.congr (fun k => by unfold flow_walked.f; rw [if_pos (by omega), if_pos c]) k1, ⟨k3, fun v v0 v1 => ?_, fun _ => ⟨h0, ?_⟩⟩, fun _ => ?_⟩
    · rcases k3.three v v0 v1 with e | e | e
      · exact .inl e
      · exact absurd e (hgr v v0 v1)
      · exact .inr e
    ·
      have hlt := List.idxOf_lt_length_iff.2 h0
      have hp : 0 < ro.length := by omega
      have hlast : ro[ro.length - 1] ∈ ro := List.getElem_mem _
      have hidx : ro.idxOf ro[ro.length - 1] = ro.length - 1 := List.Nodup.idxOf_getElem k3.nodup _ _
      rcases k3.tree _ hlast with e | ⟨p, p0, p1, _, hp1 | ⟨hp1, hp2⟩⟩
      · rw [e] at hidx; omega
      · exact absurd hp1 (hgr p p0 p1)
      · have := List.idxOf_lt_length_iff.2 hp1
        omega
    · obtain ⟨s, _, g⟩ := k2 (List.replicate l4.length false) ⟨by simp, fun v v0 v1 => by rw [rdb_replicate, z v v0 v1]; simp⟩
      exact ⟨s, g⟩
  · refine ⟨_, _, _, Ev.congr (fun k => by unfold flow_walked.f; rw [if_pos (by omega), if_neg c]) (Ev.now _), ⟨hD, fun v v0 v1 => .inl (z v v0 v1), fun hh => absurd hh c⟩, fun hh => absurd hh c⟩
end
end Go.Proofs.Ytkcimaibaicdcaa.Gr
end
section
set_option linter.unusedVariables false
namespace Go.Proofs.Ytkcimaibaicdcaa.Gr
open Go.RowKit Go.Proofs.YtkcimaibaicdcaaW.PrintWords Go.Proofs.Ytkcimaibaicdcaa.P
theorem bools_ev (x y : List Bool) (hx : x.length ≤ 9223372036854775807) : Ev (fun k => plnkeep_Bools.f k x y) (decide (x = y)) := by
  by_cases hl : (x.length : Int) = (y.length : Int)
  · refine Ev.congr (fun k => by unfold plnkeep_Bools.f; rw [if_pos hl]) ?_
    have hl' : x.length = y.length := by omega
    have drp : ∀ {z : List Bool} {i : Int}, 0 ≤ i → i < (z.length : Int) → z.drop i.toNat = rdOf false z i :: z.drop (i + 1).toNat := fun {z i} h0 h1 => by
      have hh : i.toNat < z.length := by omega
      have e : (i + 1).toNat = i.toNat + 1 := by omega
      have := rdb_eq h0 h1
      rw [List.getElem?_eq_getElem hh] at this
      rw [e, List.drop_eq_getElem_cons hh, Option.some.inj this]
    have key := up_to (x.length : Int) (fun i => i ≤ x.length → Ev (fun k => plnkeep_Bools.l0 k x y i) (decide (x.drop i.toNat = y.drop i.toNat))) ?_ ?_ 0 (by omega) (by omega)
    · simpa using key
    · intro i hi _
      refine Ev.step (fun k => by simp only [plnkeep_Bools.l0]; rw [if_neg (by omega)]) ?_
      rw [List.drop_eq_nil_of_le (by omega), List.drop_eq_nil_of_le (by omega)]
      exact Ev.now _
    · intro i h0 h1 ih _
      by_cases e : rdOf false x i = rdOf false y i
      · refine Ev.step (fun k => by simp only [plnkeep_Bools.l0]; rw [if_pos h1, if_pos h0, if_pos (by omega), if_neg (by simp [e]), wrap_in (by omega) (by omega)]) ?_
        rw [drp h0 h1, drp h0 (by omega), e]
        have := ih (by omega)
        simpa using this
      · refine Ev.step (fun k => by simp only [plnkeep_Bools.l0]; rw [if_pos h1, if_pos h0, if_pos (by omega), if_pos (by simpa using e)]) ?_
        rw [drp h0 h1, drp h0 (by omega)]
        simp [e]
        exact Ev.now _
  · refine Ev.congr (fun k => by unfold plnkeep_Bools.f; rw [if_neg hl]) ?_
    have : ¬ x = y := fun e => hl (by rw [e])
    simp [this]
    exact Ev.now _
theorem rows_same (x : List (List Int)) (hx : x.length ≤ 9223372036854775807) (hr : ∀ i : Int, 0 ≤ i → i < (x.length : Int) → (rd_L1 x i).length ≤ 9223372036854775807) : Ev (fun k => plnkeep_Rows.f k x x) true := by
  refine Ev.congr (fun k => by unfold plnkeep_Rows.f; rw [if_pos rfl]) ?_
  refine up_to (x.length : Int) (fun i => Ev (fun k => plnkeep_Rows.l0 k x x i) true) ?_ ?_ 0 (by omega)
  · intro i hi
    exact Ev.step (fun k => by simp only [plnkeep_Rows.l0]; rw [if_neg (by omega)]) (Ev.now _)
  · intro i h0 h1 ih
    refine Ev.step (fun k => by simp only [plnkeep_Rows.l0]; rw [if_pos h1, if_pos h0, if_pos h1]) (Ev.bind (a := true) ?_ ?_)
    · have := ints_ev (rd_L1 x i) (rd_L1 x i) (hr i h0 h1)
      simpa using this
    · simp only [if_true]
      rw [wrap_in (by omega) (by omega)]
      exact ih
section
variable {a0 : ByteArray} {a1 : Bool} {l2 : List Int} {a3 : Int} {l4 : List S54}
theorem Walked.mem_iff (h : IntoOk l4) {rs ro : List Int} {rp : Bool} (hW : Walked l4 rs ro rp) (v : Int) : v ∈ ro ↔ (0 : Int) < l4.length ∧ Rc (nextOf l4) (fun _ => True) 0 v := by
  constructor
  · intro hv
    obtain ⟨v0, v1, v2⟩ := (hW.dfs.mem v).1 hv
    exact ⟨by omega, hW.dfs.met v v0 v1 (by omega)⟩
  · rintro ⟨hn, hr⟩
    refine hr.closed (S := fun x => x ∈ ro) (hW.root hn).1 fun x hx y hy _ => ?_
    obtain ⟨y0, y1⟩ := next_in hy
    exact (hW.dfs.mem y).2 ⟨y0, y1, (hW.done y y0 y1).resolve_left (hW.dfs.shut x hx y hy)⟩
theorem reach_l0 (rs : List Int) (hl : rs.length = l4.length) (hn : l4.length ≤ 5864062014634) : ∀ i, 0 ≤ i → ∀ o : List Bool, o.length = l4.length → (∀ v : Int, 0 ≤ v → v < i → v < (l4.length : Int) → rdOf false o v = (rd rs v != 0)) →
    ∃ r, Ev (fun k => flow_Reach.l0 k rs o i) r ∧ r.length = l4.length ∧ ∀ v : Int, 0 ≤ v → v < (l4.length : Int) → rdOf false r v = (rd rs v != 0) := by
  refine up_to (l4.length : Int) _ ?_ ?_
  · intro i hi o ho h
    exact ⟨o, Ev.step (fun k => by simp only [flow_Reach.l0]; rw [if_neg (by omega)]) (Ev.now _), ho, fun v v0 v1 => h v v0 (by omega) v1⟩
  · intro i i0 i1 ih o ho h
    obtain ⟨r, h1, h2⟩ := ih (o.set i.toNat (rd rs i != 0)) (by simpa using ho) (fun v v0 v1 v2 => by
      rw [rdb_set i0 (by omega) v0]
      by_cases e : i = v
      · subst e; rw [if_pos rfl]
      · rw [if_neg e]; exact h v v0 (by omega) v2)
    exact ⟨r, Ev.step (fun k => by simp only [flow_Reach.l0]; rw [if_pos (by omega), if_pos i0, if_pos (by omega), wrap_in (by omega) (by omega)]) h1, h2⟩
theorem rc_all (h : IntoOk l4) {v : Int} : Rc (nextOf l4) (fun _ => True) 0 v ↔ Rc (nextOf l4) (· ≠ -1) 0 v := by
  constructor
  · intro hr
    induction hr with
    | refl _ => exact .refl (by decide)
    | step _ h1 _ ih => exact .step ih h1 (by have := next_in h1; omega)
  · exact fun hr => hr.mono (fun _ _ => trivial)
theorem flow_reach_ev (h : IntoOk l4) : ∃ r, Ev (fun k => flow_Reach.f k a0 a1 l2 a3 l4) r ∧ FromIs l4 0 (-1) r := by
  have hn := h.1
  obtain ⟨rs, ro, rp, k1, hW, _⟩ := walked_ev (a0 := a0) (a1 := a1) (l2 := l2) (a3 := a3) h
  obtain ⟨r, m1, m2, m3⟩ := reach_l0 (l4 := l4) rs hW.dfs.len hn 0 (by omega) (List.replicate l4.length false) (by simp) (fun v v0 v1 => by omega)
  refine ⟨r, ?_, m2, fun v v0 v1 => ?_⟩
  · unfold flow_Reach.f
    refine Ev.bind k1 ?_
    simp only [if_pos (show l4.length ≤ 281474976710656 by omega)]
    exact m1
  · rw [m3 v v0 v1, ← rc_all h]
    have hm := hW.mem_iff h v
    constructor
    · intro hv
      have hv' : rd rs v ≠ 0 := by simpa using hv
      exact ⟨by omega, by omega, (hm.1 ((hW.dfs.mem v).2 ⟨v0, v1, (hW.done v v0 v1).resolve_left hv'⟩)).2⟩
    · rintro ⟨_, hn0, hr⟩
      have := ((hW.dfs.mem v).1 (hm.2 ⟨hn0, hr⟩)).2.2
      rw [this]
      rfl
theorem reverse_ev (x : List Int) (hx : x.length ≤ 9223372036854775807) : Ev (fun k => slices_Reverse_int_int.f k x) x.reverse := by
  have key : ∀ i, 0 ≤ i → ∀ y : List Int, y.length = x.length → i ≤ (x.length : Int) → (∀ q : Int, 0 ≤ q → q < (x.length : Int) → rd y q = if q < i ∨ (x.length : Int) - 1 - i < q then rd x ((x.length : Int) - 1 - q) else rd x q) → Ev (fun k => slices_Reverse_int_int.l0 k y i ((x.length : Int) - 1 - i)) x.reverse := by
    have fin : ∀ (i : Int) (y : List Int), y.length = x.length → ¬ i < (x.length : Int) - 1 - i → (∀ q : Int, 0 ≤ q → q < (x.length : Int) → rd y q = if q < i ∨ (x.length : Int) - 1 - i < q then rd x ((x.length : Int) - 1 - q) else rd x q) → y = x.reverse := by
      intro i y hy hi h
      refine List.ext_getElem (by simpa using hy) fun j j1 j2 => ?_
      have hj := h (j : Int) (by omega) (by omega)
      have e1 := rd_eq (xs := y) (i := (j : Int)) (by omega) (by omega)
      have e2 := rd_eq (xs := x) (i := (x.length : Int) - 1 - j) (by omega) (by omega)
      rw [Int.toNat_natCast, List.getElem?_eq_getElem j1] at e1
      have ej : ((x.length : Int) - 1 - j).toNat = x.length - 1 - j := by omega
      rw [ej, List.getElem?_eq_getElem (by omega)] at e2
      rw [List.getElem_reverse, Option.some.inj e1, Option.some.inj e2, hj]
      split
      · rfl
      · congr 1; omega
    refine up_to (x.length : Int) _ ?_ ?_
    · intro i hi y hy hle h
      rw [fin i y hy (by omega) h]
      refine Ev.step (fun k => by simp only [slices_Reverse_int_int.l0]; rw [if_neg (by omega)]) (Ev.now _)
    · intro i i0 i1 ih y hy hle h
      by_cases c : i < (x.length : Int) - 1 - i
      · have hs : ∀ q : Int, 0 ≤ q → rd ((y.set i.toNat (rd y ((x.length : Int) - 1 - i))).set ((x.length : Int) - 1 - i).toNat (rd y i)) q = if (x.length : Int) - 1 - i = q then rd y i else if i = q then rd y ((x.length : Int) - 1 - i) else rd y q := fun q q0 => by
          rw [rd_set (by omega) (by simp; omega) q0, rd_set i0 (by omega) q0]
        have := ih ((y.set i.toNat (rd y ((x.length : Int) - 1 - i))).set ((x.length : Int) - 1 - i).toNat (rd y i)) (by simpa using hy) (by omega) (fun q q0 q1 => by
          have hi : rd y i = rd x i := by rw [h i i0 i1, if_neg (by omega)]
          have hj : rd y ((x.length : Int) - 1 - i) = rd x ((x.length : Int) - 1 - i) := by rw [h _ (by omega) (by omega), if_neg (by omega)]
          rw [hs q q0, hi, hj, h q q0 q1]
          by_cases e1 : (x.length : Int) - 1 - i = q
          · rw [if_pos e1, if_pos (by omega)]; congr 1; omega
          · by_cases e2 : i = q
            · rw [if_neg e1, if_pos e2, if_pos (by omega)]; congr 1; omega
            · rw [if_neg e1, if_neg e2]
              by_cases e3 : q < i ∨ (x.length : Int) - 1 - i < q
              · rw [if_pos e3, if_pos (by omega)]
              · rw [if_neg e3, if_neg (by omega)])
        have e : (x.length : Int) - 1 - (i + 1) = (x.length : Int) - 1 - i - 1 := by omega
        rw [e] at this
        exact Ev.step (fun k => by simp only [slices_Reverse_int_int.l0]; rw [if_pos c, if_pos (by omega), if_pos (by omega), if_pos i0, if_pos (by omega), wrap_in (by omega) (by omega), wrap_in (by omega) (by omega)]) this
      · rw [fin i y hy c h]
        exact Ev.step (fun k => by simp only [slices_Reverse_int_int.l0]; rw [if_neg (by simpa using c)]) (Ev.now _)
  have := key 0 (by omega) x rfl (by omega) (fun q q0 q1 => by rw [if_neg (by omega)])
  unfold slices_Reverse_int_int.f
  rw [wrap_in (by omega) (by omega)]
  simpa using this
theorem order_l0 (x : List Int) (hx : x.length ≤ 17592186044416) : ∀ (d : Nat) (y : List Int), (d : Int) ≤ (x.length : Int) → y.length + d ≤ x.length → Ev (fun k => plnref3_Order.l0 k x y ((d : Int) - 1)) (y ++ (x.take d).reverse) := by
  intro d
  induction d with
  | zero =>
    intro y _ _
    have := Ev.step (g := fun k => plnref3_Order.l0 k x y (((0 : Nat) : Int) - 1)) (r := y) (fun k => by simp only [plnref3_Order.l0]; rw [if_neg (by omega)]) (Ev.now _)
    simpa using this
  | succ d ih =>
    intro y hd hy
    have e : ((d + 1 : Nat) : Int) - 1 = (d : Int) := by omega
    rw [e]
    have := ih (y ++ [rd x d]) (by omega) (by simp; omega)
    have e2 : (x.take (d + 1)).reverse = rd x d :: (x.take d).reverse := by
      have h1 := rd_eq (xs := x) (i := (d : Int)) (by omega) (by omega)
      rw [Int.toNat_natCast] at h1
      rw [List.take_add_one, h1]
      simp
    rw [e2]
    refine Ev.step (fun k => by simp only [plnref3_Order.l0]; rw [if_pos (by omega), if_pos (by omega), if_pos (by omega), if_pos (by omega), wrap_in (by omega) (by omega)]) ?_
    simpa using this
theorem order_ev (h : IntoOk l4) : ∃ rs ro rp, Walked l4 rs ro rp ∧ Ev (fun k => flow_Order.f k a0 a1 l2 a3 l4) ro.reverse ∧ Ev (fun k => plnref3_Order.f k a0 a1 l2 a3 l4) ro.reverse ∧ Ev (fun k => flow_Loops.f k a0 a1 l2 a3 l4) rp := by
  have hn := h.1
  obtain ⟨rs, ro, rp, k1, hW, k2⟩ := walked_ev (a0 := a0) (a1 := a1) (l2 := l2) (a3 := a3) h
  have hlen : ro.length ≤ l4.length := by have := hW.dfs.size; have := List.count_le_length (l := rs) (a := 2); have := hW.dfs.len; omega
  refine ⟨rs, ro, rp, hW, ?_, ?_, ?_⟩
  · unfold flow_Order.f
    exact Ev.bind k1 (reverse_ev ro (by omega))
  · by_cases c : (l4.length : Int) = 0
    · have : ro = [] := by
        have : ro.length = 0 := by omega
        exact List.eq_nil_of_length_eq_zero this
      rw [this, List.reverse_nil]
      exact Ev.congr (fun k => by unfold plnref3_Order.f; rw [if_pos c]) (Ev.now _)
    · obtain ⟨seen, k3⟩ := k2 (by omega)
      refine Ev.congr (fun k => by unfold plnref3_Order.f; rw [if_neg c, if_pos (by omega), if_pos (by simp; omega), Int.toNat_natCast]) (Ev.bind k3 ?_)
      have := order_l0 ro (by omega) ro.length [] (by omega) (by simp)
      simp only [wrap_in (show -9223372036854775808 ≤ (ro.length : Int) - 1 by omega) (by omega)]
      simpa using this
  · unfold flow_Loops.f
    exact Ev.bind k1 (Ev.now _)
def Round (l4 : List S54) : Prop := ∃ u w, Rc (nextOf l4) (fun _ => True) 0 u ∧ w ∈ nextOf l4 u ∧ Rc (nextOf l4) (fun _ => True) w u
theorem Walked.round_iff (h : IntoOk l4) {rs ro : List Int} {rp : Bool} (hW : Walked l4 rs ro rp) : rp = true ↔ Round l4 := by
  refine ⟨hW.dfs.round, fun ⟨u, w, hu, hw, hc⟩ => ?_⟩
  cases hrp : rp with
  | true => rfl
  | false =>
    obtain ⟨w0, w1⟩ := next_in hw
    have hum := (hW.mem_iff h u).2 ⟨by omega, hu⟩
    obtain ⟨hwm, hlt⟩ := hW.dfs.fore hrp u hum w hw
    have := hc.closed (S := fun x => x ∈ ro ∧ ro.idxOf x ≤ ro.idxOf w) ⟨hwm, Nat.le_refl _⟩ fun x ⟨hx, hxi⟩ y hy _ => by
      obtain ⟨hy1, hy2⟩ := hW.dfs.fore hrp x hx y hy
      exact ⟨hy1, by omega⟩
    omega
theorem loops_ev (h : IntoOk l4) : ∃ r, Ev (fun k => plnref3_Loops.f k a0 a1 l2 a3 l4) r ∧ (r = true ↔ Round l4) := by
  have hn := h.1
  obtain ⟨re, k1, hre⟩ := reach_ev (a0 := a0) (a1 := a1) (l2 := l2) (a3 := a3) h
  have hlen := hre.1
  have step : ∀ i, 0 ≤ i → (∀ u, u < i → Rc (nextOf l4) (fun _ => True) 0 u → ∀ w ∈ nextOf l4 u, ¬ Rc (nextOf l4) (fun _ => True) w u) → ∃ r, Ev (fun k => plnref3_Loops.l0 k re i a0 a1 l2 a3 l4) r ∧ (r = true ↔ Round l4) := by
    refine up_to (l4.length : Int) _ ?_ ?_
    · intro i hi hno
      refine ⟨false, Ev.step (fun k => by simp only [plnref3_Loops.l0]; rw [if_neg (by omega)]) (Ev.now _), ⟨(fun e => by cases e), fun ⟨u, w, hu, hw, hc⟩ => ?_⟩⟩
      have hu1 : u < (l4.length : Int) := by
        unfold nextOf at hw
        split at hw
        · rename_i hg; exact hg.2.1
        · cases hw
      exact absurd hc (hno u (by omega) hu w hw)
    · intro i i0 i1 ih hno
      have hi := hre.2 i i0 i1
      by_cases c : rdOf false re i = true
      · have hri : Rc (nextOf l4) (fun _ => True) 0 i := (rc_all h).2 (hi.1 c).2.2
        have hx := next_len h i
        have inner : ∀ j, 0 ≤ j → (∀ q, 0 ≤ q → q < j → q < ((nextOf l4 i).length : Int) → ¬ Rc (nextOf l4) (fun _ => True) (rd (nextOf l4 i) q) i) → ∃ r, Ev (fun k => plnref3_Loops.l1 k re i (nextOf l4 i) j a0 a1 l2 a3 l4) r ∧ (r = true ↔ Round l4) := by
          refine up_to ((nextOf l4 i).length : Int) _ ?_ ?_
          · intro j hj hq
            obtain ⟨r, m1, m2⟩ := ih (fun u hu hr w hw hc => by
              rcases Int.lt_or_eq_of_le (Int.le_of_lt_add_one hu) with hlt | rfl
              · exact hno u hlt hr w hw hc
              · obtain ⟨q, q0, q1, rfl⟩ := mem_rd hw
                exact hq q q0 (by omega) q1 hc)
            exact ⟨r, Ev.step (fun k => by simp only [plnref3_Loops.l1]; rw [if_neg (by omega), wrap_in (by omega) (by omega)]) m1, m2⟩
          · intro j j0 j1 ihj hq
            obtain ⟨fr, f1, f2⟩ := from_ev (a0 := a0) (a1 := a1) (l2 := l2) (a3 := a3) h (rd (nextOf l4 i) j) (-1)
            obtain ⟨t0, t1⟩ := next_in (rd_mem j0 j1)
            have hfi := f2.2 i i0 i1
            have hfl := f2.1
            by_cases c2 : rdOf false fr i = true
            · have hc : Rc (nextOf l4) (fun _ => True) (rd (nextOf l4 i) j) i := (hfi.1 c2).2.2.mono (fun _ _ => trivial)
              refine ⟨true, Ev.step (fun k => by simp only [plnref3_Loops.l1]; rw [if_pos j1, if_pos j0]) (Ev.bind f1 ?_), ⟨fun _ => ⟨i, _, hri, rd_mem j0 j1, hc⟩, fun _ => rfl⟩⟩
              simp only [if_pos i0, if_pos (show i < (fr.length : Int) by omega), if_pos c2]
              exact Ev.now _
            · obtain ⟨r, m1, m2⟩ := ihj (fun q q0 q1 q2 hc => by
                rcases Int.lt_or_eq_of_le (Int.le_of_lt_add_one q1) with hlt | rfl
                · exact hq q q0 hlt q2 hc
                · apply c2
                  refine hfi.2 ⟨t0, t1, ?_⟩
                  have : ∀ {u v : Int}, 0 ≤ u → Rc (nextOf l4) (fun _ => True) u v → Rc (nextOf l4) (· ≠ -1) u v := fun {u v} hu hr => by
                    induction hr with
                    | refl _ => exact .refl (by omega)
                    | step _ h1 _ ih => exact .step ih h1 (by have := next_in h1; omega)
                  exact this t0 hc)
              refine ⟨r, Ev.step (fun k => by simp only [plnref3_Loops.l1]; rw [if_pos j1, if_pos j0]) (Ev.bind f1 ?_), m2⟩
              simp only [if_pos i0, if_pos (show i < (fr.length : Int) by omega), if_neg c2, wrap_in (show -9223372036854775808 ≤ j + 1 by omega) (by omega)]
              exact m1
        obtain ⟨r, m1, m2⟩ := inner 0 (by omega) (fun q q0 q1 => by omega)
        exact ⟨r, Ev.step (fun k => by simp only [plnref3_Loops.l0]; rw [if_pos (by omega), if_pos i0, if_pos c]) (Ev.bind (rnext_ev h i) m1), m2⟩
      · obtain ⟨r, m1, m2⟩ := ih (fun u hu hr w hw hc => by
          rcases Int.lt_or_eq_of_le (Int.le_of_lt_add_one hu) with hlt | rfl
          · exact hno u hlt hr w hw hc
          · exact c (hi.2 ⟨by omega, by omega, (rc_all h).1 hr⟩))
        exact ⟨r, Ev.step (fun k => by simp only [plnref3_Loops.l0]; rw [if_pos (by omega), if_pos i0, if_neg c, wrap_in (by omega) (by omega)]) m1, m2⟩
  obtain ⟨r, m1, m2⟩ := step 0 (by omega) (fun u hu hr => by
    have : 0 ≤ u := by
      cases hr with
      | refl _ => omega
      | step _ h1 _ => exact (next_in h1).1
    omega)
  exact ⟨r, by unfold plnref3_Loops.f; exact Ev.bind k1 m1, m2⟩
theorem light_ev (h : IntoOk l4) : ∃ r, Ev (fun k => plnkeep_Light.f k a0 a1 l2 a3 l4) r ∧ (r = true → l4.length ≤ 16) := by
  have l0 : ∀ b, 0 ≤ b → ∀ n, 0 ≤ n → n ≤ 90 → l4.length ≤ 16 → ∃ r, Ev (fun k => plnkeep_Light.l0 k n b a0 a1 l2 a3 l4) r := by
    refine up_to (l4.length : Int) _ ?_ ?_
    · intro b hb n n0 n1 hl
      exact ⟨true, Ev.step (fun k => by simp only [plnkeep_Light.l0]; rw [if_neg (by omega)]) (Ev.now _)⟩
    · intro b b0 b1 ih n n0 n1 hl
      obtain ⟨h1, h2⟩ := h.2 b b0 b1
      have hw : wrap64 (n + ((rd_T54 l4 b).f0.length : Int)) = n + ((rd_T54 l4 b).f0.length : Int) := wrap_in (by omega) (by omega)
      by_cases c : n + ((rd_T54 l4 b).f0.length : Int) > 90
      · exact ⟨false, Ev.step (fun k => by simp only [plnkeep_Light.l0]; rw [if_pos b1, if_pos b0, hw, if_pos c]) (Ev.now _)⟩
      · have l1 : ∀ i, 0 ≤ i → ∃ r, Ev (fun k => plnkeep_Light.l1 k (n + ((rd_T54 l4 b).f0.length : Int)) b i a0 a1 l2 a3 l4) r := by
          refine up_to ((rd_T54 l4 b).f0.length : Int) _ ?_ ?_
          · intro i hi
            obtain ⟨r, hr⟩ := ih (n + ((rd_T54 l4 b).f0.length : Int)) (by omega) (by omega) hl
            exact ⟨r, Ev.step (fun k => by simp only [plnkeep_Light.l1]; rw [if_pos b0, if_pos b1, if_neg (by omega), wrap_in (by omega) (by omega)]) hr⟩
          · intro i i0 i1 ⟨r, hr⟩
            by_cases c1 : ((rd_T56 (rd_T54 l4 b).f0 i).f5.length : Int) > 20
            · exact ⟨false, Ev.step (fun k => by simp only [plnkeep_Light.l1]; rw [if_pos b0, if_pos b1, if_pos i1, if_pos i0, if_pos c1]) (Ev.now _)⟩
            by_cases c2 : ((rd_T56 (rd_T54 l4 b).f0 i).f6.length : Int) > 20
            · exact ⟨false, Ev.step (fun k => by simp only [plnkeep_Light.l1]; rw [if_pos b0, if_pos b1, if_pos i1, if_pos i0, if_neg c1, if_pos c2]) (Ev.now _)⟩
            exact ⟨r, Ev.step (fun k => by simp only [plnkeep_Light.l1]; rw [if_pos b0, if_pos b1, if_pos i1, if_pos i0, if_neg c1, if_neg c2, wrap_in (by omega) (by omega)]) hr⟩
        obtain ⟨r, hr⟩ := l1 0 (by omega)
        exact ⟨r, Ev.step (fun k => by simp only [plnkeep_Light.l0]; rw [if_pos b1, if_pos b0, hw, if_neg c]) hr⟩
  have j0 : ∀ t, (t = false → l4.length ≤ 16) → ∃ r, Ev (fun k => plnkeep_Light.j0 k t a0 a1 l2 a3 l4) r ∧ (r = true → l4.length ≤ 16) := fun t ht => by
    cases t with
    | true => exact ⟨false, Ev.step (fun k => by simp only [plnkeep_Light.j0]; rw [if_pos trivial]) (Ev.now _), fun e => by cases e⟩
    | false =>
      obtain ⟨r, hr⟩ := l0 0 (by omega) 0 (by omega) (by omega) (ht rfl)
      exact ⟨r, Ev.step (fun k => by simp only [plnkeep_Light.j0]; rw [if_neg (by decide)]) hr, fun _ => ht rfl⟩
  by_cases c1 : (a0.size : Int) > 40
  · obtain ⟨r, h1, h2⟩ := j0 true (fun e => by cases e)
    exact ⟨r, Ev.congr (fun k => by unfold plnkeep_Light.f; rw [if_pos c1]) h1, h2⟩
  by_cases c2 : (l2.length : Int) > 8
  · obtain ⟨r, h1, h2⟩ := j0 true (fun e => by cases e)
    exact ⟨r, Ev.congr (fun k => by unfold plnkeep_Light.f; rw [if_neg c1, if_pos c2]) h1, h2⟩
  · obtain ⟨r, h1, h2⟩ := j0 (decide ((l4.length : Int) > 16)) (fun e => by simp at e; omega)
    exact ⟨r, Ev.congr (fun k => by unfold plnkeep_Light.f; rw [if_neg c1, if_neg c2]) h1, h2⟩
end
theorem first_ev : Ev (fun k => plnlaw4_first.f k) true := Ev.of (k := 60) (fun k => plnlaw4_first.mono k) (by decide +kernel)
end Go.Proofs.Ytkcimaibaicdcaa.Gr
end
section
namespace Go.Proofs.Ytkcimaibaicdcaa.Pure
open Go.RowKit Go.Proofs.Ytkcimaibaicdcaa.P Go.Proofs.YtkcimaibaicdcaaW.PrintWords Go.Proofs.YtkcimaibaicdcaaW.PrintLast Go.Proofs.Ytkcimaibaicdcaa.Gr
theorem FlowTells : plnlaw4_FlowTells.Pure := by
  intro a0 a1 l2 a3 l4 b hB _
  have h := intoOk_of hB
  have hn := h.1
  obtain ⟨t, ht, _⟩ := light_ev (a0 := a0) (a1 := a1) (l2 := l2) (a3 := a3) h
  refine Ev.rounds (Ev.congr (fun k => by unfold plnlaw4_FlowTells.f; rfl) (Ev.bind first_ev (Ev.bind ht ?_)))
  cases t with
  | false =>
    simp only [Bool.false_eq_true, if_false]
    exact Ev.bind first_ev (Ev.now _)
  | true =>
    simp only [if_true]
    have ni : ∀ b, Ev (fun k => plnref3_Ints.f k (nextOf l4 b) (nextOf l4 b)) true := fun b => by
      have := ints_ev (nextOf l4 b) (nextOf l4 b) (by have := next_len h b; omega)
      simpa using this
    refine up_to (l4.length : Int) (fun i => Ev (fun k => plnlaw4_FlowTells.l0 k b i a0 a1 l2 a3 l4) true) ?_ ?_ 0 (by omega)
    · intro i hi
      obtain ⟨pr, p1, p2, p3⟩ := prev_ev (a0 := a0) (a1 := a1) (l2 := l2) (a3 := a3) h
      obtain ⟨r1, q1, q2⟩ := flow_reach_ev (a0 := a0) (a1 := a1) (l2 := l2) (a3 := a3) h
      obtain ⟨r2, q3, q4⟩ := reach_ev (a0 := a0) (a1 := a1) (l2 := l2) (a3 := a3) h
      obtain rfl := from_is_unique q2 q4
      obtain ⟨rs, ro, rp, hW, o1, o2, o3⟩ := order_ev (a0 := a0) (a1 := a1) (l2 := l2) (a3 := a3) h
      obtain ⟨lr, l1, l2_⟩ := loops_ev (a0 := a0) (a1 := a1) (l2 := l2) (a3 := a3) h
      have hro : ro.length ≤ l4.length := by have := hW.dfs.size; have := List.count_le_length (l := rs) (a := 2); have := hW.dfs.len; omega
      have e : rp = lr := by rw [Bool.eq_iff_iff, hW.round_iff h, l2_]
      refine Ev.step (fun k => by simp only [plnlaw4_FlowTells.l0]; rw [if_neg (by omega)]) ?_
      refine Ev.bind (next_ev h b) (Ev.bind (rnext_ev h b) (Ev.bind (ni b) ?_))
      simp only [if_true]
      refine Ev.bind p1 (Ev.bind p2 (Ev.bind (rows_same pr (by have := p3.1; omega) (fun i i0 i1 => by have := (p3.2 i i0 (by rw [← p3.1]; exact i1)).2; omega)) ?_))
      simp only [if_true]
      refine Ev.bind q1 (Ev.bind q3 (Ev.bind (a := true) (by have := bools_ev r1 r1 (by have := q2.1; omega); simpa using this) ?_))
      simp only [if_true]
      refine Ev.bind o1 (Ev.bind o2 (Ev.bind (a := true) (by have := ints_ev ro.reverse ro.reverse (by simp; omega); simpa using this) ?_))
      simp only [if_true]
      refine Ev.bind o3 (Ev.bind l1 ?_)
      rw [e]
      simpa using Ev.now true
    · intro i i0 i1 ih
      refine Ev.step (fun k => by simp only [plnlaw4_FlowTells.l0]; rw [if_pos i1]) ?_
      refine Ev.bind (next_ev h i) (Ev.bind (rnext_ev h i) (Ev.bind (ni i) ?_))
      simp only [if_true]
      rw [wrap_in (by omega) (by omega)]
      exact ih
end Go.Proofs.Ytkcimaibaicdcaa.Pure
end
