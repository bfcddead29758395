/- A part of the proof of the law of DomWays: lemmas and walks, out of this session's texts, with what the claim does not use struck out. -/
import Derived.Test.YtkcimaibaicdcaaD13
import Derived.Test.YtkcimaibaicdcaaD14
import Derived.Test.YtkcimaibaicdcaaD20
import Derived.Test.YtkcimaibaicdcaaD22
section
set_option linter.unusedVariables false
namespace Go.Proofs.Ytkcimaibaicdcaa.Gr
open Go.RowKit Go.Proofs.YtkcimaibaicdcaaW.PrintWords Go.Proofs.Ytkcimaibaicdcaa.P
section
variable {a0 : ByteArray} {a1 : Bool} {l2 : List Int} {a3 : Int} {l4 : List S54}
theorem Walked.mem_iff (h : IntoOk l4) {rs ro : List Int} {rp : Bool} (hW : Walked l4 rs ro rp) (v : Int) : v ∈ ro ↔ (0 : Int) < l4.length ∧ Rc (nextOf l4) (fun _ => True) 0 v := by
  constructor
  · intro hv
    obtain ⟨v0, v1, v2⟩ := (hW.dfs.mem v).1 hv
    exact ⟨by omega, hW.dfs.met v v0 v1 (by omega)⟩
  · rintro ⟨hn, hr⟩
    refine hr.closed (S := fun x => x ∈ ro) (hW.root hn).1 fun x hx y hy _ => ?_
    obtain ⟨y0, y1⟩ := next_in hy
    exact (hW.dfs.mem y).2 ⟨y0, y1, (hW.done y y0 y1).resolve_left (hW.dfs.shut x hx y hy)⟩
theorem reach_l0 (rs : List Int) (hl : rs.length = l4.length) (hn : l4.length ≤ 5864062014634) : ∀ i, 0 ≤ i → ∀ o : List Bool, o.length = l4.length → (∀ v : Int, 0 ≤ v → v < i → v < (l4.length : Int) → rdOf false o v = (rd rs v != 0)) →
    ∃ r, Ev (fun k => flow_Reach.l0 k rs o i) r ∧ r.length = l4.length ∧ ∀ v : Int, 0 ≤ v → v < (l4.length : Int) → rdOf false r v = (rd rs v != 0) := by
  refine up_to (l4.length : Int) _ ?_ ?_
  · intro i hi o ho h
    exact ⟨o, Ev.step (fun k => by simp only [flow_Reach.l0]; rw [if_neg (by omega)]) (Ev.now _), ho, fun v v0 v1 => h v v0 (by omega) v1⟩
  · intro i i0 i1 ih o ho h
    obtain ⟨r, h1, h2⟩ := ih (o.set i.toNat (rd rs i != 0)) (by simpa using ho) (fun v v0 v1 v2 => by
      rw [rdb_set i0 (by omega) v0]
      by_cases e : i = v
      · subst e; rw [if_pos rfl]
      · rw [if_neg e]; exact h v v0 (by omega) v2)
    exact ⟨r, Ev.step (fun k => by simp only [flow_Reach.l0]; rw [if_pos (by omega), if_pos i0, if_pos (by omega), wrap_in (by omega) (by omega)]) h1, h2⟩
theorem rc_all (h : IntoOk l4) {v : Int} : Rc (nextOf l4) (fun _ => True) 0 v ↔ Rc (nextOf l4) (· ≠ -1) 0 v := by
  constructor
  · intro hr
    induction hr with
    | refl _ => exact .refl (by decide)
    | step _ h1 _ ih => exact .step ih h1 (by have := next_in h1; omega)
  · exact fun hr => hr.mono (fun _ _ => trivial)
theorem flow_reach_ev (h : IntoOk l4) : ∃ r, Ev (fun k => flow_Reach.f k a0 a1 l2 a3 l4) r ∧ FromIs l4 0 (-1) r := by
  have hn := h.1
  obtain ⟨rs, ro, rp, k1, hW, _⟩ := walked_ev (a0 := a0) (a1 := a1) (l2 := l2) (a3 := a3) h
  obtain ⟨r, m1, m2, m3⟩ := reach_l0 (l4 := l4) rs hW.dfs.len hn 0 (by omega) (List.replicate l4.length false) (by simp) (fun v v0 v1 => by omega)
  refine ⟨r, ?_, m2, fun v v0 v1 => ?_⟩
  · unfold flow_Reach.f
    refine Ev.bind k1 ?_
    simp only [if_pos (show l4.length ≤ 281474976710656 by omega)]
    exact m1
  · rw [m3 v v0 v1, ← rc_all h]
    have hm := hW.mem_iff h v
    constructor
    · intro hv
      have hv' : rd rs v ≠ 0 := by simpa using hv
      exact ⟨by omega, by omega, (hm.1 ((hW.dfs.mem v).2 ⟨v0, v1, (hW.done v v0 v1).resolve_left hv'⟩)).2⟩
    · rintro ⟨_, hn0, hr⟩
      have := ((hW.dfs.mem v).1 (hm.2 ⟨hn0, hr⟩)).2.2
      rw [this]
      rfl
theorem light_ev (h : IntoOk l4) : ∃ r, Ev (fun k => plnkeep_Light.f k a0 a1 l2 a3 l4) r ∧ (r = true → l4.length ≤ 16) := by
  have l0 : ∀ b, 0 ≤ b → ∀ n, 0 ≤ n → n ≤ 90 → l4.length ≤ 16 → ∃ r, Ev (fun k => plnkeep_Light.l0 k n b a0 a1 l2 a3 l4) r := by
    refine up_to (l4.length : Int) _ ?_ ?_
    · intro b hb n n0 n1 hl
      exact ⟨true, Ev.step (fun k => by simp only [plnkeep_Light.l0]; rw [if_neg (by omega)]) (Ev.now _)⟩
    · intro b b0 b1 ih n n0 n1 hl
      obtain ⟨h1, h2⟩ := h.2 b b0 b1
      have hw : wrap64 (n + ((rd_T54 l4 b).f0.length : Int)) = n + ((rd_T54 l4 b).f0.length : Int) := wrap_in (by omega) (by omega)
      by_cases c : n + ((rd_T54 l4 b).f0.length : Int) > 90
      · exact ⟨false, Ev.step (fun k => by simp only [plnkeep_Light.l0]; rw [if_pos b1, if_pos b0, hw, if_pos c]) (Ev.now _)⟩
      · have l1 : ∀ i, 0 ≤ i → ∃ r, Ev (fun k => plnkeep_Light.l1 k (n + ((rd_T54 l4 b).f0.length : Int)) b i a0 a1 l2 a3 l4) r := by
          refine up_to ((rd_T54 l4 b).f0.length : Int) _ ?_ ?_
          · intro i hi
            obtain ⟨r, hr⟩ := ih (n + ((rd_T54 l4 b).f0.length : Int)) (by omega) (by omega) hl
            exact ⟨r, Ev.step (fun k => by simp only [plnkeep_Light.l1]; rw [if_pos b0, if_pos b1, if_neg (by omega), wrap_in (by omega) (by omega)]) hr⟩
          · intro i i0 i1 ⟨r, hr⟩
            by_cases c1 : ((rd_T56 (rd_T54 l4 b).f0 i).f5.length : Int) > 20
            · exact ⟨false, Ev.step (fun k => by simp only [plnkeep_Light.l1]; rw [if_pos b0, if_pos b1, if_pos i1, if_pos i0, if_pos c1]) (Ev.now _)⟩
            by_cases c2 : ((rd_T56 (rd_T54 l4 b).f0 i).f6.length : Int) > 20
            · exact ⟨false, Ev.step (fun k => by simp only [plnkeep_Light.l1]; rw [if_pos b0, if_pos b1, if_pos i1, if_pos i0, if_neg c1, if_pos c2]) (Ev.now _)⟩
            exact ⟨r, Ev.step (fun k => by simp only [plnkeep_Light.l1]; rw [if_pos b0, if_pos b1, if_pos i1, if_pos i0, if_neg c1, if_neg c2, wrap_in (by omega) (by omega)]) hr⟩
        obtain ⟨r, hr⟩ := l1 0 (by omega)
        exact ⟨r, Ev.step (fun k => by simp only [plnkeep_Light.l0]; rw [if_pos b1, if_pos b0, hw, if_neg c]) hr⟩
  have j0 : ∀ t, (t = false → l4.length ≤ 16) → ∃ r, Ev (fun k => plnkeep_Light.j0 k t a0 a1 l2 a3 l4) r ∧ (r = true → l4.length ≤ 16) := fun t ht => by
    cases t with
    | true => exact ⟨false, Ev.step (fun k => by simp only [plnkeep_Light.j0]; rw [if_pos trivial]) (Ev.now _), fun e => by cases e⟩
    | false =>
      obtain ⟨r, hr⟩ := l0 0 (by omega) 0 (by omega) (by omega) (ht rfl)
      exact ⟨r, Ev.step (fun k => by simp only [plnkeep_Light.j0]; rw [if_neg (by decide)]) hr, fun _ => ht rfl⟩
  by_cases c1 : (a0.size : Int) > 40
  · obtain ⟨r, h1, h2⟩ := j0 true (fun e => by cases e)
    exact ⟨r, Ev.congr (fun k => by unfold plnkeep_Light.f; rw [if_pos c1]) h1, h2⟩
  by_cases c2 : (l2.length : Int) > 8
  · obtain ⟨r, h1, h2⟩ := j0 true (fun e => by cases e)
    exact ⟨r, Ev.congr (fun k => by unfold plnkeep_Light.f; rw [if_neg c1, if_pos c2]) h1, h2⟩
  · obtain ⟨r, h1, h2⟩ := j0 (decide ((l4.length : Int) > 16)) (fun e => by simp at e; omega)
    exact ⟨r, Ev.congr (fun k => by unfold plnkeep_Light.f; rw [if_neg c1, if_neg c2]) h1, h2⟩
end
end Go.Proofs.Ytkcimaibaicdcaa.Gr
end
section
set_option linter.unusedVariables false
namespace Go.Proofs.Ytkcimaibaicdcaa.Gr
open Go.RowKit Go.Proofs.YtkcimaibaicdcaaW.PrintWords Go.Proofs.Ytkcimaibaicdcaa.P
section
variable {a0 : ByteArray} {a1 : Bool} {l2 : List Int} {a3 : Int} {l4 : List S54}
def NextIs (l4 : List S54) (nx : List (List Int)) : Prop := nx.length = l4.length ∧ ∀ b : Int, 0 ≤ b → b < (l4.length : Int) → rd_L1 nx b = nextOf l4 b
structure Wd (l4 : List S54) (a : Int) (seen : List Bool) (work : List Int) : Prop where
  len : seen.length = l4.length
  sound : ∀ v : Int, 0 ≤ v → v < (l4.length : Int) → rdOf false seen v = true → Rc (nextOf l4) (· ≠ a) 0 v
  first : a ≠ 0 → rdOf false seen 0 = true
  inn : ∀ v ∈ work, 0 ≤ v ∧ v < (l4.length : Int) ∧ rdOf false seen v = true
  few : work.length ≤ seen.count true
theorem Wd.push {a : Int} {seen : List Bool} {work : List Int} (h : Wd l4 a seen work) {v : Int} (v0 : 0 ≤ v) (v1 : v < (l4.length : Int)) (hv : rdOf false seen v = false) (hr : Rc (nextOf l4) (· ≠ a) 0 v) :
    Wd l4 a (seen.set v.toNat true) (work ++ [v]) := by
  have hl : v < (seen.length : Int) := by rw [h.len]; exact v1
  refine ⟨by simp [h.len], fun w w0 w1 hw => ?_, fun ha => ?_, fun w hw => ?_, ?_⟩
  · rw [rdb_set v0 hl w0] at hw
    by_cases e : v = w
    · exact e ▸ hr
    · rw [if_neg e] at hw; exact h.sound w w0 w1 hw
  · rw [rdb_set v0 hl (by omega)]
    split
    · rfl
    · exact h.first ha
  · rcases List.mem_append.1 hw with hw | hw
    · obtain ⟨x, y, z⟩ := h.inn w hw
      refine ⟨x, y, ?_⟩
      rw [rdb_set v0 hl x]
      split
      · rfl
      · exact z
    · simp at hw; subst hw
      exact ⟨v0, v1, by rw [rdb_set v0 hl v0, if_pos rfl]⟩
  · rw [count_set v0 hl hv]; simp; exact h.few
def Told (l4 : List S54) (a : Int) (seen : List Bool) (work : List Int) (b : Int) : Prop :=
  ∀ v : Int, 0 ≤ v → v < (l4.length : Int) → rdOf false seen v = true → v ∉ work → v ≠ b → ∀ w ∈ nextOf l4 v, w ≠ a → rdOf false seen w = true
theorem without_l1 {nx : List (List Int)} {a b : Int} (hn : l4.length ≤ 5864062014634) (b0 : 0 ≤ b) (b1 : b < (l4.length : Int)) (hb : Rc (nextOf l4) (· ≠ a) 0 b) (hx : (nextOf l4 b).length ≤ 17592186043904) (Q : List Bool → Prop) (m : Nat)
    (hrest : ∀ seen work, Wd l4 a seen work → Told l4 a seen work (-1) → 2 * (l4.length - seen.count true) + work.length ≤ m → ∃ r, Ev (fun k => dom_without.l0 k nx a seen work) r ∧ Q r) :
    ∀ j, 0 ≤ j → ∀ seen work, Wd l4 a seen work → rdOf false seen b = true → Told l4 a seen work b → (∀ i : Int, 0 ≤ i → i < j → i < ((nextOf l4 b).length : Int) → rd (nextOf l4 b) i ≠ a → rdOf false seen (rd (nextOf l4 b) i) = true) →
      2 * (l4.length - seen.count true) + work.length ≤ m → ∃ r, Ev (fun k => dom_without.l1 k nx a seen work (nextOf l4 b) ((nextOf l4 b).length : Int) j) r ∧ Q r := by
  refine up_to ((nextOf l4 b).length : Int) _ ?_ ?_
  · intro j hj seen work hW hs hT hd hm
    obtain ⟨r, h1, h2⟩ := hrest seen work hW (fun v v0 v1 hv hw hne w hin hwa => by
      by_cases e : v = b
      · subst e
        obtain ⟨i, i0, i1, rfl⟩ := mem_rd hin
        exact hd i i0 (by omega) i1 hwa
      · exact hT v v0 v1 hv hw e w hin hwa) hm
    exact ⟨r, Ev.step (fun k => by simp only [dom_without.l1]; rw [if_neg (by omega)]) h1, h2⟩
  · intro j j0 j1 ih seen work hW hs hT hd hm
    have hmem := rd_mem j0 j1
    obtain ⟨t0, t1⟩ := next_in hmem
    have hlen := hW.len
    by_cases ea : rd (nextOf l4 b) j = a
    · obtain ⟨r, h1, h2⟩ := ih seen work hW hs hT (fun i i0 i1 i2 i3 => by
        by_cases e : i = j
        · subst e; exact absurd ea i3
        · exact hd i i0 (by omega) i2 i3) hm
      exact ⟨r, Ev.step (fun k => by simp only [dom_without.l1]; rw [if_pos j1, if_pos j0, if_pos j1, if_pos ea, wrap_in (by omega) (by omega)]) h1, h2⟩
    · by_cases es : rdOf false seen (rd (nextOf l4 b) j) = true
      · obtain ⟨r, h1, h2⟩ := ih seen work hW hs hT (fun i i0 i1 i2 i3 => by
          by_cases e : i = j
          · subst e; exact es
          · exact hd i i0 (by omega) i2 i3) hm
        exact ⟨r, Ev.step (fun k => by simp only [dom_without.l1]; rw [if_pos j1, if_pos j0, if_pos j1, if_neg ea, if_pos t0, if_pos (by omega), if_pos es, wrap_in (by omega) (by omega)]) h1, h2⟩
      · have es' : rdOf false seen (rd (nextOf l4 b) j) = false := by simpa using es
        have hl : rd (nextOf l4 b) j < (seen.length : Int) := by omega
        have hc := count_set t0 hl es'
        have hcl := List.count_le_length (l := seen.set (rd (nextOf l4 b) j).toNat true) (a := true)
        have hf := hW.few
        simp at hcl
        have old : ∀ v : Int, 0 ≤ v → rdOf false seen v = true → rdOf false (seen.set (rd (nextOf l4 b) j).toNat true) v = true := fun v v0 hv => by
          rw [rdb_set t0 hl v0]; split
          · rfl
          · exact hv
        obtain ⟨r, h1, h2⟩ := ih _ _ (hW.push t0 t1 es' (.step hb hmem ea)) (old b b0 hs) (fun v v0 v1 hv hw hne w hin hwa => by
            rw [rdb_set t0 hl v0] at hv
            by_cases e : rd (nextOf l4 b) j = v
            · exact absurd (by rw [← e]; simp) hw
            · rw [if_neg e] at hv
              exact old w (next_in hin).1 (hT v v0 v1 hv (fun h => hw (List.mem_append_left _ h)) hne w hin hwa))
          (fun i i0 i1 i2 i3 => by
            by_cases e : i = j
            · subst e; rw [rdb_set t0 hl t0, if_pos rfl]
            · exact old _ (next_in (rd_mem i0 i2)).1 (hd i i0 (by omega) i2 i3))
          (by rw [hc]; simp; omega)
        exact ⟨r, Ev.step (fun k => by simp only [dom_without.l1]; rw [if_pos j1, if_pos j0, if_pos j1, if_neg ea, if_pos t0, if_pos (by omega), if_neg es, if_pos (by omega), wrap_in (by omega) (by omega)]) h1, h2⟩
theorem without_l0 (h : IntoOk l4) {nx : List (List Int)} (hnx : NextIs l4 nx) (a : Int) : ∀ (m : Nat) (seen : List Bool) (work : List Int), Wd l4 a seen work → Told l4 a seen work (-1) → 2 * (l4.length - seen.count true) + work.length ≤ m →
    ∃ r, Ev (fun k => dom_without.l0 k nx a seen work) r ∧ Wd l4 a r [] ∧ Told l4 a r [] (-1) := by
  have hn := h.1
  intro m
  induction m with
  | zero =>
    intro seen work hW hT hm
    have : work = [] := List.length_eq_zero_iff.1 (by omega)
    subst this
    exact ⟨seen, Ev.step (fun k => by simp only [dom_without.l0]; rw [if_neg (by simp)]) (Ev.now _), hW, hT⟩
  | succ m ih =>
    intro seen work hW hT hm
    by_cases hw : work.length = 0
    · have : work = [] := List.length_eq_zero_iff.1 hw
      subst this
      exact ⟨seen, Ev.step (fun k => by simp only [dom_without.l0]; rw [if_neg (by simp)]) (Ev.now _), hW, hT⟩
    · have hcl := List.count_le_length (l := seen) (a := true)
      have hf := hW.few
      have hlen := hW.len
      have hwl : wrap64 ((work.length : Int) - 1) = (work.length : Int) - 1 := wrap_in (by omega) (by omega)
      obtain ⟨pre, b, rfl⟩ : ∃ pre b, work = pre ++ [b] := by
        refine ⟨work.dropLast, work.getLast (by intro e; subst e; simp at hw), (List.dropLast_concat_getLast _).symm⟩
      obtain ⟨b0, b1, bs⟩ := hW.inn b (by simp)
      have er : rd (pre ++ [b]) (((pre ++ [b]).length : Int) - 1) = b := by
        unfold rd; simp
      have et : (pre ++ [b]).take (((pre ++ [b]).length : Int) - 1).toNat = pre := by simp
      have hW' : Wd l4 a seen pre := ⟨hW.len, hW.sound, hW.first, fun v hv => hW.inn v (List.mem_append_left _ hv), by simp at hf; omega⟩
      have hT' : Told l4 a seen pre b := fun v v0 v1 hv hnw hne w hin hwa => hT v v0 v1 hv (by simp; exact ⟨hnw, hne⟩) (by omega) w hin hwa
      obtain ⟨r, h1, h2, h3⟩ := without_l1 (nx := nx) hn b0 b1 (hW.sound b b0 b1 bs) (by have := next_len h b; omega) (fun r => Wd l4 a r [] ∧ Told l4 a r [] (-1)) m (fun s w q1 q2 q3 => ih s w q1 q2 q3) 0 (by omega) seen pre hW' bs hT' (fun i i0 i1 => by omega) (by simp at hm; omega)
      refine ⟨r, Ev.step (fun k => ?_) h1, h2, h3⟩
      simp only [dom_without.l0]
      rw [hwl, er, et, hnx.2 b b0 b1, if_pos (by simp), if_pos (by simp), if_pos (by omega), if_pos (by omega), if_pos b0, if_pos (by rw [hnx.1]; exact b1)]
theorem without_ev (h : IntoOk l4) {nx : List (List Int)} (hnx : NextIs l4 nx) (a : Int) (hpos : 0 < l4.length) : ∃ r, Ev (fun k => dom_without.f k nx a) r ∧ FromIs l4 0 a r := by
  have hn := h.1
  have hl := hnx.1
  have fin : ∀ r, Wd l4 a r [] → Told l4 a r [] (-1) → a ≠ 0 → FromIs l4 0 a r := fun r hW hT ha => by
    refine ⟨hW.len, fun v v0 v1 => ⟨fun hv => ⟨by omega, by omega, hW.sound v v0 v1 hv⟩, fun hv => ?_⟩⟩
    refine (hv.2.2.closed (S := fun x => 0 ≤ x ∧ x < (l4.length : Int) ∧ rdOf false r x = true) ⟨by omega, by omega, hW.first ha⟩ fun x hx y hy hya => ?_).2.2
    exact ⟨(next_in hy).1, (next_in hy).2, hT x hx.1 hx.2.1 hx.2.2 (by simp) (by omega) y hy hya⟩
  by_cases ha : a = 0
  · refine ⟨List.replicate nx.length false, ?_, by simp [hl], fun v v0 v1 => ?_⟩
    · have e : ∀ k, dom_without.f k nx a = dom_without.j0 k nx a (List.replicate nx.length false) [] := fun k => by
        unfold dom_without.f
        rw [if_pos (by omega), if_pos (by omega)]
        simp [ha]
      refine Ev.congr e ?_
      exact Ev.step (fun k => by rw [dom_without.j0]) (Ev.step (fun k => by simp only [dom_without.l0]; rw [if_neg (by simp)]) (Ev.now _))
    · rw [rdb_replicate]
      constructor
      · intro e; cases e
      · rintro ⟨_, _, hr⟩; exact absurd (hr.left) (by simp [ha])
  · have hc0 : (List.replicate nx.length false).count true = 0 := by rw [List.count_replicate]; simp
    have s0 : rdOf false (List.replicate nx.length false) 0 = false := rdb_replicate
    have hW0 : Wd l4 a (List.replicate nx.length false) [] → Wd l4 a ((List.replicate nx.length false).set (0 : Int).toNat true) ([] ++ [0]) := fun w => w.push (by omega) (by omega) s0 (.refl (by simpa using fun e => ha e.symm))
    have hlt : (0 : Int) < ((List.replicate nx.length false).length : Int) := by simp; omega
    have W1 : Wd l4 a ((List.replicate nx.length false).set (0 : Int).toNat true) ([] ++ [0]) := by
      refine ⟨by simp [hl], fun v v0 v1 hv => ?_, fun _ => by rw [rdb_set (by omega) hlt (by omega), if_pos rfl], fun v hv => ?_, by rw [count_set (by omega) hlt s0, hc0]; simp⟩
      · rw [rdb_set (by omega) hlt v0] at hv
        by_cases e : (0 : Int) = v
        · subst e; exact .refl (by simpa using fun e => ha e.symm)
        · rw [if_neg e, rdb_replicate] at hv; cases hv
      · simp at hv; subst hv
        exact ⟨by omega, by omega, by rw [rdb_set (by omega) hlt (by omega), if_pos rfl]⟩
    have T1 : Told l4 a ((List.replicate nx.length false).set (0 : Int).toNat true) ([] ++ [0]) (-1) := fun v v0 v1 hv hnw _ => by
      rw [rdb_set (by omega) hlt v0] at hv
      by_cases e : (0 : Int) = v
      · subst e; exact absurd (by simp) hnw
      · rw [if_neg e, rdb_replicate] at hv; cases hv
    obtain ⟨r, h1, h2, h3⟩ := without_l0 h hnx a _ _ _ W1 T1 (Nat.le_refl _)
    refine ⟨r, ?_, fin r h2 h3 ha⟩
    have e : ∀ k, dom_without.f k nx a = dom_without.j0 k nx a ((List.replicate nx.length false).set (0 : Int).toNat true) ([] ++ [0]) := fun k => by
      unfold dom_without.f
      rw [if_pos (by omega), if_pos (by omega)]
      show (if a = 0 then _ else if 0 < ((List.replicate nx.length false).length : Int) then if ([] : List Int).length < 17592186044416 then _ else _ else _) = _
      rw [if_neg ha, if_pos hlt, if_pos (by simp)]
      rfl
    refine Ev.congr e ?_
    exact Ev.step (fun k => by rw [dom_without.j0]) h1
end
end Go.Proofs.Ytkcimaibaicdcaa.Gr
end
section
set_option linter.unusedVariables false
namespace Go.Proofs.Ytkcimaibaicdcaa.Gr
open Go.RowKit Go.Proofs.YtkcimaibaicdcaaW.PrintWords Go.Proofs.Ytkcimaibaicdcaa.P
section
variable {a0 : ByteArray} {a1 : Bool} {l2 : List Int} {a3 : Int} {l4 : List S54}
theorem rdL9_set {xs : List (List Bool)} {i j : Int} {x : List Bool} (h0 : 0 ≤ i) (h1 : i < (xs.length : Int)) (hj : 0 ≤ j) : rd_L9 (xs.set i.toNat x) j = if i = j then x else rd_L9 xs j := by
  unfold rd_L9
  rw [List.getD_eq_getElem?_getD, List.getD_eq_getElem?_getD, List.getElem?_set]
  by_cases e : i = j
  · subst e
    have : i.toNat < xs.length := by omega
    simp [this]
  · have : ¬ i.toNat = j.toNat := by omega
    simp [this, e]
def Ov (l4 : List S54) (a b : Int) : Prop := Rc (nextOf l4) (fun _ => True) 0 a ∧ Rc (nextOf l4) (fun _ => True) 0 b ∧ ¬ Rc (nextOf l4) (· ≠ a) 0 b
def RowOk (l4 : List S54) (a : Int) (row : List Bool) : Prop := row.length = l4.length ∧ ∀ b : Int, 0 ≤ b → b < (l4.length : Int) → (rdOf false row b = true ↔ Ov l4 a b)
def OverIs (l4 : List S54) (is : List (List Bool)) : Prop := is.length = l4.length ∧ ∀ a : Int, 0 ≤ a → a < (l4.length : Int) → RowOk l4 a (rd_L9 is a)
theorem over_l1 (h : IntoOk l4) {nx : List (List Int)} (hnx : NextIs l4 nx) {r : List Bool} (hr : FromIs l4 0 (-1) r) (hpos : 0 < l4.length) :
    ∀ i, 0 ≤ i → ∀ out : List (List Bool), out.length = l4.length → (∀ a : Int, 0 ≤ a → a < i → a < (l4.length : Int) → RowOk l4 a (rd_L9 out a)) →
      ∃ is, Ev (fun k => dom_over.l1 k (l4.length : Int) nx r out (l4.length : Int) i) is ∧ OverIs l4 is := by
  have hn := h.1
  have hrl := hr.1
  refine up_to (l4.length : Int) _ ?_ ?_
  · intro i hi out hl hA
    exact ⟨out, Ev.step (fun k => by simp only [dom_over.l1]; rw [if_neg (by omega)]) (Ev.now _), hl, fun a x y => hA a x (by omega) y⟩
  · intro i i0 i1 ih out hl hA
    have sees : ∀ v : Int, 0 ≤ v → v < (l4.length : Int) → (rdOf false r v = true ↔ Rc (nextOf l4) (fun _ => True) 0 v) := fun v v0 v1 => by
      rw [hr.2 v v0 v1, rc_all h]
      exact ⟨fun x => x.2.2, fun x => ⟨by omega, by omega, x⟩⟩
    have hil : i < (out.length : Int) := by omega
    have ol : (out.set i.toNat (List.replicate l4.length false)).length = l4.length := by simpa using hl
    have oA : ∀ out' : List (List Bool), out'.length = l4.length → (∀ a : Int, 0 ≤ a → a ≠ i → rd_L9 out' a = rd_L9 out a) → RowOk l4 i (rd_L9 out' i) → ∃ is, Ev (fun k => dom_over.l1 k (l4.length : Int) nx r out' (l4.length : Int) (i + 1)) is ∧ OverIs l4 is := fun out' q1 q2 q3 => by
      refine ih out' q1 fun a x y z => ?_
      by_cases e : a = i
      · subst e; exact q3
      · rw [q2 a x e]; exact hA a x (by omega) z
    have base : ∀ k, dom_over.l1 (k + 1) (l4.length : Int) nx r out (l4.length : Int) i = if rdOf false r i = true then (dom_without.f k nx i).bind fun t => dom_over.l2 k (l4.length : Int) nx r (out.set i.toNat (List.replicate l4.length false)) i t (l4.length : Int) i (l4.length : Int) 0 else dom_over.l1 k (l4.length : Int) nx r (out.set i.toNat (List.replicate l4.length false)) (l4.length : Int) (i + 1) := fun k => by
      simp only [dom_over.l1]
      rw [if_pos i1, if_pos (by omega), if_pos (by omega), if_pos i0, if_pos hil]
      simp only [Option.bind_some, Int.toNat_natCast]
      rw [if_pos (by omega), wrap_in (by omega) (by omega)]
    by_cases hri : rdOf false r i = true
    · obtain ⟨seen, w1, w2⟩ := without_ev h hnx i hpos
      have inner : ∀ j, 0 ≤ j → ∀ out' : List (List Bool), out'.length = l4.length → (∀ a : Int, 0 ≤ a → a ≠ i → rd_L9 out' a = rd_L9 out a) → (rd_L9 out' i).length = l4.length →
          (∀ b : Int, 0 ≤ b → b < j → b < (l4.length : Int) → rdOf false (rd_L9 out' i) b = (rdOf false r b && !rdOf false seen b)) →
          ∃ is, Ev (fun k => dom_over.l2 k (l4.length : Int) nx r out' i seen (l4.length : Int) i (l4.length : Int) j) is ∧ OverIs l4 is := by
        refine up_to (l4.length : Int) _ ?_ ?_
        · intro j hj out' q1 q2 q3 q4
          obtain ⟨is, k1, k2⟩ := oA out' q1 q2 ⟨q3, fun b b0 b1 => by
            rw [q4 b b0 (by omega) b1]
            have s1 := sees b b0 b1
            have s2 := sees i i0 i1
            have s3 := w2.2 b b0 b1
            unfold Ov
            rw [Bool.and_eq_true, Bool.not_eq_true', s1, ← Bool.not_eq_true, s3]
            constructor
            · rintro ⟨x, y⟩; exact ⟨s2.1 hri, x, fun z => y ⟨by omega, by omega, z⟩⟩
            · rintro ⟨_, x, y⟩; exact ⟨x, fun z => y z.2.2⟩⟩
          exact ⟨is, Ev.step (fun k => by simp only [dom_over.l2]; rw [if_neg (by omega), wrap_in (by omega) (by omega)]) k1, k2⟩
        · intro j j0 j1 ihj out' q1 q2 q3 q4
          have hil' : i < (out'.length : Int) := by omega
          have hjl : j < ((rd_L9 out' i).length : Int) := by omega
          have upd : ∀ x : Bool, x = (rdOf false r j && !rdOf false seen j) → ∃ is, Ev (fun k => dom_over.l2 k (l4.length : Int) nx r (out'.set i.toNat ((rd_L9 out' i).set j.toNat x)) i seen (l4.length : Int) i (l4.length : Int) (j + 1)) is ∧ OverIs l4 is := fun x hx => by
            have er : rd_L9 (out'.set i.toNat ((rd_L9 out' i).set j.toNat x)) i = (rd_L9 out' i).set j.toNat x := by rw [rdL9_set i0 hil' i0, if_pos rfl]
            refine ihj _ (by simpa using q1) (fun a x0 x1 => by rw [rdL9_set i0 hil' x0, if_neg (fun e => x1 e.symm)]; exact q2 a x0 x1) (by rw [er]; simpa using q3) (fun b b0 b1 b2 => ?_)
            rw [er, rdb_set j0 hjl b0]
            by_cases e : j = b
            · subst e; rw [if_pos rfl]; exact hx
            · rw [if_neg e]; exact q4 b b0 (by omega) b2
          by_cases hrj : rdOf false r j = true
          · obtain ⟨is, k1, k2⟩ := upd (!rdOf false seen j) (by rw [hrj]; simp)
            exact ⟨is, Ev.step (fun k => by simp only [dom_over.l2]; rw [if_pos j1, if_pos i0, if_pos hil', if_pos j0, if_pos (by omega), if_pos hrj, if_pos (by have := w2.1; omega), if_pos hjl, wrap_in (by omega) (by omega)]) k1, k2⟩
          · obtain ⟨is, k1, k2⟩ := upd false (by simp at hrj; rw [hrj]; simp)
            exact ⟨is, Ev.step (fun k => by simp only [dom_over.l2]; rw [if_pos j1, if_pos i0, if_pos hil', if_pos j0, if_pos (by omega), if_neg hrj, if_pos hjl, wrap_in (by omega) (by omega)]) k1, k2⟩
      obtain ⟨is, k1, k2⟩ := inner 0 (by omega) (out.set i.toNat (List.replicate l4.length false)) ol (fun a x y => by rw [rdL9_set i0 hil x, if_neg (fun e => y e.symm)]) (by rw [rdL9_set i0 hil i0, if_pos rfl]; simp) (fun b b0 b1 => by omega)
      exact ⟨is, Ev.step (fun k => by rw [base, if_pos hri]) (Ev.bind w1 k1), k2⟩
    · obtain ⟨is, k1, k2⟩ := oA (out.set i.toNat (List.replicate l4.length false)) ol (fun a x y => by rw [rdL9_set i0 hil x, if_neg (fun e => y e.symm)]) (by
        rw [rdL9_set i0 hil i0, if_pos rfl]
        refine ⟨by simp, fun b b0 b1 => ?_⟩
        rw [rdb_replicate]
        constructor
        · intro e; cases e
        · intro e; exact absurd ((sees i i0 i1).2 e.1) hri)
      exact ⟨is, Ev.step (fun k => by rw [base, if_neg hri]) k1, k2⟩
theorem over_ev (h : IntoOk l4) (hpos : 0 < l4.length) : ∃ is, Ev (fun k => dom_over.f k a0 a1 l2 a3 l4) is ∧ OverIs l4 is := by
  have hn := h.1
  obtain ⟨r, q1, q2⟩ := flow_reach_ev (a0 := a0) (a1 := a1) (l2 := l2) (a3 := a3) h
  have key : ∀ i, 0 ≤ i → ∀ nx : List (List Int), nx.length = l4.length → (∀ b : Int, 0 ≤ b → b < i → b < (l4.length : Int) → rd_L1 nx b = nextOf l4 b) → ∃ is, Ev (fun k => dom_over.l0 k (l4.length : Int) nx (l4.length : Int) i a0 a1 l2 a3 l4) is ∧ OverIs l4 is := by
    refine up_to (l4.length : Int) _ ?_ ?_
    · intro i hi nx hl hA
      obtain ⟨is, k1, k2⟩ := over_l1 h ⟨hl, fun b x y => hA b x (by omega) y⟩ q2 hpos 0 (by omega) (List.replicate l4.length []) (by simp) (fun a x y => by omega)
      refine ⟨is, Ev.step (fun k => by simp only [dom_over.l0]; rw [if_neg (by omega)]) (Ev.bind q1 (Ev.congr (fun k => ?_) k1)), k2⟩
      rw [if_pos (by omega), if_pos (by omega)]
      simp only [Int.toNat_natCast]
    · intro i i0 i1 ih nx hl hA
      have hil : i < (nx.length : Int) := by omega
      obtain ⟨is, k1, k2⟩ := ih (nx.set i.toNat (nextOf l4 i)) (by simpa using hl) (fun b x y z => by
        rw [rdL_set i0 hil x]
        by_cases e : i = b
        · subst e; rw [if_pos rfl]
        · rw [if_neg e]; exact hA b x (by omega) z)
      exact ⟨is, Ev.step (fun k => by simp only [dom_over.l0]; rw [if_pos i1]) (Ev.bind (next_ev h i) (Ev.congr (fun k => by rw [if_pos i0, if_pos hil, wrap_in (by omega) (by omega)]) k1)), k2⟩
  obtain ⟨is, k1, k2⟩ := key 0 (by omega) (List.replicate l4.length []) (by simp) (fun b x y => by omega)
  refine ⟨is, Ev.congr (fun k => ?_) k1, k2⟩
  unfold dom_over.f
  rw [if_pos (by omega), if_pos (by omega)]
  simp only [Int.toNat_natCast]
end
end Go.Proofs.Ytkcimaibaicdcaa.Gr
end
section
namespace Go.Proofs.Ytkcimaibaicdcaa.Pure
open Go.RowKit Go.Proofs.Ytkcimaibaicdcaa.P Go.Proofs.YtkcimaibaicdcaaW.PrintWords Go.Proofs.YtkcimaibaicdcaaW.PrintLast Go.Proofs.Ytkcimaibaicdcaa.Gr
theorem and65535 (n : Int) : 0 ≤ Go.bits .and .i64 n 65535 := by
  have h : (BitVec.ofInt 64 65535).toNat = 2 ^ 16 - 1 := by decide
  have key : (BitVec.ofInt 64 n &&& BitVec.ofInt 64 65535).toNat = (n % ((2 ^ 64 : Nat) : Int)).toNat % 2 ^ 16 := by
    rw [BitVec.toNat_and, BitVec.toNat_ofInt, h, Nat.and_two_pow_sub_one_eq_mod]
  have e : Go.bits .and .i64 n 65535 = n % 65536 := by
    show IntKind.i64.wrap ((BitVec.ofInt 64 n &&& BitVec.ofInt 64 65535).toNat : Nat) = n % 65536
    rw [key, IntKind.wrap_i64]
    omega
  omega
section
variable {a0 : ByteArray} {a1 : Bool} {l2 : List Int} {a3 : Int} {l4 : List S54}
theorem dom_ev (h : IntoOk l4) {a b : Int} (x0 : 0 ≤ a) (x1 : a < (l4.length : Int)) (y0 : 0 ≤ b) (y1 : b < (l4.length : Int)) : ∃ t, Ev (fun k => dom_Dom.f k a0 a1 l2 a3 l4 a b) t ∧ (t = true ↔ Ov l4 a b) := by
  obtain ⟨is, k1, k2⟩ := over_ev (a0 := a0) (a1 := a1) (l2 := l2) (a3 := a3) h (by omega)
  have hl := k2.1
  obtain ⟨r1, r2⟩ := k2.2 a x0 x1
  refine ⟨rdOf false (rd_L9 is a) b, ?_, r2 b y0 y1⟩
  refine Ev.congr (fun k => by unfold dom_Dom.f; rw [if_neg (by omega), if_neg (by omega), if_neg (by omega), if_neg (by omega)]) (Ev.bind k1 ?_)
  exact Ev.congr (fun k => by rw [if_pos x0, if_pos (by omega), if_pos y0, if_pos (by omega)]) (Ev.now _)
theorem first5_ev : Ev (fun k => plnlaw5_first.f k) true := Ev.of (k := 60) (fun k => plnlaw5_first.mono k) (by decide +kernel)
structure Way (l4 : List S54) (been : List Bool) (at_ : Int) : Prop where
  len : been.length = l4.length
  lo : 0 ≤ at_
  hi : at_ < (l4.length : Int)
  met : Rc (nextOf l4) (fun _ => True) 0 at_
  way : ∀ a : Int, 0 ≤ a → a < (l4.length : Int) → rdOf false been a = false → Rc (nextOf l4) (· ≠ a) 0 at_
theorem ways_l1 (h : IntoOk l4) (steps : List Int) (hs : steps.length ≤ 40) (i : Int) {been : List Bool} {at_ : Int} (hW : Way l4 been at_)
    (hrest : Ev (fun k => plnlaw5_DomWays.j3 k steps been at_ i false a0 a1 l2 a3 l4) true) :
    ∀ j, 0 ≤ j → Ev (fun k => plnlaw5_DomWays.l1 k steps been at_ i j a0 a1 l2 a3 l4) true := by
  have hn := h.1
  have hl := hW.len
  have lo := hW.lo
  have hi := hW.hi
  refine up_to (l4.length : Int) _ ?_ ?_
  · intro j hj
    obtain ⟨t1, u1, v1⟩ := dom_ev (a0 := a0) (a1 := a1) (l2 := l2) (a3 := a3) h lo hi lo hi
    obtain ⟨t2, u2, v2⟩ := dom_ev (a0 := a0) (a1 := a1) (l2 := l2) (a3 := a3) (a := 0) h (by omega) (by omega) lo hi
    have e1 : t1 = true := v1.2 ⟨hW.met, hW.met, fun x => x.right rfl⟩
    have e2 : t2 = true := v2.2 ⟨.refl trivial, hW.met, fun x => x.left rfl⟩
    subst e1 e2
    refine Ev.step (fun k => by simp only [plnlaw5_DomWays.l1]; rw [if_neg (by omega)]) (Ev.bind u1 ?_)
    simp only [if_true]
    exact Ev.bind u2 hrest
  · intro j j0 j1 ih
    obtain ⟨t, u, v⟩ := dom_ev (a0 := a0) (a1 := a1) (l2 := l2) (a3 := a3) h j0 j1 lo hi
    refine Ev.step (fun k => by simp only [plnlaw5_DomWays.l1]; rw [if_pos (by omega)]) (Ev.bind u ?_)
    cases t with
    | false =>
      simp only [Bool.false_eq_true, if_false]
      rw [wrap_in (by omega) (by omega)]
      exact ih
    | true =>
      have hb : rdOf false been j = true := by
        by_cases e : rdOf false been j = true
        · exact e
        · exact absurd (hW.way j j0 j1 (by simpa using e)) (v.1 rfl).2.2
      simp only [if_true]
      refine Ev.congr (fun k => by rw [if_pos j0, if_pos hb, wrap_in (by omega) (by omega)]) ih
theorem ways_steps (h : IntoOk l4) (steps : List Int) (hs : steps.length ≤ 40) : ∀ i, 0 ≤ i → ∀ been at_, Way l4 been at_ → Ev (fun k => plnlaw5_DomWays.l0 k steps been at_ i a0 a1 l2 a3 l4) true := by
  have hn := h.1
  refine up_to ((steps.length : Int) + 1) _ ?_ ?_
  · intro i hi been at_ hW
    exact Ev.step (fun k => by simp only [plnlaw5_DomWays.l0]; rw [if_neg (by omega)]) (Ev.now _)
  · intro i i0 i1 ih been at_ hW
    refine Ev.step (fun k => by simp only [plnlaw5_DomWays.l0]; rw [if_pos (by omega)]) ?_
    refine ways_l1 h steps hs i hW ?_ 0 (by omega)
    refine Ev.step (fun k => by simp only [plnlaw5_DomWays.j3]; rw [if_neg (by decide)]) (Ev.bind (rnext_ev h at_) ?_)
    by_cases hz : ((nextOf l4 at_).length : Int) = 0
    · exact Ev.congr (fun k => by rw [if_pos hz]) (Ev.now _)
    · by_cases hi : i = (steps.length : Int)
      · exact Ev.congr (fun k => by rw [if_neg hz, if_pos hi]) (Ev.now _)
      · obtain ⟨q, eq⟩ : ∃ q, q = Int.tmod (Go.bits .and .i64 (rd steps i) 65535) ((nextOf l4 at_).length : Int) := ⟨_, rfl⟩
        have q0 : 0 ≤ q := by rw [eq]; exact Int.tmod_nonneg _ (and65535 _)
        have q1 : q < ((nextOf l4 at_).length : Int) := by rw [eq]; exact Int.tmod_lt_of_pos _ (by omega)
        obtain ⟨v0, v1⟩ := next_in (rd_mem q0 q1)
        have hl := hW.len
        have hlt : rd (nextOf l4 at_) q < (been.length : Int) := by omega
        rw [← eq]
        refine Ev.congr (fun k => by rw [if_neg hz, if_neg hi, if_pos i0, if_pos (by omega), if_pos q0, if_pos q1, if_pos v0, if_pos hlt, wrap_in (by omega) (by omega)]) (ih _ _ ?_)
        refine ⟨by simpa using hl, v0, v1, .step hW.met (rd_mem q0 q1) trivial, fun a x0 x1 hx => ?_⟩
        rw [rdb_set v0 hlt x0] at hx
        by_cases e : rd (nextOf l4 at_) q = a
        · rw [if_pos e] at hx; cases hx
        · rw [if_neg e] at hx
          exact .step (hW.way a x0 x1 hx) (rd_mem q0 q1) e
end
theorem DomWays : plnlaw5_DomWays.Pure := by
  intro a0 a1 l2 a3 l4 steps hB _
  have h := intoOk_of hB
  have hn := h.1
  obtain ⟨t, ht, _⟩ := light_ev (a0 := a0) (a1 := a1) (l2 := l2) (a3 := a3) h
  have away : Ev (fun k => plnlaw5_DomWays.j0 k steps true a0 a1 l2 a3 l4) true := Ev.step (fun k => by simp only [plnlaw5_DomWays.j0]; rw [if_pos trivial]) (Ev.bind first5_ev (Ev.now _))
  refine Ev.rounds (Ev.congr (fun k => by unfold plnlaw5_DomWays.f; rfl) (Ev.bind first5_ev (Ev.bind ht ?_)))
  cases t with
  | false => exact away
  | true =>
    simp only [if_true]
    by_cases hz : (l4.length : Int) = 0
    · exact Ev.congr (fun k => by rw [if_pos hz]) away
    · refine Ev.congr (fun k => by rw [if_neg hz]) ?_
      by_cases hs : (steps.length : Int) > 40
      · rw [decide_eq_true hs]; exact away
      · rw [decide_eq_false hs]
        have hlt : (0 : Int) < ((List.replicate l4.length false).length : Int) := by simp; omega
        have e : ∀ k, plnlaw5_DomWays.j0 (k + 1) steps false a0 a1 l2 a3 l4 = plnlaw5_DomWays.l0 k steps ((List.replicate l4.length false).set (0 : Int).toNat true) 0 0 a0 a1 l2 a3 l4 := fun k => by
          simp only [plnlaw5_DomWays.j0]
          rw [if_neg (by decide), if_pos (by omega), if_pos (by omega)]
          simp only [Option.bind_some, Int.toNat_natCast]
          rw [if_pos hlt]
        refine Ev.step e (ways_steps h steps (by omega) 0 (by omega) _ _ ⟨by simp, by omega, by omega, .refl trivial, fun a x0 x1 hx => ?_⟩)
        rw [rdb_set (by omega) hlt x0] at hx
        by_cases ea : (0 : Int) = a
        · rw [if_pos ea] at hx; cases hx
        · exact .refl ea
end Go.Proofs.Ytkcimaibaicdcaa.Pure
end
