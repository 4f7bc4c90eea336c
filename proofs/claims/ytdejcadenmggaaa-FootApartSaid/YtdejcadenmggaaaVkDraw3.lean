/- The V machine: a region whose order is drawn: all of it. -/
import Derived.Test.YtdejcadenmggaaaVkDraw2
namespace Go.V
section
variable {P : Program} {md : FuncId → Mode} {N : Nat} {C : CallF}

def offs (n : Nat) (L : Array Bool) : Nat := (List.range n).countP (fun i => !L.getD i false)

theorem offs_set {n : Nat} {L : Array Bool} {i : Nat} (hi : i < n) (hL : i < L.size) (hoff : ¬ On L i) : offs n (L.setIfInBounds i true) + 1 = offs n L := by
  have h0 : L.getD i false = false := by unfold On at hoff; simpa using hoff
  have key : ∀ l : List Nat, l.Nodup → (l.countP (fun j => !(L.setIfInBounds i true).getD j false)) + (if i ∈ l then 1 else 0) = l.countP (fun j => !L.getD j false) := by
    intro l
    induction l with
    | nil => intro _; simp
    | cons x l ih =>
      intro hn
      rw [List.nodup_cons] at hn
      have := ih hn.2
      rw [List.countP_cons, List.countP_cons]
      by_cases e : x = i
      · subst e
        have hx : (L.setIfInBounds x true).getD x false = true := (on_set hL).2 (.inl rfl)
        rw [hx, h0]
        simp [hn.1] at this ⊢
        omega
      · have hx : (L.setIfInBounds i true).getD x false = L.getD x false := by
          simp only [Array.getD_eq_getD_getElem?]
          rw [Array.getElem?_setIfInBounds_ne (fun h => e h.symm)]
        rw [hx]
        have hm : (i ∈ x :: l) ↔ i ∈ l := by
          simp only [List.mem_cons]
          exact ⟨fun h => h.resolve_left (fun q => e q.symm), .inr⟩
        simp only [hm]
        omega
  have := key (List.range n) List.nodup_range
  simp only [List.mem_range, hi, if_true] at this
  exact this

theorem offs_zero {n : Nat} {L : Array Bool} (h : offs n L = 0) : ∀ i, i < n → On L i := by
  intro i hi
  unfold offs at h
  rw [List.countP_eq_zero] at h
  have := h i (List.mem_range.2 hi)
  simpa [On] using this

theorem ready_all {ops : Array Oper} {L : Array Bool} (hsz : L.size = ops.size) (hback : edgesBack ops.toList 0 = true) (h : Region.ready .any ops L = []) : ∀ i, i < ops.size → On L i := by
  intro i
  induction i using Nat.strongRecOn with
  | _ i ih =>
    intro hi
    apply Classical.byContradiction
    intro hoff
    have hmem : i ∈ Region.ready .any ops L := by
      unfold Region.ready
      rw [List.mem_filter]
      refine ⟨List.mem_range.2 hi, ?_⟩
      have h0 : L.getD i true = false := by
        unfold On at hoff
        simp only [Array.getD_eq_getD_getElem?] at hoff ⊢
        have : i < L.size := by omega
        simp [this] at hoff ⊢
        exact hoff
      rw [h0]
      have ho : ops[i]? = some ops[i] := by simp [hi]
      simp only [Bool.not_false, Bool.true_and, ho, Option.map_some, Option.getD_some]
      rw [← Array.all_toList, List.all_eq_true]
      intro e he
      by_cases hb : Region.binds .any e = true
      · have hlt := edgesBack_get hback i ops[i] (by simp [hi]) e he hb
        have := ih e.on (by omega) (by omega)
        unfold On at this
        simp [this]
      · simp at hb
        simp [hb]
    rw [h] at hmem
    simp at hmem

theorem draw_any {Q : Exit → Act → World → Prop} (hC : CallSound P C) {ops : Array Oper} {pairs : List (Nat × Nat)} {env0 envF : Env} {s0 sF : Store} {rs : List Rec} (htr : TraceOk C env0 s0 rs envF sF)
    (hst : rs.Pairwise (Still pairs)) (hpo : rs.Pairwise fun x y => pairOk (masks ops.toList []) pairs (x.i, x.o) (y.i, y.o) = true) (hnd : (rs.map (·.i)).Nodup) (hback : edgesBack ops.toList 0 = true)
    (hcomp : ∀ r ∈ rs, ∃ o, ops[r.i]? = some o ∧ compOper P md N ops o = some r.o) (hcov : ∀ i, i < ops.size → ∃ r ∈ rs, r.i = i) {μ0 : Mu} {Φ0 : Phi} {w0 : World}
    (hQ : Leaves' N μ0 Φ0 s0 w0 envF sF (fun a w => Q .normal a w)) : ∀ (fuel : Nat) (L : Array Bool) (a : Act) (w : World) (μ : Mu) (Φ : Phi), L.size = ops.size → Shut ops L → offs ops.size L = fuel →
    Inv N μ0 Φ0 w0 env0 s0 sF rs L a w μ Φ → wpAny P .any ops Q fuel L a w := by
  have hend : ∀ (L : Array Bool) (a : Act) (w : World) (μ : Mu) (Φ : Phi), (∀ i, i < ops.size → On L i) → Inv N μ0 Φ0 w0 env0 s0 sF rs L a w μ Φ → Q .normal a w := by
    intro L a w μ Φ hon hI
    have hon' : ∀ q ∈ rs, On L q.i := fun q hq => by
      obtain ⟨o, ho, _⟩ := hcomp q hq
      exact hon q.i (Array.getElem?_eq_some_iff.1 ho).1
    have hS : curS s0 rs L = sF.get := funext fun id => cur_all (chainS id htr) hon'
    have hE : ∀ t, curE env0 rs L t = envF.get t := fun t => cur_all (chainE t htr) hon'
    have h1 := hI.sim
    have h2 := hI.evo
    rw [hS] at h1 h2
    exact hQ a w μ Φ ⟨fun t => by rw [← hE t]; exact hI.env t, hI.size, hI.defers⟩ h1 h2
  intro fuel
  induction fuel with
  | zero =>
    intro L a w μ Φ hsz hsh hcnt hI
    have hon := offs_zero hcnt
    refine ⟨?_, hend L a w μ Φ hon hI⟩
    unfold Region.ready
    rw [List.filter_eq_nil_iff]
    intro i hi
    have := hon i (List.mem_range.1 hi)
    have hlt : i < L.size := by rw [hsz]; exact List.mem_range.1 hi
    unfold On at this
    simp only [Array.getD_eq_getD_getElem?] at this ⊢
    simp [hlt] at this ⊢
    simp [this]
  | succ fuel ih =>
    intro L a w μ Φ hsz hsh hcnt hI
    refine ⟨fun hr => hend L a w μ Φ (ready_all hsz hback hr) hI, ?_⟩
    intro i hi
    unfold Region.ready at hi
    rw [List.mem_filter] at hi
    obtain ⟨hi1, hi2⟩ := hi
    have hlt := List.mem_range.1 hi1
    simp only [Bool.and_eq_true] at hi2
    have hoff : ¬ On L i := by
      unfold On
      have h3 := hi2.1
      have : i < L.size := by omega
      simp only [Array.getD_eq_getD_getElem?] at h3 ⊢
      simp [this] at h3 ⊢
      exact h3
    have hready : ∀ o, ops[i]? = some o → ∀ e ∈ o.after.toList, Region.binds .any e = true → On L e.on := by
      intro o ho e he hb
      have h3 := hi2.2
      rw [ho] at h3
      simp only [Option.map_some, Option.getD_some] at h3
      rw [← Array.all_toList, List.all_eq_true] at h3
      have := h3 e he
      simp [hb] at this
      unfold On
      simpa using this
    obtain ⟨r, hr, rfl⟩ := hcov i hlt
    refine wpOp_mono ?_ (draw_step (Q := Q) hC htr hst hpo hnd hback hcomp hI hsh hsz hr hoff hready)
    rintro a' w' ⟨μ', Φ', hI'⟩
    refine ih _ _ _ μ' Φ' (by simpa using hsz) ?_ ?_ hI'
    · intro j o ho hj e he hb
      rw [on_set (by omega)] at hj ⊢
      right
      rcases hj with rfl | hj
      · exact hready o ho e he hb
      · exact hsh j o ho hj e he hb
    · have := offs_set (n := ops.size) hlt (by omega) hoff
      omega

theorem draw_wp {Q : Exit → Act → World → Prop} (hC : CallSound P C) (hmix : P.follows .mixedOrders = true) {ops : Array Oper} {l : List (Nat × VOper)} {pairs : List (Nat × Nat)} (hok : regionOk ops l pairs = true)
    (hcomp : ∀ x ∈ l, ∃ o, ops[x.1]? = some o ∧ compOper P md N ops o = some x.2) {env env' : Env} {s s' : Store} (hrun : runOps C pairs l [] env s = some (env', s'))
    {μ : Mu} {Φ : Phi} {a : Act} {w : World} (hf : FrR N μ Φ env a) (hs : Sim μ Φ s.get w) (hfr : Fresh μ s.next s'.next) (hQ : Leaves' N μ Φ s w env' s' (fun a w => Q .normal a w)) (id : Nat) :
    (Code.region id ops true).wp P Q a w := by
  simp only [regionOk, Bool.and_eq_true, decide_eq_true_eq, List.all_eq_true] at hok
  obtain ⟨⟨⟨⟨⟨h1, h2⟩, h3⟩, h4⟩, h5⟩, h6⟩ := hok
  have htrace : ∃ rs : List Rec, rs.map (fun r => (r.i, r.o)) = l ∧ TraceOk C env s rs env' s' ∧ rs.Pairwise (Still pairs) := by
    cases hp : pairs.isEmpty with
    | true => exact trace_of_empty hp hrun
    | false =>
      obtain ⟨rs, g1, g2, g3, _⟩ := trace_of hp hrun
      exact ⟨rs, g1, g2, g3⟩
  obtain ⟨rs, g1, g2, g3⟩ := htrace
  have hpo : rs.Pairwise fun x y => pairOk (masks ops.toList []) pairs (x.i, x.o) (y.i, y.o) = true := by
    have := allPairs_pw h6
    rw [← g1, List.pairwise_map] at this
    exact this
  have hmap : l.map (·.1) = rs.map (·.i) := by rw [← g1]; simp
  have hnd : (rs.map (·.i)).Nodup := by rw [← hmap]; exact h1
  have hcomp' : ∀ r ∈ rs, ∃ o, ops[r.i]? = some o ∧ compOper P md N ops o = some r.o := by
    intro r hr
    exact hcomp (r.i, r.o) (by rw [← g1]; exact List.mem_map_of_mem hr)
  have hcov : ∀ i, i < ops.size → ∃ r ∈ rs, r.i = i := by
    intro i hi
    have := h5 i (List.mem_range.2 hi)
    rw [hmap] at this
    simp only [List.contains_iff_mem, List.mem_map] at this
    exact this
  refine wp_region_any hmix ?_
  have hoffAll : ∀ i, ¬ On (Array.replicate ops.size false) i := by
    intro i h
    unfold On at h
    simp only [Array.getD_eq_getD_getElem?] at h
    by_cases hi : i < ops.size
    · simp [hi] at h
    · have : (Array.replicate ops.size false)[i]? = none := by simp; omega
      simp [this] at h
  have hQ' : Leaves' N μ Φ s { w with drawn := w.drawn + 1 } env' s' (fun a w => Q .normal a w) := by
    intro a' w' μ' Φ' q1 q2 q3
    refine hQ a' w' μ' Φ' q1 q2 ?_
    exact ⟨q3.mu, q3.muOut, q3.phi, q3.os, q3.tape, q3.output, q3.size, q3.keep, q3.phiNew, q3.ownNew⟩
  refine draw_any hC g2 g3 hpo hnd h4 hcomp' hcov hQ' ops.size _ a _ μ Φ (by simp) ?_ ?_ ?_
  · intro j o _ hj
    exact absurd hj (hoffAll j)
  · unfold offs
    rw [List.countP_eq_length.2]
    · simp
    · intro i _
      have := hoffAll i
      unfold On at this
      simpa using this
  · have hE : ∀ t, curE env rs (Array.replicate ops.size false) t = env.get t := fun t => cur_none _ fun q _ => hoffAll q.i
    have hS : curS s rs (Array.replicate ops.size false) = s.get := funext fun id => cur_none _ fun q _ => hoffAll q.i
    have hn := trace_next hC g2
    refine ⟨fun t => by rw [hE]; exact hf.env t, hf.size, hf.defers, by rw [hS]; exact hs.drew _, ?_, ?_⟩
    · rw [hS]
      exact (Evo.refl μ Φ s.get { w with drawn := w.drawn + 1 } s.next).widen (Nat.le_refl _) hn.1
    · intro r hr _ id q1 q2
      have := hn.2 r hr
      exact hfr id (by omega) (by omega)
end
end Go.V
