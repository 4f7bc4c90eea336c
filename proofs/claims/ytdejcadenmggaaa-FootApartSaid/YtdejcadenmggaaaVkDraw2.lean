/- The V machine: a region whose order is drawn: the theorem. -/
import Derived.Test.YtdejcadenmggaaaVkDraw
namespace Go.V

theorem Evo.trans_same {μ μ1 μ2 : Mu} {Φ Φ1 Φ2 : Phi} {g g1 g2 : Look} {w w1 w2 : World} {n0 n1 : Nat}
    (h : Evo μ Φ g w μ1 Φ1 g1 w1 n0 n1) (k : Evo μ1 Φ1 g1 w1 μ2 Φ2 g2 w2 n0 n1) : Evo μ Φ g w μ2 Φ2 g2 w2 n0 n1 where
  mu := Mu.le_trans h.mu k.mu
  muOut id hid := by rw [k.muOut id hid, h.muOut id hid]
  phi := Phi.le_trans h.phi k.phi
  os := k.os.trans h.os
  tape := k.tape.trans h.tape
  output := k.output.trans h.output
  size := Nat.le_trans h.size k.size
  keep b hb hn := by
    rw [k.keep b (Nat.lt_of_lt_of_le hb h.size) (fun ho => by rcases h.ownNew b ho with h1 | h1; exact hn h1; omega), h.keep b hb hn]
  phiNew b ob hb := by
    rcases k.phiNew b ob hb with h1 | h1
    · exact h.phiNew b ob h1
    · exact .inr (Nat.le_trans h.size h1)
  ownNew b hb := by
    rcases k.ownNew b hb with h1 | h1
    · exact h.ownNew b h1
    · exact .inr (Nat.le_trans h.size h1)

/-- Objects beside those that a call knows. -/
theorem Sim.join {μ μ' : Mu} {Φ Φ' : Phi} {g g1 g2 G : Look} {w w' : World} {n0 n1 : Nat} (h1 : Sim μ Φ g w) (h2 : Sim μ' Φ' g2 w') (hsub : ∀ id ob, g1 id = some ob → g id = some ob) (he : Evo μ Φ g1 w μ' Φ' g2 w' n0 n1)
    (hG : ∀ id ob, G id = some ob → g2 id = some ob ∨ (g id = some ob ∧ g1 id = none)) : Sim μ' Φ' G w' ∧ Evo μ Φ g w μ' Φ' G w' n0 n1 := by
  have hne : ∀ id, g1 id ≠ none → g id ≠ none := by
    intro id h3 h4
    cases hx : g1 id with
    | none => exact h3 hx
    | some ob => rw [hsub id ob hx] at h4; cases h4
  have ext : ∀ id ob, g id = some ob → g1 id = none → ∃ b o z, μ id = some (b, o, z) ∧ ObjAt μ Φ w b o z ob ∧ Φ b = none ∧ ¬ Owned μ g1 b ∧ b < w.heap.size := by
    intro id ob hg hg1
    obtain ⟨b, o, z, e1, e2, e3⟩ := h1.obj id ob hg
    refine ⟨b, o, z, e1, e2, e3, ?_, e2.lt⟩
    rintro ⟨id1, o1, z1, q1, q2⟩
    have := h1.inj id1 id _ _ _ _ _ (hne id1 q1) (by rw [hg]; simp) q2 e1
    subst this
    exact q1 hg1
  have cls : ∀ id, G id ≠ none → (g2 id ≠ none) ∨ (∃ ob, g id = some ob ∧ g1 id = none) := by
    intro id hid
    cases hx : G id with
    | none => exact absurd hx hid
    | some ob =>
      rcases hG id ob hx with h | h
      · exact .inl (by rw [h]; simp)
      · exact .inr ⟨ob, h⟩
  refine ⟨⟨h2.phi, ?_, ?_⟩, ⟨he.mu, he.muOut, he.phi, he.os, he.tape, he.output, he.size, ?_, he.phiNew, ?_⟩⟩
  · intro id ob hx
    rcases hG id ob hx with h | ⟨h, hn⟩
    · exact h2.obj id ob h
    · obtain ⟨b, o, z, e1, e2, e3, e4, e5⟩ := ext id ob h hn
      refine ⟨b, o, z, he.mu _ _ e1, ObjAt_world (he.keep b e5 e4) (ObjAt_mono he.mu he.phi e2), ?_⟩
      cases hp : Φ' b with
      | none => rfl
      | some ob' =>
        rcases he.phiNew b ob' hp with q | q
        · rw [e3] at q; cases q
        · omega
  · have mixed : ∀ i i' b o z o' z', g2 i ≠ none → (∃ ob, g i' = some ob ∧ g1 i' = none) → μ' i = some (b, o, z) → μ' i' = some (b, o', z') → False := by
      rintro i i' b o z o' z' q1 ⟨ob, q2, q3⟩ q4 q5
      obtain ⟨b2, o2, z2, e1, _, _, e4, e5⟩ := ext i' ob q2 q3
      have := he.mu _ _ e1
      rw [q5] at this
      cases this
      rcases he.ownNew b ⟨i, o, z, q1, q4⟩ with q | q
      · exact e4 q
      · omega
    intro i i' b o z o' z' q1 q2 q3 q4
    rcases cls i q1 with a1 | a1
    · rcases cls i' q2 with a2 | a2
      · exact h2.inj i i' _ _ _ _ _ a1 a2 q3 q4
      · exact (mixed i i' _ _ _ _ _ a1 a2 q3 q4).elim
    · rcases cls i' q2 with a2 | a2
      · exact (mixed i' i _ _ _ _ _ a2 a1 q4 q3).elim
      · obtain ⟨ob, a3, a4⟩ := a1
        obtain ⟨ob', a5, a6⟩ := a2
        obtain ⟨b1, o1, z1, e1, _⟩ := ext i ob a3 a4
        obtain ⟨b2, o2, z2, e2, _⟩ := ext i' ob' a5 a6
        have f1 := he.mu _ _ e1
        have f2 := he.mu _ _ e2
        rw [q3] at f1; rw [q4] at f2
        cases f1; cases f2
        exact h1.inj i i' _ _ _ _ _ (by rw [a3]; simp) (by rw [a5]; simp) e1 e2
  · intro b hb hn
    refine he.keep b hb ?_
    rintro ⟨id, o, z, q1, q2⟩
    exact hn ⟨id, o, z, hne id q1, q2⟩
  · rintro b ⟨id, o, z, q1, q2⟩
    rcases cls id q1 with a1 | ⟨ob, a1, a2⟩
    · rcases he.ownNew b ⟨id, o, z, a1, q2⟩ with ⟨i1, o1, z1, c1, c2⟩ | q
      · exact .inl ⟨i1, o1, z1, hne i1 c1, c2⟩
      · exact .inr q
    · obtain ⟨b1, o1, z1, e1, _⟩ := ext id ob a1 a2
      have f1 := he.mu _ _ e1
      rw [q2] at f1
      cases f1
      exact .inl ⟨id, o, z, by rw [a1]; simp, e1⟩

def preE (t : Nat) (r : Rec) : D := r.env.get t
def postE (t : Nat) (r : Rec) : D := (r.env.put r.o.dst r.d).get t
def preS (id : Nat) (r : Rec) : Option VObj := r.s.get id
def postS (id : Nat) (r : Rec) : Option VObj := r.s'.get id

theorem chainE {C : CallF} (t : Nat) : ∀ {rs : List Rec} {env env' : Env} {s s' : Store}, TraceOk C env s rs env' s' → ChainV (preE t) (postE t) (env.get t) rs (env'.get t)
  | [], env, env', s, s', h => by simp only [TraceOk] at h; simp only [ChainV, h.1]
  | r :: rs, env, env', s, s', h => by
    simp only [TraceOk] at h
    simp only [ChainV]
    refine ⟨by simp only [preE, h.1], chainE t h.2.2.2⟩
theorem chainS {C : CallF} (id : Nat) : ∀ {rs : List Rec} {env env' : Env} {s s' : Store}, TraceOk C env s rs env' s' → ChainV (preS id) (postS id) (s.get id) rs (s'.get id)
  | [], env, env', s, s', h => by simp only [TraceOk] at h; simp only [ChainV, h.2]
  | r :: rs, env, env', s, s', h => by
    simp only [TraceOk] at h
    simp only [ChainV]
    refine ⟨by simp only [preS, h.2.1], chainS id h.2.2.2⟩

theorem postE_other {t : Nat} {r : Rec} (h : r.o.dst ≠ some t) : preE t r = postE t r := by
  unfold preE postE
  cases hd : r.o.dst with
  | none => rfl
  | some u =>
    have : ¬ u = t := fun e => h (by rw [hd, e])
    simp [Env.put, Env.get, this]
theorem postE_dst {t : Nat} {r : Rec} (h : r.o.dst = some t) : postE t r = r.d := by
  unfold postE
  rw [h]
  simp [Env.put, Env.get]

section
variable {P : Program} {md : FuncId → Mode} {N : Nat} {C : CallF}

theorem runOp_next (hC : CallSound P C) {env : Env} {s s' : Store} {d : D} {vo : VOp} (h1 : runOp C env s vo = some (d, s')) : s.next ≤ s'.next := by
  cases vo with
  | p po => simp only [runOp] at h1; obtain ⟨_, _, e⟩ := map_some h1; cases e; exact Nat.le_refl _
  | r po => simp only [runOp] at h1; obtain ⟨_, _, e⟩ := map_some h1; cases e; exact Nat.le_refl _
  | a ao => simp only [runOp] at h1; split at h1 <;> simp at h1; rw [← h1.2]; exact Nat.le_succ _
  | w n ad x => simp only [runOp] at h1; split at h1 <;> simp at h1; rw [← h1.2]; exact Nat.le_refl _
  | m mo =>
    simp only [runOp] at h1
    cases mo with
    | call md' f args =>
      simp only [evM] at h1
      generalize env.ev f = fd at h1
      cases fd <;> try (simp [callV] at h1; done)
      exact (callV_sound hC h1).1
    | append sz bytes sx x =>
      simp only [evM, appendV] at h1
      split at h1
      · split at h1
        · split at h1
          · split at h1
            · cases h1; exact Nat.le_refl _
            · split at h1
              · cases h1; exact Nat.le_succ _
              · simp at h1
          · split at h1
            · split at h1
              · split at h1
                · cases h1; exact Nat.le_refl _
                · split at h1
                  · cases h1; exact Nat.le_succ _
                  · simp at h1
              · simp at h1
            · simp at h1
          · split at h1
            · cases h1; exact Nat.le_refl _
            · simp at h1
          · simp at h1
        · simp at h1
      · simp at h1
    | mapset ks m k v =>
      simp only [evM] at h1
      split at h1
      · split at h1
        · split at h1
          · split at h1
            · obtain ⟨_, _, e⟩ := map_some h1; cases e; exact Nat.le_refl _
            · simp at h1
          · simp at h1
        · simp at h1
      · simp at h1

theorem rec_next (hC : CallSound P C) {r : Rec} (h : r.ok C) : r.s.next ≤ r.s'.next := by
  rcases h with ⟨_, _, h, _⟩ | ⟨_, h, _⟩
  · rw [h]; exact Nat.le_refl _
  · exact runOp_next hC h

theorem trace_next (hC : CallSound P C) : ∀ {rs : List Rec} {env env' : Env} {s s' : Store}, TraceOk C env s rs env' s' → s.next ≤ s'.next ∧ ∀ q ∈ rs, s.next ≤ q.s.next ∧ q.s'.next ≤ s'.next ∧ q.ok C
  | [], env, env', s, s', h => by simp only [TraceOk] at h; simp [h.2]
  | r :: rs, env, env', s, s', h => by
    simp only [TraceOk] at h
    obtain ⟨h1, h2, h3, h4⟩ := h
    obtain ⟨g1, g2⟩ := trace_next hC h4
    have g3 := rec_next hC h3
    rw [h2] at g3
    refine ⟨by omega, fun q hq => ?_⟩
    rcases List.mem_cons.1 hq with rfl | hq
    · exact ⟨by rw [h2]; exact Nat.le_refl _, g1, h3⟩
    · obtain ⟨q1, q2, q3⟩ := g2 q hq
      exact ⟨by omega, q2, q3⟩
theorem trace_split (hC : CallSound P C) {B : List Rec} {r : Rec} : ∀ {A : List Rec} {env env' : Env} {s s' : Store}, TraceOk C env s (A ++ r :: B) env' s' →
    r.ok C ∧ (∀ q ∈ A, q.s'.next ≤ r.s.next) ∧ (∀ q ∈ B, r.s'.next ≤ q.s.next)
  | [], env, env', s, s', h => by
    simp only [List.nil_append, TraceOk] at h
    exact ⟨h.2.2.1, by simp, fun q hq => ((trace_next hC h.2.2.2).2 q hq).1⟩
  | p :: A, env, env', s, s', h => by
    simp only [List.cons_append, TraceOk] at h
    obtain ⟨g1, g2, g3⟩ := trace_split hC h.2.2.2
    refine ⟨g1, fun q hq => ?_, g3⟩
    rcases List.mem_cons.1 hq with rfl | hq
    · exact ((trace_next hC h.2.2.2).2 r (by simp)).1
    · exact g2 q hq

/-! What each kind leaves alone. -/
theorem still_PR {r : Rec} (h : r.ok C) (hk : isP r.o.op = true ∨ isR r.o.op = true) : r.s' = r.s := by
  rcases h with ⟨_, _, h, _⟩ | ⟨_, h, _⟩
  · exact h
  · cases hop : r.o.op <;> rw [hop] at h hk <;> simp [isP, isR] at hk <;> simp only [runOp] at h
    · obtain ⟨_, _, e⟩ := map_some h; simp at e; exact e.2.symm
    · obtain ⟨_, _, e⟩ := map_some h; simp at e; exact e.2.symm
theorem still_A {r : Rec} (h : r.ok C) (hk : isA r.o.op = true) (id : Nat) (hid : id ≠ r.s.next) : r.s'.get id = r.s.get id := by
  rcases h with ⟨_, _, h, _⟩ | ⟨_, h, _⟩
  · rw [h]
  · cases hop : r.o.op <;> rw [hop] at h hk <;> simp [isA] at hk
    simp only [runOp] at h
    split at h
    · simp at h
      rw [← h.2, Store.get_push, if_neg hid]
    · simp at h
theorem still_W {r : Rec} (h : r.ok C) (hk : isW r.o.op = true) (id : Nat) (hid : r.rd ≠ some id) : r.s'.get id = r.s.get id := by
  rcases h with ⟨_, _, h, _⟩ | ⟨_, h, hrd⟩
  · rw [h]
  · cases hop : r.o.op <;> rw [hop] at h hk hrd <;> simp [isW] at hk
    rename_i n ad x
    simp only [runOp] at h
    split at h
    · rename_i id' ob hw
      simp at h
      rw [← h.2, Store.get_set]
      have : rdW r.env ad = some id' := by
        unfold evW at hw
        unfold rdW
        split at hw
        · rename_i i2 off hx
          split at hw
          · simp only at hw
            split at hw
            · simp at hw; rw [hw.1]
            · simp at hw
          · simp at hw
        · simp at hw
      have hne : id ≠ id' := by
        intro e
        subst e
        exact hid (by rw [hrd]; simp only [rdOf]; exact this)
      simp [hne]
    · simp at h

/-- Where some have been done: the environment and the objects. -/
noncomputable def curE (env0 : Env) (rs : List Rec) (L : Array Bool) (t : Nat) : D := cur (preE t) (postE t) L (env0.get t) rs
noncomputable def curS (s0 : Store) (rs : List Rec) (L : Array Bool) : Look := fun id => cur (preS id) (postS id) L (s0.get id) rs

structure Inv (N : Nat) (μ0 : Mu) (Φ0 : Phi) (w0 : World) (env0 : Env) (s0 sF : Store) (rs : List Rec) (L : Array Bool) (a : Act) (w : World) (μ : Mu) (Φ : Phi) : Prop where
  env : ∀ t, R μ Φ (curE env0 rs L t) (a.tmps.getD t undef)
  size : N ≤ a.tmps.size
  defers : a.defers = []
  sim : Sim μ Φ (curS s0 rs L) w
  evo : Evo μ0 Φ0 s0.get w0 μ Φ (curS s0 rs L) w s0.next sF.next
  fresh : ∀ r ∈ rs, ¬ On L r.i → Fresh μ r.s.next r.s'.next

theorem get_keep (env : Env) : ∀ (l : List Nat) (t : Nat), t ∈ l → (env.keep l).get t = env.get t
  | [], t, h => by simp at h
  | x :: l, t, h => by
    simp only [Env.keep, List.map_cons, Env.get]
    by_cases e : x = t
    · subst e; simp
    · rcases List.mem_cons.1 h with h | h
      · exact absurd h.symm e
      · simp only [e, if_false]; exact get_keep env l t h
theorem get_keep_not (env : Env) : ∀ (l : List Nat) (t : Nat), t ∉ l → (env.keep l).get t = .undef
  | [], t, _ => rfl
  | x :: l, t, h => by
    simp only [List.mem_cons, not_or] at h
    simp only [Env.keep, List.map_cons, Env.get]
    have : ¬ x = t := fun e => h.1 e.symm
    simp only [this, if_false]
    exact get_keep_not env l t h.2

theorem on_set {L : Array Bool} {i j : Nat} (h : i < L.size) : On (L.setIfInBounds i true) j ↔ (j = i ∨ On L j) := by
  unfold On
  simp only [Array.getD_eq_getD_getElem?]
  by_cases e : j = i
  · subst e; simp [h]
  · simp [e, Array.getElem?_setIfInBounds_ne (fun x => e x.symm)]

theorem allPairs_pw {f : Nat × VOper → Nat × VOper → Bool} : ∀ {l : List (Nat × VOper)}, allPairs f l = true → l.Pairwise (fun x y => f x y = true)
  | [], _ => .nil
  | x :: l, h => by
    simp only [allPairs, Bool.and_eq_true, List.all_eq_true] at h
    exact List.pairwise_cons.2 ⟨h.1, allPairs_pw h.2⟩

theorem apart_ne {d : Option Nat} {l : List Nat} (h : apartDst d l = true) {t : Nat} (ht : t ∈ l) : d ≠ some t := by
  intro e
  subst e
  simp [apartDst] at h
  exact h ht

theorem evR_some {env : Env} {g : Look} {ro : ROp} {d : D} (h : evR env g ro = some d) {id : Nat} (hr : rdR env ro = some id) : g id ≠ none := by
  intro hn
  cases ro with
  | load n x =>
    simp only [evR, rdR] at h hr
    split at hr
    · rename_i i2 off hx
      cases hr
      rw [hx] at h
      simp only [hn] at h
      cases h
    · simp at hr
  | lookup ks z ok m k =>
    simp only [evR, rdR] at h hr
    split at hr
    · rename_i i2 hx
      cases hr
      rw [hx] at h
      simp only [hn] at h
      cases h
    · simp at hr
  | b2s x =>
    simp only [evR, rdR] at h hr
    split at hr
    · rename_i i2 o l z hx
      simp at hr; subst hr
      simp [hx, rowOf, hn] at h
    · simp at hr

theorem get_lt {s : Store} {id : Nat} (h : s.get id ≠ none) : id < s.next := by
  unfold Store.get at h
  split at h
  · assumption
  · simp at h

theorem stable_get {s s' : Store} {id : Nat} (h : stable s s' (some id) = true) : s.get id = s'.get id := beqO_eq _ _ h

theorem draw_step {Q : Exit → Act → World → Prop} (hC : CallSound P C) {ops : Array Oper} {pairs : List (Nat × Nat)} {env0 envF : Env} {s0 sF : Store} {rs : List Rec} (htr : TraceOk C env0 s0 rs envF sF)
    (hst : rs.Pairwise (Still pairs)) (hpo : rs.Pairwise fun x y => pairOk (masks ops.toList []) pairs (x.i, x.o) (y.i, y.o) = true) (hnd : (rs.map (·.i)).Nodup) (hback : edgesBack ops.toList 0 = true)
    (hcomp : ∀ r ∈ rs, ∃ o, ops[r.i]? = some o ∧ compOper P md N ops o = some r.o)
    {μ0 : Mu} {Φ0 : Phi} {w0 : World} {L : Array Bool} {a : Act} {w : World} {μ : Mu} {Φ : Phi} (hI : Inv N μ0 Φ0 w0 env0 s0 sF rs L a w μ Φ) (hsh : Shut ops L) (hsz : L.size = ops.size)
    {r : Rec} (hr : r ∈ rs) (hoff : ¬ On L r.i) (hready : ∀ o, ops[r.i]? = some o → ∀ e ∈ o.after.toList, Region.binds .any e = true → On L e.on) :
    wpOp P ops Q r.i (fun a' w' => ∃ μ' Φ', Inv N μ0 Φ0 w0 env0 s0 sF rs (L.setIfInBounds r.i true) a' w' μ' Φ') a w := by
  obtain ⟨o, ho, hco⟩ := hcomp r hr
  obtain ⟨hres, hdst, hdok⟩ := comp_parts hco
  have hi : r.i < L.size := by rw [hsz]; exact (Array.getElem?_eq_some_iff.1 ho).1
  obtain ⟨A, B, hAB⟩ := List.append_of_mem hr
  subst hAB
  obtain ⟨hrok, hnA, hnB⟩ := trace_split hC htr
  have hrn := rec_next hC hrok
  -- others than r
  have hneA : ∀ q ∈ A, q.i ≠ r.i := by
    intro q hq e
    rw [List.map_append, List.map_cons] at hnd
    have := (List.nodup_append.1 hnd).2.2
    exact this q.i (List.mem_map_of_mem hq) r.i (by simp) e
  have hneB : ∀ q ∈ B, q.i ≠ r.i := by
    intro q hq e
    rw [List.map_append, List.map_cons] at hnd
    have := (List.nodup_append.1 hnd).2.1
    rw [List.nodup_cons] at this
    exact this.1 (by rw [← e]; exact List.mem_map_of_mem hq)
  have hpA : ∀ q ∈ A, pairOk (masks ops.toList []) pairs (q.i, q.o) (r.i, r.o) = true ∧ Still pairs q r := fun q hq =>
    ⟨(List.pairwise_append.1 hpo).2.2 q hq r (by simp), (List.pairwise_append.1 hst).2.2 q hq r (by simp)⟩
  have hpB : ∀ q ∈ B, pairOk (masks ops.toList []) pairs (r.i, r.o) (q.i, q.o) = true ∧ Still pairs r q := fun q hq =>
    ⟨(List.pairwise_cons.1 (List.pairwise_append.1 hpo).2.1).1 q hq, (List.pairwise_cons.1 (List.pairwise_append.1 hst).2.1).1 q hq⟩
  have hall := (trace_next hC htr).2
  have indA : ∀ q ∈ A, ¬ On L q.i → slotsApart q.o r.o = true ∧ memOk pairs q.i r.i q.o.op r.o.op = true ∧ Still pairs q r := by
    intro q hq hq'
    obtain ⟨h1, h2⟩ := hpA q hq
    simp only [pairOk, Bool.and_eq_true, Bool.or_eq_true] at h1
    rcases h1.2 with h3 | h3
    · exact absurd (shut_mask hback hsh r.i o ho (hready o ho) q.i h3) hq'
    · exact ⟨h3.1, h3.2, h2⟩
  have indB : ∀ q ∈ B, On L q.i → slotsApart r.o q.o = true ∧ memOk pairs r.i q.i r.o.op q.o.op = true ∧ Still pairs r q := by
    intro q hq hq'
    obtain ⟨h1, h2⟩ := hpB q hq
    simp only [pairOk, Bool.and_eq_true, Bool.or_eq_true] at h1
    rcases h1.2 with h3 | h3
    · obtain ⟨o2, ho2, _⟩ := hcomp q (by simp [hq])
      exact absurd (shut_mask hback hsh q.i o2 ho2 (hsh q.i o2 ho2 hq') r.i h3) hoff
    · exact ⟨h3.1, h3.2, h2⟩
  -- what r looks at is as it was written down
  have agreeE : ∀ t ∈ r.o.looks, curE env0 (A ++ r :: B) L t = r.env.get t := by
    intro t ht
    refine cur_agree (chainE t htr) ?_ (.inl hoff) ?_
    · intro q hq hq'
      have := (indA q hq hq').1
      simp only [slotsApart, Bool.and_eq_true] at this
      exact postE_other (apart_ne this.1.1 ht)
    · intro q hq hq'
      have := (indB q hq hq').1
      simp only [slotsApart, Bool.and_eq_true] at this
      exact postE_other (apart_ne this.1.2 ht)
  have henv : EnvR μ Φ (r.env.keep r.o.looks) a := by
    intro t
    by_cases ht : t ∈ r.o.looks
    · rw [get_keep _ _ _ ht, ← agreeE t ht]
      exact hI.env t
    · rw [get_keep_not _ _ _ ht]
      simp only [R]
  have hsame : Same (r.env.keep r.o.looks) r.env r.o.looks := fun t ht => get_keep _ _ _ ht
  have hsameG : Same (r.env.keep r.o.looks) r.env (guardSlot r.o.guard) := hsame.left
  have hsameO : Same (r.env.keep r.o.looks) r.env r.o.op.slots := hsame.right
  -- the end of a step
  have hmem : ∀ q ∈ A ++ r :: B, q.i = r.i → q = r := by
    intro q hq e
    rcases List.mem_append.1 hq with h | h
    · exact absurd e (hneA q h)
    · rcases List.mem_cons.1 h with h | h
      · exact h
      · exact absurd e (hneB q h)
  have honA : ∀ q ∈ A, (On (L.setIfInBounds r.i true) q.i ↔ On L q.i) := fun q hq => by rw [on_set hi]; simp [hneA q hq]
  have honB : ∀ q ∈ B, (On (L.setIfInBounds r.i true) q.i ↔ On L q.i) := fun q hq => by rw [on_set hi]; simp [hneB q hq]
  have honr : On (L.setIfInBounds r.i true) r.i := by rw [on_set hi]; exact .inl rfl
  have sameCur : ∀ {V : Type} (pre post : Rec → V) (v : V), pre r = post r → cur pre post (L.setIfInBounds r.i true) v (A ++ r :: B) = cur pre post L v (A ++ r :: B) := by
    intro V pre post v h
    refine cur_same v ?_
    intro q hq
    rcases List.mem_append.1 hq with h' | h'
    · exact .inl (honA q h')
    · rcases List.mem_cons.1 h' with rfl | h'
      · exact .inr h
      · exact .inl (honB q h')
  have hfin : ∀ v w' μ' Φ', R μ' Φ' r.d v → Sim μ' Φ' (curS s0 (A ++ r :: B) (L.setIfInBounds r.i true)) w' → Evo μ Φ (curS s0 (A ++ r :: B) L) w μ' Φ' (curS s0 (A ++ r :: B) (L.setIfInBounds r.i true)) w' r.s.next r.s'.next →
      Inv N μ0 Φ0 w0 env0 s0 sF (A ++ r :: B) (L.setIfInBounds r.i true) (a.put o.dst v) w' μ' Φ' := by
    intro v w' μ' Φ' hrv hs' he
    refine ⟨?_, ?_, ?_, hs', ?_, ?_⟩
    · intro t
      by_cases htd : r.o.dst = some t
      · have h1 : curE env0 (A ++ r :: B) (L.setIfInBounds r.i true) t = r.d := by
          rw [← postE_dst htd]
          refine cur_post (chainE t htr) ?_ honr ?_
          · intro q hq hq'
            rw [honA q hq] at hq'
            have := (indA q hq hq').1
            simp only [slotsApart, Bool.and_eq_true] at this
            refine postE_other fun e => ?_
            have h3 := this.2
            rw [e, htd] at h3
            simp at h3
          · intro q hq hq'
            rw [honB q hq] at hq'
            have := (indB q hq hq').1
            simp only [slotsApart, Bool.and_eq_true] at this
            refine postE_other fun e => ?_
            have h3 := this.2
            rw [e, htd] at h3
            simp at h3
        rw [h1]
        rw [hdst] at htd
        rw [htd] at hdok ⊢
        have hlt : t < a.tmps.size := Nat.lt_of_lt_of_le (by simpa [dstOk] using hdok) hI.size
        rw [put_tmps t hlt]
        simpa using hrv
      · have h1 : curE env0 (A ++ r :: B) (L.setIfInBounds r.i true) t = curE env0 (A ++ r :: B) L t := sameCur _ _ _ (postE_other htd)
        rw [h1]
        have h2 : (a.put o.dst v).tmps.getD t undef = a.tmps.getD t undef := by
          rw [hdst] at htd
          cases hd : o.dst with
          | none => rfl
          | some u =>
            rw [hd] at hdok
            have hlt : u < a.tmps.size := Nat.lt_of_lt_of_le (by simpa [dstOk] using hdok) hI.size
            rw [put_tmps t hlt, if_neg (fun e => htd (by rw [hd, e]))]
        rw [h2]
        exact R_mono he.mu he.phi _ _ (hI.env t)
    · cases o.dst <;> simpa [Act.put] using hI.size
    · cases o.dst <;> simpa [Act.put] using hI.defers
    · have h1 := (hall r (by simp)).1
      have h2 := (hall r (by simp)).2.1
      exact hI.evo.trans_same (he.widen h1 h2)
    · intro q hq hq'
      have hqr : q.i ≠ r.i := fun e => hq' (by rw [e]; exact honr)
      have hqL : ¬ On L q.i := fun h => hq' (by rw [on_set hi]; exact .inr h)
      intro id h1 h2
      rw [he.muOut id]
      · exact hI.fresh q hq hqL id h1 h2
      · rcases List.mem_append.1 hq with h | h
        · have := hnA q h; omega
        · rcases List.mem_cons.1 h with h | h
          · exact absurd (by rw [h]) hqr
          · have := hnB q h; omega
  have hstillS : r.s' = r.s → curS s0 (A ++ r :: B) (L.setIfInBounds r.i true) = curS s0 (A ++ r :: B) L := by
    intro h
    funext id
    exact sameCur _ _ _ (by simp only [preS, postS, h])
  unfold Go.wpOp
  simp only [ho]
  rcases hrok with ⟨hw, hd, hs', _⟩ | ⟨hw, hrun, hrd⟩
  · -- passed over
    have hwant := want_ok hco henv (by rw [want_c hsameG]; exact hw)
    rw [hwant]
    simp only [Bool.false_eq_true, if_false]
    refine ⟨μ, Φ, hfin undef w μ Φ (by rw [hd]; exact R_undef) ?_ ?_⟩
    · rw [hstillS hs']; exact hI.sim
    · rw [hstillS hs', hs']; exact Evo.refl _ _ _ _ _
  · have hwant := want_ok hco henv (by rw [want_c hsameG]; exact hw)
    rw [hwant]
    simp only [if_true]
    left
    cases hop : r.o.op with
    | p po =>
      rw [hop] at hrun hres hsameO
      simp only [runOp] at hrun
      obtain ⟨d', h1, e⟩ := map_some hrun
      simp at e
      refine P_wp hres henv (d := r.d) (by rw [evP_c hsameO, h1, e.1]) fun v hv => ⟨μ, Φ, hfin v w μ Φ hv ?_ ?_⟩
      · rw [hstillS e.2.symm]; exact hI.sim
      · rw [hstillS e.2.symm, ← e.2]; exact Evo.refl _ _ _ _ _
    | r ro =>
      rw [hop] at hrun hres hsameO hrd
      simp only [runOp] at hrun
      obtain ⟨d', h1, e⟩ := map_some hrun
      simp at e
      simp only [rdOf] at hrd
      have hlook : evR r.env (curS s0 (A ++ r :: B) L) ro = evR r.env r.s.get ro := by
        refine evR_look fun id hid => ?_
        have hne := evR_some h1 hid
        have hlt := get_lt hne
        refine cur_agree (chainS id htr) ?_ (.inl hoff) ?_
        · intro q hq hq'
          obtain ⟨_, hm, hstl⟩ := indA q hq hq'
          have hqok := (hall q (by simp [hq])).2.2
          simp only [preS, postS]
          simp only [memOk, hop, isP, isR, isA, isM, isW, Bool.or_eq_true, Bool.and_eq_true, Bool.or_false, Bool.and_true, Bool.and_false, Bool.not_false, Bool.or_false] at hm
          rcases hm with (hm | hm) | hm
          · rw [still_PR hqok (.inl hm)]
          · rw [still_PR hqok (.inr hm)]
          · exact stable_get (by have := (hstl hm.2).2; rwa [hrd, hid] at this)
        · intro q hq hq'
          obtain ⟨_, hm, hstl⟩ := indB q hq hq'
          have hqok := (hall q (by simp [hq])).2.2
          simp only [preS, postS]
          simp only [memOk, hop, isP, isR, isM, isW, Bool.or_eq_true, Bool.and_eq_true, Bool.true_and, Bool.false_and, Bool.not_false, Bool.false_or] at hm
          rcases hm with ((hm | hm) | hm) | hm
          · rw [still_PR hqok (.inl hm)]
          · rw [still_PR hqok (.inr hm)]
          · exact (still_A hqok hm id (by have := hnB q hq; omega)).symm
          · exact stable_get (by have := (hstl hm.2).1; rwa [hrd, hid] at this)
      refine R_wp hres henv hI.sim (d := r.d) (by rw [evR_c hsameO, hlook, h1, e.1]) fun v hv => ⟨μ, Φ, hfin v w μ Φ hv ?_ ?_⟩
      · rw [hstillS e.2.symm]; exact hI.sim
      · rw [hstillS e.2.symm, ← e.2]; exact Evo.refl _ _ _ _ _
    | a ao =>
      rw [hop] at hrun hres hsameO
      simp only [runOp] at hrun
      split at hrun
      · rename_i ob m h1
        simp at hrun
        obtain ⟨hd, hs'⟩ := hrun
        have hnx : r.s'.next = r.s.next + 1 := by rw [← hs']; rfl
        have hp1 : r.s.get r.s.next = none := Store.get_none _ _ (Nat.le_refl _)
        have hp2 : r.s'.get r.s.next = some ob := by rw [← hs', Store.get_push]; simp
        have cA : ∀ q ∈ A, ¬ On L q.i → preS r.s.next q = postS r.s.next q := by
          intro q hq _
          have h2 := hnA q hq
          have h3 := rec_next hC (hall q (by simp [hq])).2.2
          simp only [preS, postS]
          rw [Store.get_none _ _ (by omega), Store.get_none _ _ (by omega)]
        have cB : ∀ q ∈ B, On L q.i → preS r.s.next q = postS r.s.next q := by
          intro q hq hq'
          obtain ⟨_, hm, hstl⟩ := indB q hq hq'
          have hqok := (hall q (by simp [hq])).2.2
          have h2 := hnB q hq
          simp only [preS, postS]
          simp only [memOk, hop, isP, isR, isA, isM, isW, Bool.or_eq_true, Bool.and_eq_true, Bool.true_and, Bool.false_and, Bool.not_false, Bool.false_or, Bool.or_false] at hm
          rcases hm with (hm | hm) | hm
          · rw [still_PR hqok (.inl hm)]
          · exact (still_A hqok hm _ (by omega)).symm
          · have hst2 := (hstl hm.2).2
            have hrq : q.rd ≠ some r.s.next := by
              intro e
              rw [e] at hst2
              have := stable_get hst2
              rw [hp1, hp2] at this
              cases this
            cases hqo : q.o.op with
            | p po => rw [still_PR hqok (.inl (by rw [hqo]; rfl))]
            | r po => rw [still_PR hqok (.inr (by rw [hqo]; rfl))]
            | a ao => exact (still_A hqok (by rw [hqo]; rfl) _ (by omega)).symm
            | w n ad x => exact (still_W hqok (by rw [hqo]; rfl) _ hrq).symm
            | m mo => rw [hqo] at hm; simp at hm
        have hcur : curS s0 (A ++ r :: B) L r.s.next = none := by
          have := cur_agree (pre := preS r.s.next) (post := postS r.s.next) (L := L) (chainS r.s.next htr) cA (.inl hoff) cB
          exact this.trans hp1
        have hcur' : curS s0 (A ++ r :: B) (L.setIfInBounds r.i true) = upd (curS s0 (A ++ r :: B) L) r.s.next (some ob) := by
          funext j
          by_cases hj : j = r.s.next
          · subst hj
            have := cur_post (pre := preS r.s.next) (post := postS r.s.next) (L := L.setIfInBounds r.i true) (chainS r.s.next htr) (fun q hq h => cA q hq (by rwa [honA q hq] at h)) honr (fun q hq h => cB q hq (by rwa [honB q hq] at h))
            simp only [upd, if_true]
            exact this.trans hp2
          · simp only [upd, hj, if_false]
            exact sameCur _ _ _ (by simp only [preS, postS]; rw [← hs', Store.get_push, if_neg hj])
        refine A_wp hres henv hI.sim (by rw [evA_c hsameO, h1]) (hI.fresh r (by simp) hoff r.s.next (Nat.le_refl _) (by omega)) hcur fun v w' μ' g1 g2 g3 => ⟨μ', Φ, hfin v w' μ' Φ (by rw [← hd]; exact g2) ?_ ?_⟩
        · rw [hcur']; exact g1
        · rw [hcur', hnx]; exact g3
      · simp at hrun
    | w n ad x =>
      rw [hop] at hrun hres hsameO hrd
      simp only [runOp] at hrun
      split at hrun
      · rename_i id ob h1
        simp at hrun
        obtain ⟨hd, hs'⟩ := hrun
        have hx : rdW r.env ad = some id ∧ r.s.get id ≠ none := by
          unfold evW at h1
          unfold rdW
          split at h1
          · rename_i i2 off hx
            split at h1
            · rename_i hg
              simp only at h1
              split at h1
              · simp at h1
                rw [← h1.1]
                exact ⟨rfl, by rw [hg]; simp⟩
              · simp at h1
            · simp at h1
          · simp at h1
        simp only [rdOf, hx.1] at hrd
        have hlt := get_lt hx.2
        have hp2 : r.s'.get id = some ob := by rw [← hs', Store.get_set]; simp [hlt]
        have cA : ∀ q ∈ A, ¬ On L q.i → preS id q = postS id q := by
          intro q hq hq'
          obtain ⟨_, hm, hstl⟩ := indA q hq hq'
          have hqok := (hall q (by simp [hq])).2.2
          simp only [preS, postS]
          simp only [memOk, hop, isP, isR, isA, isM, isW, Bool.or_eq_true, Bool.and_eq_true, Bool.and_false, Bool.and_true, Bool.not_false, Bool.or_false] at hm
          rcases hm with hm | hm
          · rw [still_PR hqok (.inl hm)]
          · exact stable_get (by have := (hstl hm.2).2; rwa [hrd] at this)
        have cB : ∀ q ∈ B, On L q.i → preS id q = postS id q := by
          intro q hq hq'
          obtain ⟨_, hm, hstl⟩ := indB q hq hq'
          have hqok := (hall q (by simp [hq])).2.2
          have h2 := hnB q hq
          simp only [preS, postS]
          simp only [memOk, hop, isP, isR, isA, isM, isW, Bool.or_eq_true, Bool.and_eq_true, Bool.true_and, Bool.false_and, Bool.not_false, Bool.false_or, Bool.or_false] at hm
          rcases hm with (hm | hm) | hm
          · rw [still_PR hqok (.inl hm)]
          · exact (still_A hqok hm _ (by omega)).symm
          · exact stable_get (by have := (hstl hm.2).1; rwa [hrd] at this)
        have hagree : curS s0 (A ++ r :: B) L id = r.s.get id := cur_agree (pre := preS id) (post := postS id) (L := L) (chainS id htr) cA (.inl hoff) cB
        have hcur' : curS s0 (A ++ r :: B) (L.setIfInBounds r.i true) = upd (curS s0 (A ++ r :: B) L) id (some ob) := by
          funext j
          by_cases hj : j = id
          · subst hj
            have := cur_post (pre := preS j) (post := postS j) (L := L.setIfInBounds r.i true) (chainS j htr) (fun q hq h => cA q hq (by rwa [honA q hq] at h)) honr (fun q hq h => cB q hq (by rwa [honB q hq] at h))
            simp only [upd, if_true]
            exact this.trans hp2
          · simp only [upd, hj, if_false]
            exact sameCur _ _ _ (by simp only [preS, postS]; rw [← hs', Store.get_set]; simp [hj])
        have hnx : r.s'.next = r.s.next := by rw [← hs']; rfl
        refine W_wp hres henv hI.sim (id := id) (vo := ob) ?_ r.s.next fun w' g1 g2 => ⟨μ, Φ, hfin undef w' μ Φ (by rw [← hd]; exact R_undef) ?_ ?_⟩
        · rw [evW_c hsameO, evW_look (g' := r.s.get) (fun i2 h2 => by rw [hx.1] at h2; cases h2; exact hagree), h1]
        · rw [hcur']; exact g1
        · rw [hcur', hnx]; exact g2
      · simp at hrun
    | m mo =>
      rw [hop] at hrun hres hsameO
      simp only [runOp] at hrun
      have kA : ∀ q ∈ A, ¬ On L q.i → q.s' = q.s := by
        intro q hq hq'
        obtain ⟨_, hm, _⟩ := indA q hq hq'
        have hqok := (hall q (by simp [hq])).2.2
        cases hqo : q.o.op with
        | p po => exact still_PR hqok (.inl (by rw [hqo]; rfl))
        | r po => exact still_PR hqok (.inr (by rw [hqo]; rfl))
        | a ao => rw [hqo, hop] at hm; simp [memOk, isP, isR, isA, isM, isW] at hm
        | w n ad x => rw [hqo, hop] at hm; simp [memOk, isP, isR, isA, isM, isW] at hm
        | m mo => rw [hqo, hop] at hm; simp [memOk, isP, isR, isA, isM, isW] at hm
      have kB : ∀ q ∈ B, On L q.i → ∀ id, id ≠ q.s.next → q.s'.get id = q.s.get id := by
        intro q hq hq' id hid
        obtain ⟨_, hm, _⟩ := indB q hq hq'
        have hqok := (hall q (by simp [hq])).2.2
        cases hqo : q.o.op with
        | p po => rw [still_PR hqok (.inl (by rw [hqo]; rfl))]
        | r po => rw [still_PR hqok (.inr (by rw [hqo]; rfl))]
        | a ao => exact still_A hqok (by rw [hqo]; rfl) id hid
        | w n ad x => rw [hqo, hop] at hm; simp [memOk, isP, isR, isA, isM, isW] at hm
        | m mo => rw [hqo, hop] at hm; simp [memOk, isP, isR, isA, isM, isW] at hm
      have hsub : ∀ id ob, r.s.get id = some ob → curS s0 (A ++ r :: B) L id = some ob := by
        intro id ob hg
        have hlt := lt_next hg
        have := cur_agree (pre := preS id) (post := postS id) (L := L) (chainS id htr) (fun q hq h => by simp only [preS, postS]; rw [kA q hq h]) (.inl hoff)
          (fun q hq h => by simp only [preS, postS]; exact (kB q hq h id (by have := hnB q hq; omega)).symm)
        exact this.trans hg
      have hs1 : Sim μ Φ r.s.get w := hI.sim.fewer hsub
      obtain ⟨_, hwp⟩ := M_wp (K := fun a' w' => ∃ μ' Φ', Inv N μ0 Φ0 w0 env0 s0 sF (A ++ r :: B) (L.setIfInBounds r.i true) a' w' μ' Φ') (Q := Q) hC hres henv hs1 (by rw [evM_c hsameO]; exact hrun)
      refine hwp (hI.fresh r (by simp) hoff) ?_
      intro v w' μ' Φ' g1 g2 g3
      have hj := Sim.join (G := curS s0 (A ++ r :: B) (L.setIfInBounds r.i true)) hI.sim g1 hsub g3 (by
        intro id ob hG
        by_cases hex : ∃ q ∈ B, On L q.i ∧ id = q.s.next
        · obtain ⟨q, hq, hq', hid⟩ := hex
          have h2 := hnB q hq
          right
          have e1 : r.s.get id = none := Store.get_none _ _ (by omega)
          have e2 : r.s'.get id = none := Store.get_none _ _ (by omega)
          refine ⟨?_, e1⟩
          rw [← hG]
          exact (sameCur _ _ _ (by simp only [preS, postS, e1, e2])).symm
        · left
          have := cur_post (pre := preS id) (post := postS id) (L := L.setIfInBounds r.i true) (chainS id htr) (fun q hq h => by simp only [preS, postS]; rw [kA q hq (by rwa [honA q hq] at h)]) honr
            (fun q hq h => by
              rw [honB q hq] at h
              simp only [preS, postS]
              exact (kB q hq h id (fun e => hex ⟨q, hq, h, e⟩)).symm)
          have hG' : curS s0 (A ++ r :: B) (L.setIfInBounds r.i true) id = r.s'.get id := this
          rw [← hG', hG])
      exact ⟨μ', Φ', hfin v w' μ' Φ' g2 hj.1 hj.2⟩
end
end Go.V
