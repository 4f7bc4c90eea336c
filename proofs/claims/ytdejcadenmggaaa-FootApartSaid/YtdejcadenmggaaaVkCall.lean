/- The V machine: calls. -/
import Derived.Test.YtdejcadenmggaaaVkMain
namespace Go.V

def Fresh (μ : Mu) (n0 n1 : Nat) : Prop := ∀ id, n0 ≤ id → id < n1 → μ id = none

/-- A call of the V machine is matched by the model's. -/
def CallSound (P : Program) (C : CallF) : Prop := ∀ f args s d s', C f args s = some (d, s') → s.next ≤ s'.next ∧ (∃ fn, P.funcs[f]? = some fn ∧ fn.body.isSome = true ∧ (fn.name == "runtime.NumGoroutine") = false) ∧
  ∀ μ Φ w vs, Sim μ Φ s.get w → RL μ Φ args vs → Fresh μ s.next s'.next →
    Calls P f vs.toArray w fun e w' => ∃ v μ' Φ', e = .returned v ∧ Sim μ' Φ' s'.get w' ∧ R μ' Φ' d v ∧ Evo μ Φ s.get w μ' Φ' s'.get w' s.next s'.next

section
variable {P : Program} {md : FuncId → Mode} {μ : Mu} {Φ : Phi} {env : Env} {a : Act} {d : D} {g : Look} {w : World}

/-! What is frozen. -/
theorem RG_chunk {sz : Nat} : ∀ (n : Nat) {l : List D} {b o : Nat}, RC Φ l b o → l.length = n * sz → RG Φ sz (chunk sz n l) b o
  | 0, l, b, o, _, _ => by simp [chunk, RG]
  | n + 1, l, b, o, h, hl => by
    simp only [chunk, RG]
    rw [Nat.add_mul] at hl
    exact ⟨by simp; omega, RC_take sz h, RG_chunk n (RC_drop sz h) (by simp; omega)⟩
theorem chunk_length (sz : Nat) : ∀ (n : Nat) (l : List D), (chunk sz n l).length = n
  | 0, _ => rfl
  | n + 1, l => by simp [chunk, chunk_length sz n]

theorem mapO_length {f : D → Option D} : ∀ {l l' : List D}, mapO f l = some l' → l'.length = l.length
  | [], l', h => by simp [mapO] at h; subst h; rfl
  | d :: l, l', h => by
    simp only [mapO] at h
    split at h
    · rename_i h2; simp at h; subst h; simp [mapO_length h2]
    · simp at h

theorem ice_one {n : Nat} {d d' : D} (h : ice g n d = some d') (ho : oneCell d = true) : oneCell d' = true := by
  cases n with
  | zero => simp [ice] at h
  | succ n =>
    cases d <;> simp [oneCell] at ho <;> simp only [ice] at h <;> first
      | (cases h; rfl)
      | (split at h
         · obtain ⟨l, _, e⟩ := map_some h; subst e; rfl
         · simp at h)
      | (simp at h)

theorem ice_sound {Φ2 : Phi} (hs : Sim μ Φ g w) (hle : Φ.le Φ2) (how : ∀ b, Owned μ g b → Φ2 b = w.heap[b]?) : ∀ (n : Nat) (d d' : D) (v : Value), ice g n d = some d' → R μ Φ d v → RP Φ2 d' v := by
  intro n
  induction n with
  | zero => intro d d' v h; simp [ice] at h
  | succ n ih =>
    have hlist : ∀ (l l' : List D) (vs : List Value), mapO (ice g n) l = some l' → RL μ Φ l vs → RPL Φ2 l' vs := by
      intro l
      induction l with
      | nil => intro l' vs h hr; simp [mapO] at h; subst h; simp only [RL] at hr; simp only [RPL]; exact hr
      | cons d l il =>
        intro l' vs h hr
        simp only [mapO] at h
        split at h
        · rename_i x l1 h1 h2
          simp at h; subst h
          simp only [RL] at hr
          obtain ⟨u, us, rfl, r1, r2⟩ := hr
          simp only [RPL]
          exact ⟨u, us, rfl, ih _ _ _ h1 r1, il _ _ h2 r2⟩
        · simp at h
    have hcells : ∀ (l l' : List D) (b o : Nat), mapO (ice g n) l = some l' → l.all oneCell = true → (∀ j e, l[j]? = some e → ∃ u, Φ2.cell b (o + j) = some u ∧ R μ Φ e u) → RC Φ2 l' b o := by
      intro l
      induction l with
      | nil => intro l' b o h _ _; simp [mapO] at h; subst h; simp only [RC]
      | cons d l il =>
        intro l' b o h ho hr
        simp only [mapO] at h
        split at h
        · rename_i x l1 h1 h2
          simp at h; subst h
          simp only [List.all_cons, Bool.and_eq_true] at ho
          simp only [RC]
          obtain ⟨u, u1, u2⟩ := hr 0 d (by simp)
          refine ⟨⟨ice_one h1 ho.1, u, u1, ih _ _ _ h1 u2⟩, il _ _ _ h2 ho.2 ?_⟩
          intro j e hj
          obtain ⟨u, u1, u2⟩ := hr (j + 1) e (by simpa using hj)
          exact ⟨u, by rw [← u1]; congr 1; omega, u2⟩
        · simp at h
    intro d d' v h hr
    cases d <;> simp only [ice] at h
    case undef => simp at h
    case int k x => cases h; simpa only [R, RP] using hr
    case bool b => cases h; simpa only [R, RP] using hr
    case str s => cases h; simpa only [R, RP] using hr
    case nilp => cases h; simpa only [R, RP] using hr
    case ptr id off => simp at h
    case fp cs o => cases h; simp only [R] at hr; exact RP_mono hle _ _ hr
    case nils => cases h; simpa only [R, RP] using hr
    case lst sz xs => cases h; simp only [R] at hr; exact RP_mono hle _ _ hr
    case arr id off len sz =>
      simp only [R] at hr
      obtain ⟨b, o, z, cap, hm, e, hlc, hz⟩ := hr
      split at h
      · rename_i cs hrow
        obtain ⟨l, hl, e1⟩ := map_some h
        subst e1
        simp only [rowOf] at hrow
        split at hrow
        · rename_i cs0 hg
          split at hrow
          · rename_i hfit
            cases hrow
            obtain ⟨b', o', z', m1, m2, _⟩ := hs.obj id _ hg
            rw [hm] at m1
            cases m1
            have hb : Φ2 b = w.heap[b]? := how b ⟨id, o, z, by rw [hg]; simp, hm⟩
            have hone := m2.one
            obtain ⟨arr, et, vs, tail, q1, q2, q3, q4, _⟩ := m2
            have hrc : RC Φ2 l b (o + off) := by
              refine hcells _ _ _ _ hl (all_sub hone fun x hx => List.mem_of_mem_drop (List.mem_of_mem_take hx)) ?_
              intro j e hj
              rw [List.getElem?_take] at hj
              split at hj
              · rw [List.getElem?_drop] at hj
                obtain ⟨u, u1, u2⟩ := RL_get q4 hj
                refine ⟨u, ?_, u2⟩
                simp only [Phi.cell, hb, q1]
                have h5 : (arr.toList.drop o)[off + j]? = some u := by
                  rw [q3, List.getElem?_append_left (List.getElem?_eq_some_iff.1 u1).1]
                  exact u1
                rw [List.getElem?_drop, Array.getElem?_toList] at h5
                rw [← h5]; congr 1; omega
              · simp at hj
            have hll : l.length = len * sz := by
              rw [mapO_length hl]
              simp
              omega
            simp only [RP]
            exact ⟨b, o + off, cap, none, by rw [e, chunk_length], by rw [chunk_length]; exact hlc, .inl rfl, RG_chunk len hrc hll⟩
          · simp at hrow
        · simp at hrow
      · simp at h
    case agg cs =>
      obtain ⟨l, hl, e1⟩ := map_some h
      subst e1
      simp only [R] at hr
      obtain ⟨vs, e, hv⟩ := hr
      simp only [RP]
      exact ⟨vs, e, hlist _ _ _ hl hv⟩
    case tup cs =>
      obtain ⟨l, hl, e1⟩ := map_some h
      subst e1
      simp only [R] at hr
      obtain ⟨vs, e, hv⟩ := hr
      simp only [RP]
      exact ⟨vs, e, hlist _ _ _ hl hv⟩
    case fn f cs => simp at h
    case nilf => cases h; simpa only [R, RP] using hr
    case nilm => cases h; simpa only [R, RP] using hr
    case map id => simp at h

theorem iceL_sound {Φ2 : Phi} (hs : Sim μ Φ g w) (hle : Φ.le Φ2) (how : ∀ b, Owned μ g b → Φ2 b = w.heap[b]?) (n : Nat) : ∀ {l l' : List D} {vs : List Value}, mapO (ice g n) l = some l' → RL μ Φ l vs → RPL Φ2 l' vs
  | [], l', vs, h, hr => by simp [mapO] at h; subst h; simp only [RL] at hr; simp only [RPL]; exact hr
  | d :: l, l', vs, h, hr => by
    simp only [mapO] at h
    split at h
    · rename_i x l1 h1 h2
      simp at h; subst h
      simp only [RL] at hr
      obtain ⟨u, us, rfl, r1, r2⟩ := hr
      simp only [RPL]
      exact ⟨u, us, rfl, ice_sound hs hle how n _ _ _ h1 r1, iceL_sound hs hle how n h2 r2⟩
    · simp at h

mutual
theorem scalar_RP {Φ Φ' : Phi} : ∀ (d : D) (v : Value), scalarD d = true → RP Φ d v → RP Φ' d v
  | .int _ _, _, _, e => by simpa only [RP] using e
  | .bool _, _, _, e => by simpa only [RP] using e
  | .str _, _, _, e => by simpa only [RP] using e
  | .nilp, _, _, e => by simpa only [RP] using e
  | .fp cs off, v, h, e => by simp [scalarD] at h
  | .nils, _, _, e => by simpa only [RP] using e
  | .lst sz xs, v, h, e => by simp [scalarD] at h
  | .agg cs, v, h, e => by
    simp only [scalarD] at h
    simp only [RP] at e ⊢
    obtain ⟨vs, e1, e2⟩ := e
    exact ⟨vs, e1, scalar_RPL cs vs h e2⟩
  | .tup cs, v, h, e => by
    simp only [scalarD] at h
    simp only [RP] at e ⊢
    obtain ⟨vs, e1, e2⟩ := e
    exact ⟨vs, e1, scalar_RPL cs vs h e2⟩
  | .nilf, _, _, e => by simpa only [RP] using e
  | .nilm, _, _, e => by simpa only [RP] using e
  | .undef, _, _, e => by simp only [RP] at e
  | .ptr _ _, _, _, e => by simp only [RP] at e
  | .arr _ _ _ _, _, _, e => by simp only [RP] at e
  | .fn _ _, _, _, e => by simp only [RP] at e
  | .map _, _, _, e => by simp only [RP] at e
theorem scalar_RPL {Φ Φ' : Phi} : ∀ (ds : List D) (vs : List Value), scalarL ds = true → RPL Φ ds vs → RPL Φ' ds vs
  | [], _, _, e => by simpa only [RPL] using e
  | d :: ds, vs, h, e => by
    simp only [scalarL, Bool.and_eq_true] at h
    simp only [RPL] at e ⊢
    obtain ⟨u, us, e1, e2, e3⟩ := e
    exact ⟨u, us, e1, scalar_RP d u h.1 e2, scalar_RPL ds us h.2 e3⟩
end

mutual
theorem pure_RP : ∀ (d : D) (v : Value), pureD d = true → R μ Φ d v → RP Φ d v
  | .int _ _, _, _, e => by simpa only [R, RP] using e
  | .bool _, _, _, e => by simpa only [R, RP] using e
  | .str _, _, _, e => by simpa only [R, RP] using e
  | .nilp, _, _, e => by simpa only [R, RP] using e
  | .fp cs off, v, h, e => by simp only [R] at e; exact e
  | .nils, _, _, e => by simpa only [R, RP] using e
  | .lst sz xs, v, h, e => by simp only [R] at e; exact e
  | .agg cs, v, h, e => by
    simp only [pureD] at h
    simp only [R, RP] at e ⊢
    obtain ⟨vs, e1, e2⟩ := e
    exact ⟨vs, e1, pure_RPL cs vs h e2⟩
  | .tup cs, v, h, e => by simp [pureD] at h
  | .nilf, _, _, e => by simpa only [R, RP] using e
  | .nilm, _, _, e => by simpa only [R, RP] using e
  | .undef, _, h, _ => by simp [pureD] at h
  | .ptr _ _, _, h, _ => by simp [pureD] at h
  | .arr _ _ _ _, _, h, _ => by simp [pureD] at h
  | .fn _ _, _, h, _ => by simp [pureD] at h
  | .map _, _, h, _ => by simp [pureD] at h
theorem pure_RPL : ∀ (ds : List D) (vs : List Value), pureL ds = true → RL μ Φ ds vs → RPL Φ ds vs
  | [], _, _, e => by simpa only [RL, RPL] using e
  | d :: ds, vs, h, e => by
    simp only [pureL, Bool.and_eq_true] at h
    simp only [RL, RPL] at e ⊢
    obtain ⟨u, us, e1, e2, e3⟩ := e
    exact ⟨u, us, e1, pure_RP d u h.1 e2, pure_RPL ds us h.2 e3⟩
end

mutual
theorem ice_pure : ∀ (d : D) (n : Nat) (d' : D), pureD d = true → ice g n d = some d' → d' = d
  | .agg cs, n, d', h, e => by
    cases n with
    | zero => simp [ice] at e
    | succ n =>
      simp only [pureD] at h
      simp only [ice] at e
      obtain ⟨l, hl, e1⟩ := map_some e
      rw [← e1, ice_pureL cs n l h hl]
  | .int _ _, n, d', _, e => by cases n <;> simp [ice] at e; exact e.symm
  | .bool _, n, d', _, e => by cases n <;> simp [ice] at e; exact e.symm
  | .str _, n, d', _, e => by cases n <;> simp [ice] at e; exact e.symm
  | .nilp, n, d', _, e => by cases n <;> simp [ice] at e; exact e.symm
  | .fp _ _, n, d', _, e => by cases n <;> simp [ice] at e; exact e.symm
  | .nils, n, d', _, e => by cases n <;> simp [ice] at e; exact e.symm
  | .lst _ _, n, d', _, e => by cases n <;> simp [ice] at e; exact e.symm
  | .nilf, n, d', _, e => by cases n <;> simp [ice] at e; exact e.symm
  | .nilm, n, d', _, e => by cases n <;> simp [ice] at e; exact e.symm
  | .tup _, _, _, h, _ => by simp [pureD] at h
  | .undef, _, _, h, _ => by simp [pureD] at h
  | .ptr _ _, _, _, h, _ => by simp [pureD] at h
  | .arr _ _ _ _, _, _, h, _ => by simp [pureD] at h
  | .fn _ _, _, _, h, _ => by simp [pureD] at h
  | .map _, _, _, h, _ => by simp [pureD] at h
theorem ice_pureL : ∀ (ds : List D) (n : Nat) (l : List D), pureL ds = true → mapO (ice g n) ds = some l → l = ds
  | [], n, l, _, e => by simp [mapO] at e; exact e
  | d :: ds, n, l, h, e => by
    simp only [pureL, Bool.and_eq_true] at h
    simp only [mapO] at e
    split at e
    · rename_i x l1 h1 h2
      simp at e
      rw [← e, ice_pure d n x h.1 h1, ice_pureL ds n l1 h.2 h2]
    · simp at e
end

theorem sim_empty {Φ : Phi} (h : ∀ b ob, Φ b = some ob → w.heap[b]? = some ob) : Sim (fun _ => none) Φ Store.empty.get w :=
  ⟨h, fun id ob e => by simp at e, fun id id' b o z o' z' h1 _ _ _ => by simp at h1⟩
theorem not_owned_empty (b : Nat) : ¬ Owned (fun _ => none) Store.empty.get b := by
  rintro ⟨id, o, z, h, _⟩
  simp at h

/-- A call, by its mode. -/
theorem callV_sound {C : CallF} (hC : CallSound P C) {m : Mode} {f : FuncId} {caps args : List D} {s s' : Store} (hev : callV C m (.fn f caps) args s = some (d, s')) :
    s.next ≤ s'.next ∧ (∃ fn, P.funcs[f]? = some fn ∧ fn.body.isSome = true ∧ (fn.name == "runtime.NumGoroutine") = false) ∧
    ∀ μ Φ w vs, Sim μ Φ s.get w → RL μ Φ (args ++ caps) vs → Fresh μ s.next s'.next →
      Calls P f vs.toArray w fun e w' => ∃ v μ' Φ', e = .returned v ∧ Sim μ' Φ' s'.get w' ∧ R μ' Φ' d v ∧ Evo μ Φ s.get w μ' Φ' s'.get w' s.next s'.next := by
  cases m with
  | raw => exact hC f (args ++ caps) s d s' hev
  | iso =>
    simp only [callV] at hev
    split at hev
    · simp at hev
    · rename_i args' hargs
      split at hev
      · simp at hev
      · rename_i r s1 hcall
        split at hev
        · simp at hev
        · rename_i r' hr'
          split at hev
          · rename_i hcond
            simp at hev
            obtain ⟨rfl, rfl⟩ := hev
            obtain ⟨h0, h1, h2⟩ := hC f args' Store.empty r s1 hcall
            refine ⟨Nat.le_refl _, h1, ?_⟩
            intro μ Φ w vs hs hr _
            have keepSim : ∀ (Φc : Phi) (μ1 : Mu) (Φ1 : Phi) (w' : World), Evo (fun _ => none) Φc Store.empty.get w μ1 Φ1 s1.get w' Store.empty.next s1.next → ∀ b, b < w.heap.size → w'.heap[b]? = w.heap[b]? :=
              fun Φc μ1 Φ1 w' he b hb => he.keep b hb (not_owned_empty b)
            by_cases hsc : scalarD r' = true
            · -- all of memory is frozen for the call
              let Φc : Phi := fun b => w.heap[b]?
              have hle : Φ.le Φc := fun b ob e => hs.phi b ob e
              have ha := iceL_sound hs hle (fun _ _ => rfl) 20 hargs hr
              refine (h2 (fun _ => none) Φc w vs (sim_empty fun _ _ e => e) (RL_of_RPL _ _ ha) (fun _ _ _ => rfl)).mono ?_
              rintro e w' ⟨v, μ1, Φ1, rfl, hs1, hr1, he⟩
              have hk := keepSim Φc μ1 Φ1 w' he
              let Φ2 : Phi := fun b => w'.heap[b]?
              have hp := ice_sound (Φ2 := Φ2) hs1 (fun b ob e => hs1.phi b ob e) (fun _ _ => rfl) 20 _ _ _ hr' hr1
              refine ⟨v, μ, Φ, rfl, hs.world (fun b ob e => hk b (hs.phi_lt e)) (fun b ho => hk b (hs.owned_lt ho)), R_of_RP _ _ (scalar_RP _ _ hsc hp), ?_⟩
              exact ⟨Mu.le_refl _, fun _ _ => rfl, Phi.le_refl _, he.os, he.tape, he.output, he.size, fun b hb _ => hk b hb, fun _ _ h => .inl h, fun _ h => .inl h⟩
            · -- the arguments are plain
              have hpure : pureL (args ++ caps) = true := by
                simp only [Bool.or_eq_true] at hcond
                rcases hcond with h | h
                · exact absurd h hsc
                · exact h
              have heq := ice_pureL _ _ _ hpure hargs
              subst heq
              have ha := pure_RPL _ _ hpure hr
              refine (h2 (fun _ => none) Φ w vs (sim_empty fun b ob e => hs.phi b ob e) (RL_of_RPL _ _ ha) (fun _ _ _ => rfl)).mono ?_
              rintro e w' ⟨v, μ1, Φ1, rfl, hs1, hr1, he⟩
              have hk := keepSim Φ μ1 Φ1 w' he
              let Φ2 : Phi := fun b => if b < w.heap.size then Φ b else w'.heap[b]?
              have h02 : Φ.le Φ2 := fun b ob e => by
                have := hs.phi_lt e
                simp only [Φ2, this, if_true]
                exact e
              have h12 : Φ1.le Φ2 := fun b ob e => by
                rcases he.phiNew b ob e with h | h
                · exact h02 b ob h
                · simp only [Φ2, Nat.not_lt.2 h, if_false]
                  exact hs1.phi b ob e
              have hown : ∀ b, Owned μ1 s1.get b → Φ2 b = w'.heap[b]? := fun b ho => by
                rcases he.ownNew b ho with h | h
                · exact absurd h (not_owned_empty b)
                · simp only [Φ2, Nat.not_lt.2 h, if_false]
              have hp := ice_sound (Φ2 := Φ2) hs1 h12 hown 20 _ _ _ hr' hr1
              have hs' : Sim μ Φ s.get w' := hs.world (fun b ob e => hk b (hs.phi_lt e)) (fun b ho => hk b (hs.owned_lt ho))
              refine ⟨v, μ, Φ2, rfl, ⟨?_, ?_, hs.inj⟩, R_of_RP _ _ hp, ?_⟩
              · intro b ob e
                by_cases hb : b < w.heap.size
                · simp only [Φ2, hb, if_true] at e
                  exact hs'.phi b ob e
                · simp only [Φ2, hb, if_false] at e
                  exact e
              · intro id ob e
                obtain ⟨b, o, z, e1, e2, e3⟩ := hs'.obj id ob e
                refine ⟨b, o, z, e1, ObjAt_mono (Mu.le_refl _) h02 e2, ?_⟩
                have hb : b < w.heap.size := hs.owned_lt ⟨id, o, z, by rw [e]; simp, e1⟩
                simp only [Φ2, hb, if_true]
                exact e3
              · exact ⟨Mu.le_refl _, fun _ _ => rfl, h02, he.os, he.tape, he.output, he.size, fun b hb _ => hk b hb, fun b ob e => by
                  by_cases hb : b < w.heap.size
                  · simp only [Φ2, hb, if_true] at e; exact .inl e
                  · exact .inr (Nat.not_lt.1 hb), fun _ h => .inl h⟩
          · simp at hev
end
end Go.V
