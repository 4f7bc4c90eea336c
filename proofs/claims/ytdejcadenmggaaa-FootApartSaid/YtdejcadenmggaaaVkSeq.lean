/- The V machine: a region's operations, in the order of the text. -/
import Derived.Test.YtdejcadenmggaaaVkReg
namespace Go.V

def guardOf (ops : Array Oper) : Option (Nat × Bool) → Option (Option (Nat × Bool))
  | none => some none
  | some (j, want) => match (ops[j]?).bind (·.dst) with
    | some t => some (some (t, want))
    | none => none
def dstOk (N : Nat) : Option Nat → Bool
  | some t => decide (t < N)
  | none => true
def compOper (P : Program) (md : FuncId → Mode) (N : Nat) (ops : Array Oper) (o : Oper) : Option VOper :=
  match resOp P md o, guardOf ops o.guard with
  | some v, some g => if dstOk N o.dst then some ⟨o.dst, v, g⟩ else none
  | _, _ => none

/-- The frame beside the environment. -/
structure FrR (N : Nat) (μ : Mu) (Φ : Phi) (env : Env) (a : Act) : Prop where
  env : EnvR μ Φ env a
  size : N ≤ a.tmps.size
  defers : a.defers = []

theorem FrR.mono {N : Nat} {μ μ' : Mu} {Φ Φ' : Phi} {env : Env} {a : Act} (hm : μ.le μ') (h : Φ.le Φ') (e : FrR N μ Φ env a) : FrR N μ' Φ' env a := ⟨e.env.mono hm h, e.size, e.defers⟩

theorem put_tmps {a : Act} {t : Nat} {v : Value} (t' : Nat) (h : t < a.tmps.size) : (a.put (some t) v).tmps.getD t' undef = if t' = t then v else a.tmps.getD t' undef := by
  simp only [Act.put, Array.getD_eq_getD_getElem?]
  by_cases e : t' = t
  · subst e; simp [h]
  · simp [e, Array.getElem?_setIfInBounds_ne (fun x => e x.symm)]

theorem FrR.put {N : Nat} {μ : Mu} {Φ : Phi} {env : Env} {a : Act} (h : FrR N μ Φ env a) {dst : Option Nat} (hd : dstOk N dst = true) {d : D} {v : Value} (hr : R μ Φ d v) : FrR N μ Φ (env.put dst d) (a.put dst v) := by
  cases dst with
  | none => exact h
  | some t =>
    have ht : t < a.tmps.size := Nat.lt_of_lt_of_le (by simpa [dstOk] using hd) h.size
    refine ⟨fun t' => ?_, ?_, h.defers⟩
    · rw [put_tmps t' ht]
      simp only [Env.put, Env.get]
      by_cases e : t' = t
      · subst e; simp [hr]
      · have e2 : ¬ t = t' := fun x => e x.symm
        simp only [e, e2, if_false]
        exact h.env t'
    · simpa [Act.put] using h.size

theorem FrR.keep {N : Nat} {μ : Mu} {Φ : Phi} {env : Env} {a : Act} (h : FrR N μ Φ env a) (vars : List Nat) : FrR N μ Φ (env.keep vars) a := by
  refine ⟨fun t => ?_, h.size, h.defers⟩
  have : ∀ l : List Nat, R μ Φ (Env.get (l.map fun t => (t, Env.get env t)) t) (a.tmps.getD t undef) := by
    intro l
    induction l with
    | nil => simp [Env.get, R]
    | cons x l ih =>
      simp only [List.map_cons, Env.get]
      by_cases e : x = t
      · subst e; simp only [if_true]; exact h.env x
      · simp only [e, if_false]; exact ih
  exact this vars

theorem want_ok {P : Program} {md : FuncId → Mode} {N : Nat} {μ : Mu} {Φ : Phi} {env : Env} {a : Act} {ops : Array Oper} {o : Oper} {vo : VOper} (hc : compOper P md N ops o = some vo) (he : EnvR μ Φ env a) {b : Bool}
    (h : wantV env vo.guard = some b) : Region.wanted o (yielded ops a.tmps) = b := by
  unfold compOper at hc
  split at hc
  · rename_i v g hv hg
    split at hc
    · simp at hc; subst hc
      simp only at h
      unfold guardOf at hg
      split at hg
      · rename_i hgd
        simp at hg; subst hg
        simp [wantV] at h; subst h
        simp [Region.wanted, hgd]
      · rename_i j want hgd
        split at hg
        · rename_i t ht
          simp at hg; subst hg
          have hr := he t
          simp only [wantV] at h
          simp only [Region.wanted, hgd, yielded, ht, Option.bind_some]
          split at h
          · rename_i b' hb
            rw [hb] at hr
            simp only [R, Array.getD_eq_getD_getElem?] at hr
            simp at h; subst h
            cases hx : a.tmps[t]? with
            | none => simp [hx, undef] at hr
            | some x =>
              simp [hx] at hr
              subst hr
              cases b' <;> cases want <;> rfl
          · rename_i hb
            rw [hb] at hr
            simp only [R, RL, Array.getD_eq_getD_getElem?] at hr
            obtain ⟨vs, e1, e2⟩ := hr
            subst e2
            simp at h; subst h
            cases hx : a.tmps[t]? with
            | none => rfl
            | some x =>
              simp [hx] at e1
              subst e1
              rfl
          · simp at h
        · simp at hg
    · simp at hc
  · simp at hc

theorem comp_parts {P : Program} {md : FuncId → Mode} {N : Nat} {ops : Array Oper} {o : Oper} {vo : VOper} (hc : compOper P md N ops o = some vo) : resOp P md o = some vo.op ∧ vo.dst = o.dst ∧ dstOk N o.dst = true := by
  unfold compOper at hc
  split at hc
  · rename_i v g hv hg
    split at hc
    · rename_i hd
      simp at hc; subst hc
      exact ⟨hv, rfl, hd⟩
    · simp at hc
  · simp at hc

section
variable {P : Program} {md : FuncId → Mode} {N : Nat} {μ : Mu} {Φ : Phi} {env : Env} {a : Act} {d : D} {w : World} {K : Act → World → Prop} {Q : Exit → Act → World → Prop}

theorem op_wp {C : CallF} (hC : CallSound P C) {o : Oper} {vo : VOp} (hres : resOp P md o = some vo) (he : EnvR μ Φ env a) {s s' : Store} (hs : Sim μ Φ s.get w) (hev : runOp C env s vo = some (d, s')) :
    s.next ≤ s'.next ∧ (Fresh μ s.next s'.next → (∀ v w' μ' Φ', Sim μ' Φ' s'.get w' → R μ' Φ' d v → Evo μ Φ s.get w μ' Φ' s'.get w' s.next s'.next → K (a.put o.dst v) w') → o.wp P a w K Q) := by
  cases vo with
  | p po =>
    simp only [runOp] at hev
    obtain ⟨d', h1, e⟩ := map_some hev
    cases e
    exact ⟨Nat.le_refl _, fun _ hK => P_wp hres he h1 fun v hv => hK v w μ Φ hs hv (Evo.refl _ _ _ _ _)⟩
  | r ro =>
    simp only [runOp] at hev
    obtain ⟨d', h1, e⟩ := map_some hev
    cases e
    exact ⟨Nat.le_refl _, fun _ hK => R_wp hres he hs h1 fun v hv => hK v w μ Φ hs hv (Evo.refl _ _ _ _ _)⟩
  | a ao =>
    simp only [runOp] at hev
    split at hev
    · rename_i ob m h1
      cases hev
      refine ⟨Nat.le_succ _, fun hf hK => A_wp hres he hs h1 (hf s.next (Nat.le_refl _) (Nat.lt_succ_self _)) (Store.get_none _ _ (Nat.le_refl _)) fun v w' μ' h2 h3 h4 => ?_⟩
      have hfn : (s.push ob).get = upd s.get s.next (some ob) := funext fun j => get_push_upd s ob j
      exact hK v w' μ' Φ (by rw [hfn]; exact h2) h3 (by rw [hfn]; exact h4)
    · simp at hev
  | w n ad x =>
    simp only [runOp] at hev
    split at hev
    · rename_i id ob h1
      cases hev
      have hlt : id < s.next := by
        unfold evW at h1
        split at h1
        · split at h1
          · rename_i hg
            simp only at h1
            split at h1
            · simp at h1; rw [← h1.1]; exact lt_next hg
            · simp at h1
          · simp at h1
        · simp at h1
      refine ⟨Nat.le_refl _, fun _ hK => W_wp hres he hs h1 s.next fun w' h2 h3 => ?_⟩
      have hfn : (s.set id (some ob)).get = upd s.get id (some ob) := funext fun j => get_set_upd s id _ hlt j
      exact hK undef w' μ Φ (by rw [hfn]; exact h2) R_undef (by rw [hfn]; exact h3)
    · simp at hev
  | m mo => exact M_wp hC hres he hs hev

theorem pairsOk_nil (j : Tr) : ∀ l : List Tr, pairsOk [] j l = true
  | [] => rfl
  | i :: l => by simp [pairsOk, pairsOk_nil j l]

/-- What a region leaves. -/
def Leaves' (N : Nat) (μ : Mu) (Φ : Phi) (s : Store) (w : World) (env' : Env) (s' : Store) (K : Act → World → Prop) : Prop :=
  ∀ a' w' μ' Φ', FrR N μ' Φ' env' a' → Sim μ' Φ' s'.get w' → Evo μ Φ s.get w μ' Φ' s'.get w' s.next s'.next → K a' w'

theorem runOps_next {C : CallF} (hC : CallSound P C) {ops : Array Oper} {pairs : List (Nat × Nat)} : ∀ {vl : List (Nat × VOper)} {tr : List Tr} {env env' : Env} {s s' : Store},
    (∀ x ∈ vl, ∃ o, compOper P md N ops o = some x.2) → runOps C pairs vl tr env s = some (env', s') → s.next ≤ s'.next
  | [], tr, env, env', s, s', _, h => by simp [runOps] at h; rw [h.2]; exact Nat.le_refl _
  | (i, o) :: vl, tr, env, env', s, s', hx, h => by
    simp only [runOps] at h
    split at h
    · simp at h
    · exact runOps_next hC (fun x hm => hx x (by simp [hm])) h
    · split at h
      · simp at h
      · rename_i d1 s1 h1
        split at h
        · have h2 := runOps_next hC (fun x hm => hx x (by simp [hm])) h
          obtain ⟨o', ho'⟩ := hx (i, o) (by simp)
          have h3 : s.next ≤ s1.next := by
            cases hop : o.op with
            | p po => rw [hop] at h1; simp only [runOp] at h1; obtain ⟨_, _, e⟩ := map_some h1; cases e; exact Nat.le_refl _
            | r po => rw [hop] at h1; simp only [runOp] at h1; obtain ⟨_, _, e⟩ := map_some h1; cases e; exact Nat.le_refl _
            | a ao => rw [hop] at h1; simp only [runOp] at h1; split at h1 <;> simp at h1; rw [← h1.2]; exact Nat.le_succ _
            | w n ad x => rw [hop] at h1; simp only [runOp] at h1; split at h1 <;> simp at h1; rw [← h1.2]; exact Nat.le_refl _
            | m mo =>
              rw [hop] at h1
              simp only [runOp] at h1
              cases mo with
              | call md' f args =>
                simp only [evM] at h1
                generalize env.ev f = fd at h1
                cases fd <;> try (simp [callV] at h1; done)
                exact (callV_sound hC h1).1
              | append sz bytes sx x =>
                simp only [evM, appendV] at h1
                split at h1
                · split at h1
                  · split at h1
                    · split at h1
                      · cases h1; exact Nat.le_refl _
                      · split at h1
                        · cases h1; exact Nat.le_succ _
                        · simp at h1
                    · split at h1
                      · split at h1
                        · split at h1
                          · cases h1; exact Nat.le_refl _
                          · split at h1
                            · cases h1; exact Nat.le_succ _
                            · simp at h1
                        · simp at h1
                      · simp at h1
                    · split at h1
                      · cases h1; exact Nat.le_refl _
                      · simp at h1
                    · simp at h1
                  · simp at h1
                · simp at h1
              | mapset ks m k v =>
                simp only [evM] at h1
                split at h1
                · split at h1
                  · split at h1
                    · split at h1
                      · obtain ⟨_, _, e⟩ := map_some h1; cases e; exact Nat.le_refl _
                      · simp at h1
                    · simp at h1
                  · simp at h1
                · simp at h1
          omega
        · simp at h

theorem seq_wp {C : CallF} (hC : CallSound P C) {ops : Array Oper} : ∀ {l : List Oper} {vl : List (Nat × VOper)} {tr : List Tr} {env env' : Env} {s s' : Store} {μ : Mu} {Φ : Phi} {a : Act} {w : World},
    vl.length = l.length → (∀ (j : Nat) (o : Oper) (x : Nat × VOper), l[j]? = some o → vl[j]? = some x → compOper P md N ops o = some x.2) → runOps C [] vl tr env s = some (env', s') →
    FrR N μ Φ env a → Sim μ Φ s.get w → Fresh μ s.next s'.next → Leaves' N μ Φ s w env' s' (fun a w => Q .normal a w) → wpList P ops Q l a w
  | [], vl, tr, env, env', s, s', μ, Φ, a, w, hl, _, h, hf, hs, _, hQ => by
    cases vl with
    | cons _ _ => simp at hl
    | nil =>
      simp [runOps] at h
      obtain ⟨rfl, rfl⟩ := h
      exact hQ a w μ Φ hf hs (Evo.refl _ _ _ _ _)
  | o :: l, vl, tr, env, env', s, s', μ, Φ, a, w, hl, hx, h, hf, hs, hfr, hQ => by
    cases vl with
    | nil => simp at hl
    | cons v vl =>
      obtain ⟨i, vo⟩ := v
      have hc := hx 0 o (i, vo) (by simp) (by simp)
      obtain ⟨hres, hdst, hdok⟩ := comp_parts hc
      have hx' : ∀ (j : Nat) (o : Oper) (x : Nat × VOper), l[j]? = some o → vl[j]? = some x → compOper P md N ops o = some x.2 := fun j o x h1 h2 => hx (j + 1) o x (by simpa using h1) (by simpa using h2)
      have hl' : vl.length = l.length := by simpa using hl
      have hall : ∀ x ∈ vl, ∃ o, compOper P md N ops o = some x.2 := by
        intro x hm
        obtain ⟨j, hj⟩ := List.getElem?_of_mem hm
        have hlt : j < l.length := by rw [← hl']; exact (List.getElem?_eq_some_iff.1 hj).1
        exact ⟨l[j], hx' j _ x (by simp [hlt]) hj⟩
      simp only [runOps] at h
      split at h
      · simp at h
      · rename_i hw
        have hwant := want_ok hc hf.env hw
        unfold wpList
        rw [hwant]
        simp only [Bool.false_eq_true, if_false]
        have hf' := hf.put hdok (d := .tup []) (v := undef) R_undef
        rw [← hdst] at hf'
        rw [← hdst]
        exact seq_wp hC hl' hx' h hf' hs hfr hQ
      · rename_i hw
        have hwant := want_ok hc hf.env hw
        split at h
        · simp at h
        · rename_i d1 s1 h1
          simp only [pairsOk_nil, if_true] at h
          have hn := runOps_next (P := P) (md := md) (N := N) hC hall h
          unfold wpList
          rw [hwant]
          simp only [if_true]
          left
          obtain ⟨hn1, hwp⟩ := op_wp (K := wpList P ops Q l) (Q := Q) hC hres hf.env hs h1
          refine hwp (fun id h2 h3 => hfr id h2 (by omega)) ?_
          intro v w' μ' Φ' hs' hr he
          have hf' := (hf.mono he.mu he.phi).put hdok hr
          rw [← hdst] at hf'
          rw [← hdst]
          refine seq_wp hC hl' hx' h hf' hs' ?_ ?_
          · intro id h2 h3
            rw [he.muOut id (.inr h2)]
            exact hfr id (by omega) h3
          · intro a2 w2 μ2 Φ2 g1 g2 g3
            exact hQ a2 w2 μ2 Φ2 g1 g2 (he.trans hn1 hn g3)
end
end Go.V
