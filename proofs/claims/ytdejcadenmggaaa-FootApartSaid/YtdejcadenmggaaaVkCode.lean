/- The V machine: code, functions, and the theorem: a run of it is matched by the model's. -/
import Derived.Test.YtdejcadenmggaaaVkDraw3
import Derived.LoopN
namespace Go.V

def compAll (P : Program) (md : FuncId → Mode) (N : Nat) (ops : Array Oper) : List Oper → Option (List VOper)
  | [] => some []
  | o :: r => match compOper P md N ops o, compAll P md N ops r with
    | some v, some l => some (v :: l)
    | _, _ => none
def number : List VOper → Nat → List (Nat × VOper)
  | [], _ => []
  | v :: r, i => (i, v) :: number r (i + 1)
def pickAll (vs : List VOper) : List Nat → Option (List (Nat × VOper))
  | [] => some []
  | i :: r => match vs[i]?, pickAll vs r with
    | some v, some l => some ((i, v) :: l)
    | _, _ => none
abbrev Ann := List (Nat × List Nat × List (Nat × Nat))
def Ann.find : Ann → Nat → Option (List Nat × List (Nat × Nat))
  | [], _ => none
  | (i, x) :: r, id => if i = id then some x else Ann.find r id
def compRegion (P : Program) (md : FuncId → Mode) (N : Nat) (ann : Ann) (id : Nat) (ops : Array Oper) (draw : Bool) : Option VRegion :=
  match compAll P md N ops ops.toList with
  | none => none
  | some vs =>
    if draw then
      match ann.find id with
      | some (order, pairs) => match pickAll vs order with
        | some l => if regionOk ops l pairs then some ⟨l, pairs, true⟩ else none
        | none => none
      | none => if regionOk ops (number vs 0) [] then some ⟨number vs 0, [], true⟩ else none
    else some ⟨number vs 0, [], false⟩
def comp (P : Program) (md : FuncId → Mode) (N : Nat) (ann : Ann) : Code → Option VCode
  | .skip => some .skip
  | .region id ops draw => (compRegion P md N ann id ops draw).map .region
  | .seq a b => match comp P md N ann a, comp P md N ann b with
    | some x, some y => some (.seq x y)
    | _, _ => none
  | .cond c x y => match resOpd c, comp P md N ann x, comp P md N ann y with
    | some c, some x, some y => some (.cond c x y)
    | _, _, _ => none
  | .block id b => (comp P md N ann b).map (.block id)
  | .loop b => (comp P md N ann b).map .loop
  | .exit id => some (.exit id)
  | .ret => some .ret
  | _ => none
def resVar (P : Program) : ResultVar → Option (Nat × Option (Option Nat))
  | .tmp t => some (t, none)
  | .cell t ty => (shapeN P ty).map fun n => (t, some n)
def resVars (P : Program) : List ResultVar → Option (List (Nat × Option (Option Nat)))
  | [] => some []
  | x :: r => match resVar P x, resVars P r with
    | some y, some l => some (y :: l)
    | _, _ => none
def compFunc (P : Program) (md : FuncId → Mode) (ann : Ann) (vars : List Nat) (fn : Func) : Option VFunc :=
  match fn.body with
  | none => none
  | some c => match comp P md fn.ntmps ann c, resVars P fn.results.toList with
    | some vc, some rs => if fn.name == "runtime.NumGoroutine" then none else some ⟨vars, vc, rs⟩
    | _, _ => none

def mdOf (l : List Nat) : FuncId → Mode := fun g => if l.contains g then .iso else .raw

def FsOk (P : Program) (fs : FuncId → Option VFunc) : Prop := ∀ f vf, fs f = some vf → ∃ fn md ann, P.funcs[f]? = some fn ∧ compFunc P md ann vf.vars fn = some vf

def exitOf : VExit → Exit
  | .normal => .normal
  | .exit id => .exit id
  | .ret => .ret

def ExecSound (P : Program) (ex : List Nat → VCode → Env → Store → Option Out) : Prop := ∀ (md : FuncId → Mode) (N : Nat) (ann : Ann) (vars : List Nat) (code : Code) (vc : VCode) (env : Env) (s : Store) (e : VExit) (env' : Env) (s' : Store),
  comp P md N ann code = some vc → ex vars vc env s = some (e, env', s') → s.next ≤ s'.next ∧
  ∀ (μ : Mu) (Φ : Phi) (a : Act) (w : World) (Q : Exit → Act → World → Prop), FrR N μ Φ env a → Sim μ Φ s.get w → Fresh μ s.next s'.next → Leaves' N μ Φ s w env' s' (Q (exitOf e)) → code.wp P Q a w

section
variable {P : Program} {fs : FuncId → Option VFunc}

theorem compAll_get {md : FuncId → Mode} {N : Nat} {ops : Array Oper} : ∀ {l : List Oper} {vs : List VOper}, compAll P md N ops l = some vs → vs.length = l.length ∧ ∀ (j : Nat) (o : Oper) (v : VOper), l[j]? = some o → vs[j]? = some v → compOper P md N ops o = some v
  | [], vs, h => by simp [compAll] at h; subst h; simp
  | o :: l, vs, h => by
    simp only [compAll] at h
    split at h
    · rename_i v l' h1 h2
      simp at h; subst h
      obtain ⟨g1, g2⟩ := compAll_get h2
      refine ⟨by simp [g1], ?_⟩
      intro j o' v' hj hv
      cases j with
      | zero => simp at hj hv; subst hj; subst hv; exact h1
      | succ j => exact g2 j o' v' (by simpa using hj) (by simpa using hv)
    · simp at h
theorem number_get : ∀ {vs : List VOper} {i : Nat}, (number vs i).length = vs.length ∧ ∀ (j : Nat) (x : Nat × VOper), (number vs i)[j]? = some x → x.1 = i + j ∧ vs[j]? = some x.2
  | [], i => by simp [number]
  | v :: vs, i => by
    obtain ⟨g1, g2⟩ := @number_get vs (i + 1)
    refine ⟨by simp [number, g1], ?_⟩
    intro j x hx
    cases j with
    | zero => simp [number] at hx; subst hx; simp
    | succ j =>
      simp [number] at hx
      have := g2 j x hx
      exact ⟨by omega, by simpa using this.2⟩
theorem pickAll_mem {vs : List VOper} : ∀ {l : List Nat} {r : List (Nat × VOper)}, pickAll vs l = some r → ∀ x ∈ r, vs[x.1]? = some x.2
  | [], r, h, x, hx => by simp [pickAll] at h; subst h; simp at hx
  | i :: l, r, h, x, hx => by
    simp only [pickAll] at h
    split at h
    · rename_i v l' h1 h2
      simp at h; subst h
      rcases List.mem_cons.1 hx with rfl | hx
      · exact h1
      · exact pickAll_mem h2 x hx
    · simp at h

theorem region_wp {C : CallF} (hC : CallSound P C) (hmix : P.follows .mixedOrders = true) {md : FuncId → Mode} {N : Nat} {ann : Ann} {id : Nat} {ops : Array Oper} {draw : Bool} {r : VRegion} (hc : compRegion P md N ann id ops draw = some r)
    {env env' : Env} {s s' : Store} (hrun : runOps C r.pairs r.ops [] env s = some (env', s')) : s.next ≤ s'.next ∧
    ∀ (μ : Mu) (Φ : Phi) (a : Act) (w : World) (Q : Exit → Act → World → Prop), FrR N μ Φ env a → Sim μ Φ s.get w → Fresh μ s.next s'.next → Leaves' N μ Φ s w env' s' (Q .normal) → (Code.region id ops draw).wp P Q a w := by
  unfold compRegion at hc
  split at hc
  · simp at hc
  · rename_i vs hvs
    obtain ⟨g1, g2⟩ := compAll_get hvs
    have hnum : ∀ x ∈ number vs 0, ∃ o, ops[x.1]? = some o ∧ compOper P md N ops o = some x.2 := by
      intro x hx
      obtain ⟨j, hj⟩ := List.getElem?_of_mem hx
      obtain ⟨e1, e2⟩ := number_get.2 j x hj
      have hlt : j < ops.toList.length := by rw [← g1]; exact (List.getElem?_eq_some_iff.1 e2).1
      have ho : ops.toList[j]? = some ops.toList[j] := List.getElem?_eq_getElem hlt
      refine ⟨ops.toList[j], ?_, g2 j _ _ ho e2⟩
      have : x.1 = j := by omega
      rw [this, ← Array.getElem?_toList]
      exact ho
    have hpick : ∀ {l : List Nat} {r : List (Nat × VOper)}, pickAll vs l = some r → ∀ x ∈ r, ∃ o, ops[x.1]? = some o ∧ compOper P md N ops o = some x.2 := by
      intro l r h x hx
      have e2 := pickAll_mem h x hx
      have hlt : x.1 < ops.toList.length := by rw [← g1]; exact (List.getElem?_eq_some_iff.1 e2).1
      have ho : ops.toList[x.1]? = some ops.toList[x.1] := List.getElem?_eq_getElem hlt
      exact ⟨_, by rw [← Array.getElem?_toList]; exact ho, g2 _ _ _ ho e2⟩
    have hall : ∀ {l : List (Nat × VOper)}, (∀ x ∈ l, ∃ o, ops[x.1]? = some o ∧ compOper P md N ops o = some x.2) → ∀ x ∈ l, ∃ o, compOper P md N ops o = some x.2 := fun h x hx => by
      obtain ⟨o, _, h2⟩ := h x hx
      exact ⟨o, h2⟩
    split at hc
    · rename_i hd
      subst hd
      split at hc
      · split at hc
        · rename_i l hl
          split at hc
          · rename_i hok
            simp at hc; subst hc
            exact ⟨runOps_next hC (hall (hpick hl)) hrun, fun μ Φ a w Q hf hs hfr hQ => draw_wp hC hmix hok (hpick hl) hrun hf hs hfr hQ id⟩
          · simp at hc
        · simp at hc
      · split at hc
        · rename_i hok
          simp at hc; subst hc
          exact ⟨runOps_next hC (hall hnum) hrun, fun μ Φ a w Q hf hs hfr hQ => draw_wp hC hmix hok hnum hrun hf hs hfr hQ id⟩
        · simp at hc
    · rename_i hd
      simp at hd
      subst hd
      simp at hc; subst hc
      refine ⟨runOps_next hC (hall hnum) hrun, fun μ Φ a w Q hf hs hfr hQ => wp_region_list (seq_wp hC (md := md) (vl := number vs 0) ?_ ?_ hrun hf hs hfr hQ)⟩
      · rw [number_get.1, g1]
      · intro j o x h1 h2
        exact g2 j o x.2 h1 (number_get.2 j x h2).2

/-! Results. -/
theorem run_results {env : Env} {s : Store} {μ : Mu} {Φ : Phi} {a : Act} {w : World} (he : EnvR μ Φ env a) (hs : Sim μ Φ s.get w) : ∀ {l : List ResultVar} {rs : List (Nat × Option (Option Nat))} {ds : List D}, resVars P l = some rs → resAll env s rs = some ds →
    ∃ vs : List Value, (l.mapM (fun | .tmp t => pure (a.tmps.getD t undef) | .cell t ty => do loadVar ty (← asAddr (a.tmps.getD t undef))) : Sem (List Value)).run P w = .ok vs w ∧ RL μ Φ ds vs
  | [], rs, ds, h1, h2 => by
    simp [resVars] at h1; subst h1
    simp [resAll] at h2; subst h2
    exact ⟨[], by simp, by simp [RL]⟩
  | x :: l, rs, ds, h1, h2 => by
    simp only [resVars] at h1
    split at h1
    · rename_i y l' hy hl
      simp at h1; subst h1
      simp only [resAll] at h2
      split at h2
      · rename_i d ds' hd hds
        simp at h2; subst h2
        obtain ⟨vs, g1, g2⟩ := run_results he hs hl hds
        cases x with
        | tmp t =>
          simp [resVar] at hy; subst hy
          simp only [resOne] at hd
          cases hd
          refine ⟨a.tmps.getD t undef :: vs, ?_, ?_⟩
          · rw [List.mapM_cons]
            simp only [Sem.run_bind, Sem.run_pure, Result.andThen_ok, g1]
          · simp only [RL]
            exact ⟨_, _, rfl, he t, g2⟩
        | cell t ty =>
          simp only [resVar] at hy
          obtain ⟨n, hn, e⟩ := map_some hy
          subst e
          simp only [resOne] at hd
          have ht := he t
          split at hd
          · rename_i id off hx
            rw [hx] at ht
            simp only [R] at ht
            obtain ⟨b, o, z, hm, e⟩ := ht
            split at hd
            · rename_i cs hg
              obtain ⟨b', o', z', m1, m2, _⟩ := hs.obj id _ hg
              rw [hm] at m1
              cases m1
              obtain ⟨us, u1, u2⟩ := m2.values
              obtain ⟨v, q1, q2⟩ := load_cells (P := P) hn hd u1 u2
              refine ⟨v :: vs, ?_, ?_⟩
              · rw [List.mapM_cons]
                have : (loadVar ty ⟨b, o + off, none⟩).run P w = .ok v w := by
                  simpa [Instr.loadAt, Instr.sureAddr] using q1
                have ha : (asAddr (a.tmps.getD t undef)).run P w = .ok ⟨b, o + off, none⟩ w := by rw [e]; rfl
                simp only [Sem.run_bind, ha, Sem.run_pure, Result.andThen_ok, this, g1]
              · simp only [RL]
                exact ⟨_, _, rfl, q2, g2⟩
            · simp at hd
          · simp at hd
      · simp at h2
    · simp at h1

theorem run_resOf {env : Env} {s : Store} {μ : Mu} {Φ : Phi} {a : Act} {w : World} (he : EnvR μ Φ env a) (hs : Sim μ Φ s.get w) {fn : Func} {rs : List (Nat × Option (Option Nat))} {d : D} (h1 : resVars P fn.results.toList = some rs) (h2 : resOf env s rs = some d) :
    ∃ v, (results fn a.tmps).run P w = .ok v w ∧ R μ Φ d v := by
  unfold resOf at h2
  have key : ∀ ds, resAll env s rs = some ds → ∃ vs : List Value, RL μ Φ ds vs ∧ (results fn a.tmps).run P w = .ok (if h : vs.toArray.size = 1 then vs.toArray[0] else .tuple vs.toArray) w := by
    intro ds hds
    obtain ⟨vs, g1, g2⟩ := run_results he hs h1 hds
    refine ⟨vs, g2, ?_⟩
    unfold results
    rw [Array.mapM_eq_mapM_toList]
    rw [Sem.run_bind, Sem.run_map]
    erw [g1]
    rfl
  split at h2
  · rename_i d0 hds
    cases h2
    obtain ⟨vs, g1, g2⟩ := key _ hds
    simp only [RL] at g1
    obtain ⟨u, us, rfl, r1, rfl⟩ := g1
    exact ⟨u, by simpa using g2, r1⟩
  · rename_i l hne hds
    cases h2
    obtain ⟨vs, g1, g2⟩ := key _ hds
    have hl := RL_length g1
    have hlen : ¬ vs.toArray.size = 1 := by
      simp
      intro e
      rw [e] at hl
      match l, hl with
      | [x], _ => exact hne x rfl
    rw [dif_neg hlen] at g2
    exact ⟨.tuple vs.toArray, g2, by simp only [R]; exact ⟨vs, rfl, g1⟩⟩
  · simp at h2

theorem env_enter {μ : Mu} {Φ : Phi} {args : List D} {vs : List Value} (h : RL μ Φ args vs) (n : Nat) (vars : List Nat) : EnvR μ Φ (vars.map fun t => (t, args.getD t .undef)) { tmps := vs.toArray ++ Array.replicate n undef, defers := [] } := by
  intro t
  induction vars with
  | nil => simp [Env.get, R]
  | cons x l ih =>
    simp only [List.map_cons, Env.get]
    by_cases e : x = t
    · subst e
      simp only [if_true]
      cases hx : args[x]? with
      | none => simp [List.getD_eq_getElem?_getD, hx, R]
      | some d =>
        obtain ⟨u, h1, h2⟩ := RL_get h hx
        have hlt : x < vs.length := (List.getElem?_eq_some_iff.1 h1).1
        simp only [List.getD_eq_getElem?_getD, hx, Option.getD_some, Array.getD_eq_getD_getElem?]
        rw [Array.getElem?_append_left (by simpa using hlt)]
        simp [h1]
        exact h2
    · simp only [e, if_false]
      exact ih

theorem call_sound (hfs : FsOk P fs) {ex : List Nat → VCode → Env → Store → Option Out} (hex : ExecSound P ex) : CallSound P (callWith fs ex) := by
  intro f args s d s' h
  unfold callWith at h
  split at h
  · simp at h
  · rename_i vf hvf
    obtain ⟨fn, md, ann, hfn, hcf⟩ := hfs f vf hvf
    unfold compFunc at hcf
    split at hcf
    · simp at hcf
    · rename_i c hbody
      split at hcf
      · rename_i vc rs hvc hrs
        split at hcf
        · simp at hcf
        · rename_i hname
          simp at hcf
          have hvc2 : vf.code = vc := by rw [← hcf]
          have hrs2 : vf.res = rs := by rw [← hcf]
          have done : ∀ e env' s1, ex vf.vars vf.code (vf.vars.map fun t => (t, args.getD t .undef)) s = some (e, env', s1) → (e = .normal ∨ e = .ret) → (resOf env' s1 vf.res).map (fun d => (d, s1)) = some (d, s') →
              s.next ≤ s'.next ∧ (∃ fn, P.funcs[f]? = some fn ∧ fn.body.isSome = true ∧ (fn.name == "runtime.NumGoroutine") = false) ∧
              ∀ μ Φ w vs, Sim μ Φ s.get w → RL μ Φ args vs → Fresh μ s.next s'.next →
                Calls P f vs.toArray w fun e w' => ∃ v μ' Φ', e = .returned v ∧ Sim μ' Φ' s'.get w' ∧ R μ' Φ' d v ∧ Evo μ Φ s.get w μ' Φ' s'.get w' s.next s'.next := by
            intro e env' s1 hx hcase hres
            obtain ⟨d', hd', e1⟩ := map_some hres
            cases e1
            rw [hvc2] at hx
            rw [hrs2] at hd'
            obtain ⟨g1, g2⟩ := hex md fn.ntmps ann vf.vars c vc _ s e env' s' hvc hx
            refine ⟨g1, ⟨fn, hfn, by rw [hbody]; rfl, by simpa using hname⟩, ?_⟩
            intro μ Φ w vs hs hr hfr
            refine calls_of_wp hfn hbody ?_
            refine g2 μ Φ _ w _ ⟨env_enter hr _ vf.vars, by simp; omega, rfl⟩ hs hfr ?_
            intro a' w' μ' Φ' q1 q2 q3
            obtain ⟨v, r1, r2⟩ := run_resOf q1.env q2 hrs hd'
            rcases hcase with rfl | rfl
            · exact ⟨q1.defers, v, r1, v, μ', Φ', rfl, q2, r2, q3⟩
            · exact ⟨q1.defers, v, r1, v, μ', Φ', rfl, q2, r2, q3⟩
          split at h
          · rename_i env' s1 hx
            exact done .normal env' s1 hx (.inl rfl) h
          · rename_i env' s1 hx
            exact done .ret env' s1 hx (.inr rfl) h
          · simp at h
      · simp at hcf

/-! Code. -/
def LoopSound (P : Program) (fs : FuncId → Option VFunc) (n : Nat) : Prop := ∀ (md : FuncId → Mode) (N : Nat) (ann : Ann) (vars : List Nat) (code : Code) (vc : VCode) (env : Env) (s : Store) (e : VExit) (env' : Env) (s' : Store),
  comp P md N ann code = some vc → vexec fs n vars (.loop vc) env s = some (e, env', s') → s.next ≤ s'.next ∧
  ∃ k, ∀ (μ : Mu) (Φ : Phi) (a : Act) (w : World) (Q : Exit → Act → World → Prop), FrR N μ Φ env a → Sim μ Φ s.get w → Fresh μ s.next s'.next → Leaves' N μ Φ s w env' s' (Q (exitOf e)) → Code.rounds P code Q k a w

theorem exec_sound (hfs : FsOk P fs) (hmix : P.follows .mixedOrders = true) : ∀ n, ExecSound P (vexec fs n) ∧ LoopSound P fs n := by
  intro n
  induction n with
  | zero => exact ⟨fun _ _ _ _ _ _ _ _ _ _ _ _ h => by simp [vexec] at h, fun _ _ _ _ _ _ _ _ _ _ _ _ h => by simp [vexec] at h⟩
  | succ n ih =>
    obtain ⟨ih1, ih2⟩ := ih
    have hloop : LoopSound P fs (n + 1) := by
      intro md N ann vars code vc env s e env' s' hc h
      simp only [vexec] at h
      split at h
      · rename_i env1 s1 h1
        obtain ⟨g1, g2⟩ := ih1 md N ann vars code vc env s .normal env1 s1 hc h1
        obtain ⟨g3, k, g4⟩ := ih2 md N ann vars code vc env1 s1 e env' s' hc h
        refine ⟨by omega, k + 1, ?_⟩
        intro μ Φ a w Q hf hs hfr hQ
        rw [rounds_succ]
        refine g2 μ Φ a w _ hf hs (fun id q1 q2 => hfr id q1 (by omega)) ?_
        intro a1 w1 μ1 Φ1 q1 q2 q3
        refine g4 μ1 Φ1 a1 w1 Q q1 q2 (fun id r1 r2 => by rw [q3.muOut id (.inr r1)]; exact hfr id (by omega) r2) ?_
        intro a2 w2 μ2 Φ2 r1 r2 r3
        exact hQ a2 w2 μ2 Φ2 r1 r2 (q3.trans g1 g3 r3)
      · rename_i hne
        obtain ⟨g1, g2⟩ := ih1 md N ann vars code vc env s e env' s' hc h
        refine ⟨g1, 1, ?_⟩
        intro μ Φ a w Q hf hs hfr hQ
        rw [rounds_succ]
        refine g2 μ Φ a w _ hf hs hfr ?_
        intro a1 w1 μ1 Φ1 q1 q2 q3
        have := hQ a1 w1 μ1 Φ1 q1 q2 q3
        cases e with
        | normal => exact absurd h (hne env' s')
        | exit id => exact this
        | ret => exact this
    refine ⟨?_, hloop⟩
    intro md N ann vars code vc env s e env' s' hc h
    cases code <;> simp only [comp] at hc
    case skip =>
      cases hc
      simp only [vexec] at h
      cases h
      exact ⟨Nat.le_refl _, fun μ Φ a w Q hf hs _ hQ => wp_skip (hQ a w μ Φ hf hs (Evo.refl _ _ _ _ _))⟩
    case region id ops draw =>
      obtain ⟨r, hr, e1⟩ := map_some hc
      cases e1
      simp only [vexec] at h
      split at h
      · rename_i env1 s1 h1
        cases h
        obtain ⟨g1, g2⟩ := region_wp (call_sound hfs ih1) hmix hr h1
        refine ⟨g1, fun μ Φ a w Q hf hs hfr hQ => g2 μ Φ a w Q hf hs hfr ?_⟩
        intro a1 w1 μ1 Φ1 q1 q2 q3
        exact hQ a1 w1 μ1 Φ1 (q1.keep vars) q2 q3
      · simp at h
    case seq x y =>
      split at hc
      · rename_i vx vy hx hy
        cases hc
        simp only [vexec] at h
        split at h
        · rename_i env1 s1 h1
          obtain ⟨g1, g2⟩ := ih1 md N ann vars x vx env s .normal env1 s1 hx h1
          obtain ⟨g3, g4⟩ := ih1 md N ann vars y vy env1 s1 e env' s' hy h
          refine ⟨by omega, ?_⟩
          intro μ Φ a w Q hf hs hfr hQ
          refine wp_seq (g2 μ Φ a w _ hf hs (fun id q1 q2 => hfr id q1 (by omega)) ?_)
          intro a1 w1 μ1 Φ1 q1 q2 q3
          refine g4 μ1 Φ1 a1 w1 Q q1 q2 (fun id r1 r2 => by rw [q3.muOut id (.inr r1)]; exact hfr id (by omega) r2) ?_
          intro a2 w2 μ2 Φ2 r1 r2 r3
          exact hQ a2 w2 μ2 Φ2 r1 r2 (q3.trans g1 g3 r3)
        · rename_i hne
          obtain ⟨g1, g2⟩ := ih1 md N ann vars x vx env s e env' s' hx h
          refine ⟨g1, ?_⟩
          intro μ Φ a w Q hf hs hfr hQ
          refine wp_seq (g2 μ Φ a w _ hf hs hfr ?_)
          intro a1 w1 μ1 Φ1 q1 q2 q3
          have := hQ a1 w1 μ1 Φ1 q1 q2 q3
          cases e with
          | normal => exact absurd h (hne env' s')
          | exit id => exact this
          | ret => exact this
      · simp at hc
    case cond c x y =>
      split at hc
      · rename_i vc' vx vy hcc hx hy
        cases hc
        simp only [vexec] at h
        split at h
        · rename_i ht
          obtain ⟨g1, g2⟩ := ih1 md N ann vars x vx env s e env' s' hx h
          refine ⟨g1, fun μ Φ a w Q hf hs hfr hQ => ?_⟩
          have hr := opd_ok hf.env hcc
          rw [ht] at hr
          simp only [R] at hr
          exact wp_cond_true hr (g2 μ Φ a w Q hf hs hfr hQ)
        · rename_i ht
          obtain ⟨g1, g2⟩ := ih1 md N ann vars y vy env s e env' s' hy h
          refine ⟨g1, fun μ Φ a w Q hf hs hfr hQ => ?_⟩
          have hr := opd_ok hf.env hcc
          rw [ht] at hr
          simp only [R] at hr
          exact wp_cond_false hr (g2 μ Φ a w Q hf hs hfr hQ)
        · simp at h
      · simp at hc
    case block id b =>
      obtain ⟨vb, hb, e1⟩ := map_some hc
      cases e1
      simp only [vexec] at h
      split at h
      · rename_i id' env1 s1 h1
        obtain ⟨g1, g2⟩ := ih1 md N ann vars b vb env s (.exit id') env1 s1 hb h1
        split at h
        · rename_i hid
          cases h
          refine ⟨g1, fun μ Φ a w Q hf hs hfr hQ => wp_block (g2 μ Φ a w _ hf hs hfr ?_)⟩
          intro a1 w1 μ1 Φ1 q1 q2 q3
          have := hQ a1 w1 μ1 Φ1 q1 q2 q3
          simp only [exitOf, Exit.inBlock, hid, if_true]
          exact this
        · rename_i hid
          cases h
          refine ⟨g1, fun μ Φ a w Q hf hs hfr hQ => wp_block (g2 μ Φ a w _ hf hs hfr ?_)⟩
          intro a1 w1 μ1 Φ1 q1 q2 q3
          have := hQ a1 w1 μ1 Φ1 q1 q2 q3
          simp only [exitOf, Exit.inBlock, hid, if_false]
          exact this
      · rename_i hne
        obtain ⟨g1, g2⟩ := ih1 md N ann vars b vb env s e env' s' hb h
        refine ⟨g1, fun μ Φ a w Q hf hs hfr hQ => wp_block (g2 μ Φ a w _ hf hs hfr ?_)⟩
        intro a1 w1 μ1 Φ1 q1 q2 q3
        have := hQ a1 w1 μ1 Φ1 q1 q2 q3
        cases e with
        | normal => exact this
        | exit id' => exact absurd h (hne id' env' s')
        | ret => exact this
    case loop b =>
      obtain ⟨vb, hb, e1⟩ := map_some hc
      cases e1
      obtain ⟨g1, k, g2⟩ := hloop md N ann vars b vb env s e env' s' hb h
      exact ⟨g1, fun μ Φ a w Q hf hs hfr hQ => wp_loop_rounds k (g2 μ Φ a w Q hf hs hfr hQ)⟩
    case exit id =>
      cases hc
      simp only [vexec] at h
      cases h
      exact ⟨Nat.le_refl _, fun μ Φ a w Q hf hs _ hQ => wp_exit (hQ a w μ Φ hf hs (Evo.refl _ _ _ _ _))⟩
    case ret =>
      cases hc
      simp only [vexec] at h
      cases h
      exact ⟨Nat.le_refl _, fun μ Φ a w Q hf hs _ hQ => wp_ret (hQ a w μ Φ hf hs (Evo.refl _ _ _ _ _))⟩
    all_goals (cases hc; done)

/-- A call of the V machine with plain arguments and an empty store that answers a scalar: so does the model's, in whatever world the arguments read so, and nothing that was there has turned. -/
theorem vcall_sound (hfs : FsOk P fs) (hmix : P.follows .mixedOrders = true) {n f : Nat} {args : List D} {d : D} {s' : Store} (h : vcall fs n f args Store.empty = some (d, s')) {w : World} {vs : List Value} (hr : RPL (fun b => w.heap[b]?) args vs) :
    Calls P f vs.toArray w fun e w' => ∃ v μ' Φ', e = .returned v ∧ R μ' Φ' d v ∧ RowKit.Below w.heap.size w w' := by
  obtain ⟨_, _, h2⟩ := call_sound hfs (exec_sound hfs hmix n).1 f args Store.empty d s' h
  refine (h2 (fun _ => none) (fun b => w.heap[b]?) w vs (sim_empty fun _ _ e => e) (RL_of_RPL _ _ hr) (fun _ _ _ => rfl)).mono ?_
  rintro e w' ⟨v, μ', Φ', rfl, q1, q2, q3⟩
  exact ⟨v, μ', Φ', rfl, q2, q3.os, q3.tape, q3.output, q3.size, fun k hk => q3.keep k hk (not_owned_empty k)⟩
end
end Go.V
