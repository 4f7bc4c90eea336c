/- Texts one behind the other. -/
import Derived.Test.YtlaeblilmppodaaZ1
set_option linter.unusedSimpArgs false
set_option linter.unusedVariables false
namespace Go.V
def CallF.le (C C' : CallF) : Prop := ∀ f a s r, C f a s = some r → C' f a s = some r
theorem callV_mono {C C' : CallF} (h : C.le C') {md f args s r} (e : callV C md f args s = some r) : callV C' md f args s = some r := by
  unfold callV at *
  split at e
  · split at e
    · exact h _ _ _ _ e
    · split at e
      · cases e
      · rename_i args' ha
        split at e
        · cases e
        · rename_i r' s1 hc
          simp only [ha, h _ _ _ _ hc]
          exact e
  · cases e
theorem evM_mono {C C' : CallF} (h : C.le C') {env s o r} (e : evM C env s o = some r) : evM C' env s o = some r := by
  cases o <;> simp only [evM] at * <;> first | exact callV_mono h e | exact e
theorem runOp_mono {C C' : CallF} (h : C.le C') {env s o r} (e : runOp C env s o = some r) : runOp C' env s o = some r := by
  cases o <;> simp only [runOp] at * <;> first | exact evM_mono h e | exact e
theorem runOps_mono {C C' : CallF} (h : C.le C') {pairs} : ∀ {ops tr env s r}, runOps C pairs ops tr env s = some r → runOps C' pairs ops tr env s = some r
  | [], tr, env, s, r, e => by simpa only [runOps] using e
  | (i, o) :: rest, tr, env, s, r, e => by
    simp only [runOps] at e ⊢
    split at e
    · cases e
    · rename_i hw
      try simp only [hw]
      exact runOps_mono h e
    · rename_i hw
      try simp only [hw]
      split at e
      · cases e
      · rename_i d s' hr
        simp only [runOp_mono h hr]
        split at e
        · rename_i hp
          rw [if_pos hp]
          exact runOps_mono h e
        · cases e
theorem callWith_mono {fs} {ex ex' : List Nat → VCode → Env → Store → Option Out} (h : ∀ v c e s r, ex v c e s = some r → ex' v c e s = some r) : CallF.le (callWith fs ex) (callWith fs ex') := by
  intro f a s r e
  unfold callWith at *
  split at e
  · cases e
  · rename_i vf hf
    try simp only [hf]
    split at e
    · rename_i env' s' hx
      rw [h _ _ _ _ _ hx]
      exact e
    · rename_i env' s' hx
      rw [h _ _ _ _ _ hx]
      exact e
    · cases e
theorem vexec_succ {fs} : ∀ n v c e s r, vexec fs n v c e s = some r → vexec fs (n + 1) v c e s = some r := by
  intro n
  induction n with
  | zero => intro v c e s r h; simp [vexec] at h
  | succ n ih =>
    intro v c e s r h
    cases c with
    | skip => simpa only [vexec] using h
    | region rg =>
      rw [vexec] at h ⊢
      split at h
      · rename_i e' s' hr
        rw [runOps_mono (callWith_mono ih) hr]
        exact h
      · cases h
    | seq a b =>
      rw [vexec] at h ⊢
      split at h
      · rename_i e' s' ha
        rw [ih _ _ _ _ _ ha]
        exact ih _ _ _ _ _ h
      · rename_i hne
        rw [ih _ _ _ _ _ h]
        split
        · rename_i e' s' hr
          cases hr
          exact absurd h (hne _ _)
        · rfl
    | cond c x y =>
      rw [vexec] at h ⊢
      split at h
      · rename_i hc; exact ih _ _ _ _ _ h
      · rename_i hc; exact ih _ _ _ _ _ h
      · cases h
    | block id b =>
      rw [vexec] at h ⊢
      split at h
      · rename_i id' e' s' hb
        rw [ih _ _ _ _ _ hb]
        exact h
      · rename_i hne
        rw [ih _ _ _ _ _ h]
        split
        · rename_i id' e' s' hr
          cases hr
          exact absurd h (hne _ _ _)
        · rfl
    | loop b =>
      rw [vexec] at h ⊢
      split at h
      · rename_i e' s' ha
        rw [ih _ _ _ _ _ ha]
        exact ih _ _ _ _ _ h
      · rename_i hne
        rw [ih _ _ _ _ _ h]
        split
        · rename_i e' s' hr
          cases hr
          exact absurd h (hne _ _)
        · rfl
    | exit id => simpa only [vexec] using h
    | ret => simpa only [vexec] using h
theorem vexec_mono {fs} {n m : Nat} (hnm : n ≤ m) {v c e s r} (h : vexec fs n v c e s = some r) : vexec fs m v c e s = some r := by
  induction hnm with
  | refl => exact h
  | step _ ih => exact vexec_succ _ _ _ _ _ _ ih
variable {fs : FuncId → Option VFunc}
def Ev (fs : FuncId → Option VFunc) (f : FuncId) (args : List D) (s : Store) (d : D) (s' : Store) : Prop := ∃ n, vcall fs n f args s = some (d, s')
def WP (fs : FuncId → Option VFunc) (vars : List Nat) (c : VCode) (env : Env) (s : Store) (Q : VExit → Env → Store → Prop) : Prop := ∃ n e env' s', vexec fs n vars c env s = some (e, env', s') ∧ Q e env' s'
def WO (fs : FuncId → Option VFunc) (pairs : List (Nat × Nat)) (ops : List (Nat × VOper)) (tr : List Tr) (env : Env) (s : Store) (Q : Env → Store → Prop) : Prop :=
  ∃ n env' s', runOps (callWith fs (vexec fs n)) pairs ops tr env s = some (env', s') ∧ Q env' s'
theorem vw_skip {vars env s Q} (h : Q .normal env s) : WP fs vars .skip env s Q := ⟨1, _, _, _, rfl, h⟩
theorem vw_exit {vars env s id} {Q : VExit → Env → Store → Prop} (h : Q (.exit id) env s) : WP fs vars (.exit id) env s Q := ⟨1, _, _, _, rfl, h⟩
theorem vw_ret {vars env s} {Q : VExit → Env → Store → Prop} (h : Q .ret env s) : WP fs vars .ret env s Q := ⟨1, _, _, _, rfl, h⟩
theorem vw_region {vars r env s Q} (h : WO fs r.pairs r.ops [] env s fun env' s' => Q .normal (env'.keep vars) s') : WP fs vars (.region r) env s Q := by
  obtain ⟨n, env', s', h1, h2⟩ := h
  exact ⟨n + 1, _, _, _, by rw [vexec, h1], h2⟩
def Then (fs : FuncId → Option VFunc) (vars : List Nat) (b : VCode) (Q : VExit → Env → Store → Prop) : VExit → Env → Store → Prop
  | .normal, env, s => WP fs vars b env s Q
  | e, env, s => Q e env s
theorem vw_seq {vars a b env s Q} (h : WP fs vars a env s (Then fs vars b Q)) : WP fs vars (.seq a b) env s Q := by
  obtain ⟨n, e, env', s', h1, h2⟩ := h
  cases e with
  | normal =>
    obtain ⟨m, e2, env2, s2, h3, h4⟩ := h2
    exact ⟨max n m + 1, e2, env2, s2, by rw [vexec, vexec_mono (Nat.le_max_left n m) h1]; exact vexec_mono (Nat.le_max_right n m) h3, h4⟩
  | exit id => exact ⟨n + 1, _, _, _, by rw [vexec, h1], h2⟩
  | ret => exact ⟨n + 1, _, _, _, by rw [vexec, h1], h2⟩
theorem vw_cond {vars c x y env s Q} (b : Bool) (hc : env.ev c = .bool b) (h : WP fs vars (if b then x else y) env s Q) : WP fs vars (.cond c x y) env s Q := by
  obtain ⟨n, e, env', s', h1, h2⟩ := h
  refine ⟨n + 1, e, env', s', ?_, h2⟩
  rw [vexec, hc]
  cases b <;> simpa using h1
def Out' (id : Nat) (Q : VExit → Env → Store → Prop) : VExit → Env → Store → Prop
  | .exit id', env, s => if id' = id then Q .normal env s else Q (.exit id') env s
  | e, env, s => Q e env s
theorem vw_block {vars id b env s Q} (h : WP fs vars b env s (Out' id Q)) : WP fs vars (.block id b) env s Q := by
  obtain ⟨n, e, env', s', h1, h2⟩ := h
  cases e with
  | normal => exact ⟨n + 1, _, _, _, by rw [vexec, h1], h2⟩
  | ret => exact ⟨n + 1, _, _, _, by rw [vexec, h1], h2⟩
  | exit i =>
    simp only [Out'] at h2
    by_cases hi : i = id
    · rw [if_pos hi] at h2
      exact ⟨n + 1, _, _, _, by rw [vexec, h1]; simp only [hi, if_true], h2⟩
    · rw [if_neg hi] at h2
      exact ⟨n + 1, _, _, _, by rw [vexec, h1]; simp only [hi, if_false], h2⟩
theorem vw_loop {vars b env s Q} (h : WP fs vars b env s (Then fs vars (.loop b) Q)) : WP fs vars (.loop b) env s Q := by
  obtain ⟨n, e, env', s', h1, h2⟩ := h
  cases e with
  | normal =>
    obtain ⟨m, e2, env2, s2, h3, h4⟩ := h2
    exact ⟨max n m + 1, e2, env2, s2, by rw [vexec, vexec_mono (Nat.le_max_left n m) h1]; exact vexec_mono (Nat.le_max_right n m) h3, h4⟩
  | exit id => exact ⟨n + 1, _, _, _, by rw [vexec, h1], h2⟩
  | ret => exact ⟨n + 1, _, _, _, by rw [vexec, h1], h2⟩
theorem WP.mono {vars c env s} {Q Q' : VExit → Env → Store → Prop} (h : WP fs vars c env s Q) (hq : ∀ e env' s', Q e env' s' → Q' e env' s') : WP fs vars c env s Q' := by
  obtain ⟨n, e, env', s', h1, h2⟩ := h
  exact ⟨n, e, env', s', h1, hq _ _ _ h2⟩
theorem vw_loop_inv {vars b Q} (I : Nat → Env → Store → Prop) (step : ∀ n env s, I n env s → WP fs vars b env s fun e env' s' => match e with
    | .normal => ∃ m, m < n ∧ I m env' s'
    | e => Q e env' s') : ∀ n env s, I n env s → WP fs vars (.loop b) env s Q := by
  intro n
  induction n using Nat.strongRecOn with
  | _ n ih =>
    intro env s h
    refine vw_loop ((step n env s h).mono fun e env' s' hq => ?_)
    cases e with
    | normal => obtain ⟨m, hm, hi⟩ := hq; exact ih m hm env' s' hi
    | exit id => exact hq
    | ret => exact hq
theorem vo_nil {pairs tr env s Q} (h : Q env s) : WO fs pairs [] tr env s Q := ⟨0, _, _, rfl, h⟩
theorem vo_skip {pairs i o rest tr env s Q} (hw : wantV env o.guard = some false) (h : WO fs pairs rest tr (env.put o.dst (.tup [])) s Q) : WO fs pairs ((i, o) :: rest) tr env s Q := by
  obtain ⟨n, env', s', h1, h2⟩ := h
  exact ⟨n, env', s', by simp only [runOps, hw]; exact h1, h2⟩
def Quiet (tr : List Tr) : Prop := ∀ t ∈ tr, t.pre = t.post
theorem stable_refl (s : Store) (r : Option Nat) : stable s s r = true := by
  cases r with
  | none => rfl
  | some id => simp only [stable]; exact beqO_self _
theorem pairsOk_quiet {pairs : List (Nat × Nat)} {j : Tr} (hj : j.pre = j.post) : ∀ {tr : List Tr}, Quiet tr → pairsOk pairs j tr = true
  | [], _ => rfl
  | i :: r, h => by
    have hi := h i (by simp)
    simp only [pairsOk, hj, hi, stable_refl, Bool.and_true, ite_self, Bool.true_and]
    exact pairsOk_quiet hj fun t ht => h t (by simp [ht])
theorem pairsOk_none {j : Tr} : ∀ {tr : List Tr}, pairsOk [] j tr = true
  | [] => rfl
  | i :: r => by simp only [pairsOk, List.contains_nil, Bool.false_eq_true, if_false, Bool.true_and]; exact pairsOk_none
theorem quiet_nil : Quiet [] := by simp [Quiet]
theorem quiet_cons {pairs : List (Nat × Nat)} {tr : List Tr} {t : Tr} (h : Quiet tr) (ht : t.pre = t.post) : Quiet (if pairs.isEmpty then tr else t :: tr) := by
  split
  · exact h
  · intro x hx
    rcases List.mem_cons.1 hx with rfl | hx
    · exact ht
    · exact h x hx
def WQ (fs : FuncId → Option VFunc) (pairs : List (Nat × Nat)) (ops : List (Nat × VOper)) (env : Env) (s : Store) (Q : Env → Store → Prop) : Prop := ∀ tr, Quiet tr → WO fs pairs ops tr env s Q
theorem vw_regionq {vars r env s Q} (h : WQ fs r.pairs r.ops env s fun env' s' => Q .normal (env'.keep vars) s') : WP fs vars (.region r) env s Q := vw_region (h [] quiet_nil)
theorem vq_nil {pairs env s Q} (h : Q env s) : WQ fs pairs [] env s Q := fun _ _ => vo_nil h
theorem vq_skip {pairs i o rest env s Q} (hw : wantV env o.guard = some false) (h : WQ fs pairs rest (env.put o.dst (.tup [])) s Q) : WQ fs pairs ((i, o) :: rest) env s Q :=
  fun tr ht => vo_skip hw (h tr ht)
theorem vo_op {pairs i o rest tr env s Q} (hw : wantV env o.guard = some true) {d s'} (m : Nat) (hr : runOp (callWith fs (vexec fs m)) env s o.op = some (d, s')) (hp : pairsOk pairs ⟨i, rdOf env o.op, s, s'⟩ tr = true)
    (h : WO fs pairs rest (if pairs.isEmpty then tr else ⟨i, rdOf env o.op, s, s'⟩ :: tr) (env.put o.dst d) s' Q) : WO fs pairs ((i, o) :: rest) tr env s Q := by
  obtain ⟨n, env', s2, h1, h2⟩ := h
  have m1 : CallF.le (callWith fs (vexec fs m)) (callWith fs (vexec fs (max m n))) := callWith_mono fun v c e s r h => vexec_mono (Nat.le_max_left m n) h
  have m2 : CallF.le (callWith fs (vexec fs n)) (callWith fs (vexec fs (max m n))) := callWith_mono fun v c e s r h => vexec_mono (Nat.le_max_right m n) h
  refine ⟨max m n, env', s2, ?_, h2⟩
  simp only [runOps, hw, runOp_mono m1 hr, hp, if_true]
  exact runOps_mono m2 h1
theorem vq_op {pairs i o rest env s Q} (hw : wantV env o.guard = some true) {d} (m : Nat) (hr : runOp (callWith fs (vexec fs m)) env s o.op = some (d, s))
    (h : WQ fs pairs rest (env.put o.dst d) s Q) : WQ fs pairs ((i, o) :: rest) env s Q :=
  fun tr ht => vo_op hw m hr (pairsOk_quiet rfl ht) (h _ (quiet_cons ht rfl))
theorem vw_rg {vars ops pairs dr env s Q} (h : WQ fs pairs ops env s fun env' s' => Q .normal (env'.keep vars) s') : WP fs vars (.region ⟨ops, pairs, dr⟩) env s Q := vw_regionq h
theorem vq_p {pairs i t o rest s Q} {env : Env} {d : D} (hr : evP env o = some d) (h : WQ fs pairs rest ((t, d) :: env) s Q) : WQ fs pairs ((i, ⟨some t, .p o, none⟩) :: rest) env s Q :=
  vq_op rfl 0 (by simp only [runOp, hr, Option.map_some]) h
theorem vq_r {pairs i t o rest s Q} {env : Env} {d : D} (hr : evR env s.get o = some d) (h : WQ fs pairs rest ((t, d) :: env) s Q) : WQ fs pairs ((i, ⟨some t, .r o, none⟩) :: rest) env s Q :=
  vq_op rfl 0 (by simp only [runOp, hr, Option.map_some]) h
theorem vq_yes {pairs i t o r b rest s Q} {env : Env} (hw : env.get r = .bool b) (h : WQ fs pairs ((i, ⟨t, o, none⟩) :: rest) env s Q) : WQ fs pairs ((i, ⟨t, o, some (r, b)⟩) :: rest) env s Q := by
  intro tr ht
  obtain ⟨n, env', s', h1, h2⟩ := h tr ht
  refine ⟨n, env', s', ?_, h2⟩
  simp only [runOps, wantV, hw, beq_self_eq_true] at h1 ⊢
  exact h1
theorem vq_not {pairs i t o r b rest s Q} {env : Env} (hw : env.get r = .bool (!b)) (h : WQ fs pairs rest (env.put t (.tup [])) s Q) : WQ fs pairs ((i, ⟨t, o, some (r, b)⟩) :: rest) env s Q :=
  vq_skip (by simp only [wantV, hw]; cases b <;> rfl) h
theorem vq_tup {pairs i t o r b rest s Q} {env : Env} (hw : env.get r = .tup []) (h : WQ fs pairs rest (env.put t (.tup [])) s Q) : WQ fs pairs ((i, ⟨t, o, some (r, b)⟩) :: rest) env s Q :=
  vq_skip (by simp only [wantV, hw]) h
theorem vq_call {pairs i t f args rest s Q} {env : Env} {d : D} (hr : Ev fs f (env.evL args) s d s)
    (h : WQ fs pairs rest ((t, d) :: env) s Q) : WQ fs pairs ((i, ⟨some t, .m (.call .raw (.cst (.fn f [])) args), none⟩) :: rest) env s Q := by
  obtain ⟨n, hn⟩ := hr
  exact vq_op rfl n (by simp only [runOp, evM, callV, Env.ev, List.append_nil]; exact hn) h
theorem vq_callv {pairs i t fo args rest s Q} {env : Env} {f : FuncId} {caps : List D} {d : D} (hf : env.ev fo = .fn f caps) (hr : Ev fs f (env.evL args ++ caps) s d s)
    (h : WQ fs pairs rest ((t, d) :: env) s Q) : WQ fs pairs ((i, ⟨some t, .m (.call .raw fo args), none⟩) :: rest) env s Q := by
  obtain ⟨n, hn⟩ := hr
  exact vq_op rfl n (by simp only [runOp, evM, callV, hf]; exact hn) h
theorem vq_iso {pairs i t f args rest s Q} {env : Env} {args' : List D} {d r : D} {s1 : Store} (ha : mapO (ice s.get 20) (env.evL args) = some args')
    (hr : Ev fs f args' Store.empty r s1) (hi : ice s1.get 20 r = some d) (hs : (scalarD d || pureL (env.evL args)) = true)
    (h : WQ fs pairs rest ((t, d) :: env) s Q) : WQ fs pairs ((i, ⟨some t, .m (.call .iso (.cst (.fn f [])) args), none⟩) :: rest) env s Q := by
  obtain ⟨n, hn⟩ := hr
  refine vq_op rfl n ?_ h
  have hn' : callWith fs (vexec fs n) f args' Store.empty = some (r, s1) := hn
  simp only [runOp, evM, callV, Env.ev, List.append_nil, ha, hn', hi, hs, if_true]
theorem vq_a {i t o rest s Q} {env : Env} {ob : VObj} {m : Made} (hr : evA env o = some (ob, m)) (h : WQ fs [] rest ((t, m.at s.next) :: env) (s.push ob) Q) : WQ fs [] ((i, ⟨some t, .a o, none⟩) :: rest) env s Q := by
  intro tr ht
  refine vo_op rfl 0 (d := m.at s.next) (s' := s.push ob) (by simp only [runOp, hr]) ?_ (h tr ht)
  exact pairsOk_none
theorem vq_w {i n a v rest s Q} {env : Env} {id : Nat} {ob : VObj} (hr : evW env s.get n a v = some (id, ob)) (h : WQ fs [] rest env (s.set id (some ob)) Q) : WQ fs [] ((i, ⟨none, .w n a v, none⟩) :: rest) env s Q := by
  intro tr ht
  refine vo_op rfl 0 (d := .tup []) (s' := s.set id (some ob)) (by simp only [runOp, hr]) ?_ (h tr ht)
  exact pairsOk_none
theorem vq_m {i t o rest s Q} {env : Env} {d : D} {s' : Store} (hr : ∃ n, evM (callWith fs (vexec fs n)) env s o = some (d, s')) (h : WQ fs [] rest ((t, d) :: env) s' Q) : WQ fs [] ((i, ⟨some t, .m o, none⟩) :: rest) env s Q := by
  intro tr ht
  obtain ⟨n, hn⟩ := hr
  refine vo_op rfl n (d := d) (s' := s') (by simp only [runOp, hn]) ?_ (h tr ht)
  exact pairsOk_none
theorem vq_callw {i t f args rest s Q} {env : Env} {d : D} {s' : Store} (hr : Ev fs f (env.evL args) s d s')
    (h : WQ fs [] rest ((t, d) :: env) s' Q) : WQ fs [] ((i, ⟨some t, .m (.call .raw (.cst (.fn f [])) args), none⟩) :: rest) env s Q := by
  obtain ⟨n, hn⟩ := hr
  exact vq_m ⟨n, by simp only [evM, callV, Env.ev, List.append_nil]; exact hn⟩ h
theorem vq_append {i t sz bytes a x rest s Q} {env : Env} {d : D} {s' : Store} (hr : appendV sz bytes (env.ev a) (env.ev x) s = some (d, s'))
    (h : WQ fs [] rest ((t, d) :: env) s' Q) : WQ fs [] ((i, ⟨some t, .m (.append sz bytes a x), none⟩) :: rest) env s Q :=
  vq_m ⟨0, by simp only [evM]; exact hr⟩ h
theorem vq_append' {i t sz bytes a x rest s Q} {env : Env} {da dx d : D} {s' : Store} (ha : env.ev a = da) (hx : env.ev x = dx) (hr : appendV sz bytes da dx s = some (d, s'))
    (h : WQ fs [] rest ((t, d) :: env) s' Q) : WQ fs [] ((i, ⟨some t, .m (.append sz bytes a x), none⟩) :: rest) env s Q :=
  vq_append (by rw [ha, hx]; exact hr) h
theorem vq_call' {pairs i t f args rest s Q} {env : Env} {l : List D} {d : D} (ha : env.evL args = l) (hr : Ev fs f l s d s)
    (h : WQ fs pairs rest ((t, d) :: env) s Q) : WQ fs pairs ((i, ⟨some t, .m (.call .raw (.cst (.fn f [])) args), none⟩) :: rest) env s Q := vq_call (ha ▸ hr) h
theorem vq_callw' {i t f args rest s Q} {env : Env} {l : List D} {d : D} {s' : Store} (ha : env.evL args = l) (hr : Ev fs f l s d s')
    (h : WQ fs [] rest ((t, d) :: env) s' Q) : WQ fs [] ((i, ⟨some t, .m (.call .raw (.cst (.fn f [])) args), none⟩) :: rest) env s Q := vq_callw (ha ▸ hr) h
theorem vq_iso' {pairs i t f args rest s Q} {env : Env} {l l' : List D} {d r : D} {s1 : Store} (hl : env.evL args = l) (ha : mapO (ice s.get 20) l = some l')
    (hr : Ev fs f l' Store.empty r s1) (hi : ice s1.get 20 r = some d) (hs : (scalarD d || pureL l) = true)
    (h : WQ fs pairs rest ((t, d) :: env) s Q) : WQ fs pairs ((i, ⟨some t, .m (.call .iso (.cst (.fn f [])) args), none⟩) :: rest) env s Q :=
  vq_iso (hl ▸ ha) hr hi (hl ▸ hs) h
theorem vq_mapset {i ks m k v rest s Q} {env : Env} {id : Nat} {l l' : List (D × D)} {kd vd : D} {kl : List D} (hm : env.ev m = .map id) (hk' : env.ev k = kd) (hv' : env.ev v = vd) (hs : s.get id = some (.map l)) (hk : keyOfV ks kd = some kl) (hv : oneCell vd = true)
    (hp : putKV ks kl vd l = some l') (h : WQ fs [] rest env (s.set id (some (.map l'))) Q) : WQ fs [] ((i, ⟨none, .m (.mapset ks m k v), none⟩) :: rest) env s Q := by
  intro tr ht
  refine vo_op rfl 0 (d := .tup []) (s' := s.set id (some (.map l'))) ?_ pairsOk_none (h tr ht)
  simp only [runOp, evM, hm, hs, hk', hk, hv', hv, hp, if_true, Option.map_some]
def Way (d : D) (b : Bool) (A B : Prop) : Prop := match d with
  | .bool c => if c = b then A else B
  | .tup [] => B
  | _ => False
theorem way_tt {A B : Prop} (h : A) : Way (.bool true) true A B := h
theorem way_ff {A B : Prop} (h : A) : Way (.bool false) false A B := h
theorem way_tf {A B : Prop} (h : B) : Way (.bool true) false A B := h
theorem way_ft {A B : Prop} (h : B) : Way (.bool false) true A B := h
theorem way_t {b : Bool} {A B : Prop} (h : B) : Way (.tup []) b A B := h
theorem vq_g {pairs i t o r b rest s Q} {env : Env} {d : D} (hw : env.get r = d)
    (h : Way d b (WQ fs pairs ((i, ⟨t, o, none⟩) :: rest) env s Q) (WQ fs pairs rest (env.put t (.tup [])) s Q)) : WQ fs pairs ((i, ⟨t, o, some (r, b)⟩) :: rest) env s Q := by
  unfold Way at h
  split at h
  · rename_i c
    by_cases hc : c = b
    · rw [if_pos hc] at h; subst hc; exact vq_yes hw h
    · rw [if_neg hc] at h
      exact vq_not (by rw [hw]; congr 1; cases c <;> cases b <;> simp_all) h
  · exact vq_tup hw h
  · exact h.elim
def WayC (d : D) (A B : Prop) : Prop := match d with
  | .bool c => if c then A else B
  | _ => False
theorem wayc_t {A B : Prop} (h : A) : WayC (.bool true) A B := h
theorem wayc_f {A B : Prop} (h : B) : WayC (.bool false) A B := by
  show if false = true then A else B
  rw [if_neg (by simp)]; exact h
theorem vw_condm {vars c x y env s Q} {d : D} (hc : env.ev c = d) (h : WayC d (WP fs vars x env s Q) (WP fs vars y env s Q)) : WP fs vars (.cond c x y) env s Q := by
  unfold WayC at h
  split at h
  · rename_i b
    refine vw_cond b hc ?_
    cases b <;> exact h
  · exact h.elim
theorem pairsOk_free {pairs : List (Nat × Nat)} {j : Tr} (hp : (pairs.all fun p => p.2 != j.idx) = true) : ∀ {tr : List Tr}, pairsOk pairs j tr = true
  | [] => rfl
  | i :: r => by
    have hc : pairs.contains (i.idx, j.idx) = false := by
      rw [Bool.eq_false_iff]
      intro h
      rw [List.contains_iff_mem] at h
      rw [List.all_eq_true] at hp
      have := hp _ h
      simp at this
    simp only [pairsOk, hc, Bool.false_eq_true, if_false, Bool.true_and]
    exact pairsOk_free hp
theorem runOps_free {C : CallF} {pairs : List (Nat × Nat)} : ∀ {ops : List (Nat × VOper)} {tr tr' : List Tr} {env : Env} {s : Store} {r : Env × Store}, (ops.all fun o => pairs.all fun p => p.2 != o.1) = true →
    runOps C [] ops tr' env s = some r → runOps C pairs ops tr env s = some r
  | [], _, _, _, _, _, _, e => by simpa only [runOps] using e
  | (i, o) :: rest, tr, tr', env, s, r, hp, e => by
    simp only [List.all_cons, Bool.and_eq_true] at hp
    simp only [runOps] at e ⊢
    split at e
    · cases e
    · rename_i hw
      try simp only [hw]
      exact runOps_free hp.2 e
    · rename_i hw
      try simp only [hw]
      split at e
      · cases e
      · rename_i d s' hr
        try simp only [hr]
        split at e
        · rw [if_pos (pairsOk_free hp.1)]
          exact runOps_free hp.2 e
        · cases e
theorem vq_free {pairs ops env s Q} (hp : (ops.all fun o => pairs.all fun p => p.2 != o.1) = true) (h : WQ fs [] ops env s Q) : WQ fs pairs ops env s Q := by
  intro tr _
  obtain ⟨n, env', s', h1, h2⟩ := h [] quiet_nil
  exact ⟨n, env', s', runOps_free hp h1, h2⟩
theorem vq_free' {p pairs ops env s Q} (hp : (ops.all fun o => (p :: pairs).all fun p => p.2 != o.1) = true) (h : WQ fs [] ops env s Q) : WQ fs (p :: pairs) ops env s Q := vq_free hp h
theorem ev_of {f : FuncId} {vf : VFunc} {args : List D} {s s' : Store} {d : D} (hf : fs f = some vf) (h : WP fs vf.vars vf.code (vf.vars.map fun t => (t, args.getD t .undef)) s fun e env s2 => (e = .normal ∨ e = .ret) ∧ s2 = s' ∧ resOf env s2 vf.res = some d) : Ev fs f args s d s' := by
  obtain ⟨n, e, env, s2, h1, he, rfl, h2⟩ := h
  refine ⟨n, ?_⟩
  unfold vcall callWith
  rw [hf]
  simp only [h1]
  rcases he with rfl | rfl <;> simp only [h2, Option.map_some]
def EvP (fs : FuncId → Option VFunc) (f : FuncId) (args : List D) (s : Store) (P : D → Store → Prop) : Prop := ∃ d s', Ev fs f args s d s' ∧ P d s'
theorem evp_of {f : FuncId} {vf : VFunc} {args : List D} {s : Store} {P : D → Store → Prop} (hf : fs f = some vf) (h : WP fs vf.vars vf.code (vf.vars.map fun t => (t, args.getD t .undef)) s fun e env s2 => (e = .normal ∨ e = .ret) ∧ ∃ d, resOf env s2 vf.res = some d ∧ P d s2) : EvP fs f args s P := by
  obtain ⟨n, e, env, s2, h1, he, d, h2, h3⟩ := h
  exact ⟨d, s2, ev_of hf ⟨n, e, env, s2, h1, he, rfl, h2⟩, h3⟩
theorem vq_evpf {i t f args rest s Q} {env : Env} {l : List D} {P : D → Store → Prop} (hr : EvP fs f l s P) (ha : env.evL args = l)
    (h : ∀ d s', P d s' → WQ fs [] rest ((t, d) :: env) s' Q) : WQ fs [] ((i, ⟨some t, .m (.call .raw (.cst (.fn f [])) args), none⟩) :: rest) env s Q := by
  subst ha
  obtain ⟨d, s', h1, h2⟩ := hr
  exact vq_callw h1 (h d s' h2)
theorem EvP.mono {f args s} {P P' : D → Store → Prop} (h : EvP fs f args s P) (hp : ∀ d s', P d s' → P' d s') : EvP fs f args s P' := by
  obtain ⟨d, s', h1, h2⟩ := h
  exact ⟨d, s', h1, hp _ _ h2⟩
theorem vq_evp {i t f args rest s Q} {env : Env} {P : D → Store → Prop} (hr : EvP fs f (env.evL args) s P)
    (h : ∀ d s', P d s' → WQ fs [] rest ((t, d) :: env) s' Q) : WQ fs [] ((i, ⟨some t, .m (.call .raw (.cst (.fn f [])) args), none⟩) :: rest) env s Q := by
  obtain ⟨d, s', h1, h2⟩ := hr
  exact vq_callw h1 (h d s' h2)
theorem Ev.det {f args s d s' d2 s2} (h : Ev fs f args s d s') (k : Ev fs f args s d2 s2) : d = d2 ∧ s' = s2 := by
  obtain ⟨n, hn⟩ := h
  obtain ⟨m, hm⟩ := k
  have a1 := callWith_mono (fs := fs) (fun v c e s r h => vexec_mono (Nat.le_max_left n m) h) _ _ _ _ hn
  have a2 := callWith_mono (fs := fs) (fun v c e s r h => vexec_mono (Nat.le_max_right n m) h) _ _ _ _ hm
  rw [a1] at a2
  cases a2
  exact ⟨rfl, rfl⟩
end Go.V
namespace Go.V
def ldV (g : Look) (n : Option Nat) : D → Option D
  | .ptr id off => match g id with
    | some (.cells cs) => pull n off cs
    | _ => none
  | .fp cs off => pull n off cs
  | _ => none
theorem evR_load {env : Env} {g : Look} {n : Option Nat} {x : Opd} : evR env g (.load n x) = ldV g n (env.ev x) := by
  simp only [evR]
  cases env.ev x <;> rfl
theorem ld_ptr {g : Look} {n : Option Nat} {id off : Nat} : ldV g n (.ptr id off) = (match g id with | some (.cells cs) => pull n off cs | _ => none) := rfl
theorem ld_fp {g : Look} {n : Option Nat} {off : Nat} {cs : List D} : ldV g n (.fp cs off) = pull n off cs := rfl
theorem one_int {k : IntKind} {n : Int} : oneCell (.int k n) = true := rfl
theorem cells_int {k : IntKind} {n : Int} : cellsOf (.int k n) = [.int k n] := rfl
theorem one_bool {b : Bool} : oneCell (.bool b) = true := rfl
theorem cells_bool {b : Bool} : cellsOf (.bool b) = [.bool b] := rfl
theorem one_str {t : ByteArray} : oneCell (.str t) = true := rfl
theorem cells_str {t : ByteArray} : cellsOf (.str t) = [.str t] := rfl
theorem one_nilp : oneCell .nilp = true := rfl
theorem cells_nilp : cellsOf .nilp = [.nilp] := rfl
theorem one_ptr {i : Nat} {o : Nat} : oneCell (.ptr i o) = true := rfl
theorem cells_ptr {i : Nat} {o : Nat} : cellsOf (.ptr i o) = [.ptr i o] := rfl
theorem one_fp {l : List D} {o : Nat} : oneCell (.fp l o) = true := rfl
theorem cells_fp {l : List D} {o : Nat} : cellsOf (.fp l o) = [.fp l o] := rfl
theorem one_nils : oneCell .nils = true := rfl
theorem cells_nils : cellsOf .nils = [.nils] := rfl
theorem one_lst {ll : List (List D)} {o : Nat} : oneCell (.lst o ll) = true := rfl
theorem cells_lst {ll : List (List D)} {o : Nat} : cellsOf (.lst o ll) = [.lst o ll] := rfl
theorem one_arr {i : Nat} {o : Nat} {p : Nat} {q : Nat} : oneCell (.arr i o p q) = true := rfl
theorem cells_arr {i : Nat} {o : Nat} {p : Nat} {q : Nat} : cellsOf (.arr i o p q) = [.arr i o p q] := rfl
theorem one_fn {f : FuncId} {l : List D} : oneCell (.fn f l) = true := rfl
theorem cells_fn {f : FuncId} {l : List D} : cellsOf (.fn f l) = [.fn f l] := rfl
theorem one_nilf : oneCell .nilf = true := rfl
theorem cells_nilf : cellsOf .nilf = [.nilf] := rfl
theorem one_nilm : oneCell .nilm = true := rfl
theorem cells_nilm : cellsOf .nilm = [.nilm] := rfl
theorem one_map {i : Nat} : oneCell (.map i) = true := rfl
theorem cells_map {i : Nat} : cellsOf (.map i) = [.map i] := rfl
theorem one_agg {l : List D} : oneCell (.agg l) = false := rfl
theorem cells_agg {l : List D} : cellsOf (.agg l) = l := rfl
theorem cellsOf_one {d : D} (h : oneCell d = true) : cellsOf d = [d] := by cases d <;> first | rfl | (simp [oneCell] at h)
theorem len_nils : lenV false .nils = some (.int .i64 0) := rfl
theorem len_lst {o : Nat} {ll : List (List D)} : lenV false (.lst o ll) = some (.int .i64 (ll.length : Int)) := rfl
theorem len_arr {i o p q : Nat} : lenV false (.arr i o p q) = some (.int .i64 (p : Int)) := rfl
theorem len_str {t : ByteArray} : lenV true (.str t) = some (.int .i64 (t.size : Int)) := rfl
theorem nil_0 : isNil .p .nilp = some true := rfl
theorem nil_1 {i o : Nat} : isNil .p (.ptr i o) = some false := rfl
theorem nil_2 {l : List D} {o : Nat} : isNil .p (.fp l o) = some false := rfl
theorem nil_3 : isNil .s .nils = some true := rfl
theorem nil_4 {o : Nat} {ll : List (List D)} : isNil .s (.lst o ll) = some false := rfl
theorem nil_5 {i o p q : Nat} : isNil .s (.arr i o p q) = some false := rfl
theorem nil_6 : isNil .m .nilm = some true := rfl
theorem nil_7 {i : Nat} : isNil .m (.map i) = some false := rfl
theorem nil_8 : isNil .f .nilf = some true := rfl
theorem nil_9 {f : FuncId} {l : List D} : isNil .f (.fn f l) = some false := rfl
theorem mm_min {k k' : IntKind} {a b : Int} : minmaxV false (.int k a) [.int k' b] = some (.int k (min a b)) := by
  simp only [minmaxV]; congr 2; simp only [Bool.false_eq_true, if_false]; split <;> omega
theorem mm_max {k k' : IntKind} {a b : Int} : minmaxV true (.int k a) [.int k' b] = some (.int k (max a b)) := by
  simp only [minmaxV]; congr 2; simp only [if_true]; split <;> omega
theorem beq_nat {a b : Nat} : ((a : Int) == (b : Int)) = decide (a = b) := by rw [Bool.eq_iff_iff]; simp only [beq_iff_eq, decide_eq_true_eq]; omega
theorem beq_nat0 {a : Nat} : ((a : Int) == 0) = decide (a = 0) := by rw [Bool.eq_iff_iff]; simp only [beq_iff_eq, decide_eq_true_eq]; omega
theorem beq_nat1 {a : Nat} : ((a : Int) == 1) = decide (a = 1) := by rw [Bool.eq_iff_iff]; simp only [beq_iff_eq, decide_eq_true_eq]; omega
theorem idx_arr {i o p q z : Nat} {k : IntKind} {n : Int} (h0 : q = z) (h1 : 0 ≤ n) (h2 : n < p) : idxAV z (.arr i o p q) (.int k n) = some (.ptr i (o + n.toNat * z)) := by
  simp only [idxAV]; rw [if_pos ⟨h0, h1, h2⟩]
def andI (k : IntKind) (x y : Int) : Int := (BitVec.ofInt k.bits x &&& BitVec.ofInt k.bits y).toNat
def orI (k : IntKind) (x y : Int) : Int := (BitVec.ofInt k.bits x ||| BitVec.ofInt k.bits y).toNat
def xorI (k : IntKind) (x y : Int) : Int := (BitVec.ofInt k.bits x ^^^ BitVec.ofInt k.bits y).toNat
def clrI (k : IntKind) (x y : Int) : Int := (BitVec.ofInt k.bits x &&& ~~~ BitVec.ofInt k.bits y).toNat
theorem bi_add {k : IntKind} {x y : Int} : binInt .add k x y = some (.int k (k.wrap (x + y))) := rfl
theorem bi_sub {k : IntKind} {x y : Int} : binInt .sub k x y = some (.int k (k.wrap (x - y))) := rfl
theorem bi_mul {k : IntKind} {x y : Int} : binInt .mul k x y = some (.int k (k.wrap (x * y))) := rfl
theorem bi_quo {k : IntKind} {x y : Int} : binInt .quo k x y = if y = 0 then none else some (.int k (k.wrap (x.tdiv y))) := rfl
theorem bi_rem {k : IntKind} {x y : Int} : binInt .rem k x y = if y = 0 then none else some (.int k (x.tmod y)) := rfl
theorem bi_and {k : IntKind} {x y : Int} : binInt .and k x y = some (.int k (k.wrap (andI k x y))) := rfl
theorem bi_or {k : IntKind} {x y : Int} : binInt .or k x y = some (.int k (k.wrap (orI k x y))) := rfl
theorem bi_xor {k : IntKind} {x y : Int} : binInt .xor k x y = some (.int k (k.wrap (xorI k x y))) := rfl
theorem bi_clr {k : IntKind} {x y : Int} : binInt .andNot k x y = some (.int k (k.wrap (clrI k x y))) := rfl
theorem bi_eql {k : IntKind} {x y : Int} : binInt .eql k x y = some (.bool (x == y)) := rfl
theorem bi_neq {k : IntKind} {x y : Int} : binInt .neq k x y = some (.bool (x != y)) := rfl
theorem bi_lss {k : IntKind} {x y : Int} : binInt .lss k x y = some (.bool (x < y)) := rfl
theorem bi_leq {k : IntKind} {x y : Int} : binInt .leq k x y = some (.bool (x ≤ y)) := rfl
theorem bi_gtr {k : IntKind} {x y : Int} : binInt .gtr k x y = some (.bool (x > y)) := rfl
theorem bi_geq {k : IntKind} {x y : Int} : binInt .geq k x y = some (.bool (x ≥ y)) := rfl
attribute [go_sem] evP evR_load evR.eq_2 evR.eq_3 ld_ptr keyOfV ld_fp one_int cells_int one_bool cells_bool one_str cells_str one_nilp cells_nilp one_ptr cells_ptr one_fp cells_fp one_nils cells_nils one_lst cells_lst one_arr cells_arr one_fn cells_fn one_nilf cells_nilf one_nilm cells_nilm one_map cells_map one_agg cells_agg cellsOf_one len_nils len_lst len_arr len_str nil_0 nil_1 nil_2 nil_3 nil_4 nil_5 nil_6 nil_7 nil_8 nil_9 evA evW Env.ev Env.get Env.evL Env.evO binV bi_add bi_sub bi_mul bi_quo bi_rem bi_and bi_or bi_xor bi_clr bi_eql bi_neq bi_lss bi_leq bi_gtr bi_geq unV pull idx_arr sliceV boundOf mm_min mm_max beq_nat beq_nat0 beq_nat1 wantV fillV splice zeros Made.at Option.map_some Option.map List.getElem?_cons_zero List.getElem?_cons_succ List.getElem?_nil List.all_cons List.all_nil List.length_cons List.length_nil List.take List.drop List.map List.append List.cons_append List.nil_append List.append_nil Nat.zero_add Nat.add_zero Nat.zero_mul Nat.mul_one Int.toNat_natCast decide_true decide_false Bool.not_true Bool.not_false Bool.and_true Bool.true_and Bool.and_self and_self and_true true_and Bool.false_eq_true ge_iff_le gt_iff_lt beq_self_eq_true Nat.zero_le Nat.le_refl Nat.lt_irrefl Store.next_push Store.next_set
attribute [go_sem] Nat.reduceEqDiff Nat.reduceAdd Nat.reduceMul Nat.reduceLeDiff reduceCtorEq Int.reduceEq Int.reduceLT Int.reduceLE Int.reduceAdd Int.reduceSub Int.reduceMul Int.reduceNeg Int.reduceToNat Int.reduceBEq Int.reduceBNe
variable {fs : FuncId → Option VFunc}
theorem vA {vars a b env s Q} (h : WP fs vars a env s (Then fs vars b Q)) : WP fs vars (.seq a b) env s Q := vw_seq h
theorem vB {vars id b env s Q} (h : WP fs vars b env s (Out' id Q)) : WP fs vars (.block id b) env s Q := vw_block h
theorem vC {vars ops pairs dr env s Q} (h : WQ fs pairs ops env s fun env' s' => Q .normal (env'.keep vars) s') : WP fs vars (.region ⟨ops, pairs, dr⟩) env s Q := vw_rg h
theorem vD {p pairs ops env s Q} (hp : (ops.all fun o => (p :: pairs).all fun p => p.2 != o.1) = true) (h : WQ fs [] ops env s Q) : WQ fs (p :: pairs) ops env s Q := vq_free' hp h
theorem vE {pairs env s Q} (h : Q env s) : WQ fs pairs [] env s Q := vq_nil h
theorem vF {vars env s Q} (h : Q .normal env s) : WP fs vars .skip env s Q := vw_skip h
theorem vG {vars env s id} {Q : VExit → Env → Store → Prop} (h : Q (.exit id) env s) : WP fs vars (.exit id) env s Q := vw_exit h
theorem vH {vars env s} {Q : VExit → Env → Store → Prop} (h : Q .ret env s) : WP fs vars .ret env s Q := vw_ret h
theorem vI {pairs i t o rest s Q} {env : Env} {d : D} (hr : evP env o = some d) (h : WQ fs pairs rest ((t, d) :: env) s Q) : WQ fs pairs ((i, ⟨some t, .p o, none⟩) :: rest) env s Q := vq_p hr h
theorem vJ {pairs i t o rest s Q} {env : Env} {d : D} (hr : evR env s.get o = some d) (h : WQ fs pairs rest ((t, d) :: env) s Q) : WQ fs pairs ((i, ⟨some t, .r o, none⟩) :: rest) env s Q := vq_r hr h
theorem vK {i t o rest s Q} {env : Env} {ob : VObj} {m : Made} (hr : evA env o = some (ob, m)) (h : WQ fs [] rest ((t, m.at s.next) :: env) (s.push ob) Q) : WQ fs [] ((i, ⟨some t, .a o, none⟩) :: rest) env s Q := vq_a hr h
theorem vL {i n a v rest s Q} {env : Env} {id : Nat} {ob : VObj} (hr : evW env s.get n a v = some (id, ob)) (h : WQ fs [] rest env (s.set id (some ob)) Q) : WQ fs [] ((i, ⟨none, .w n a v, none⟩) :: rest) env s Q := vq_w hr h
theorem vM {pairs i t o r b rest s Q} {env : Env} {d : D} (hw : env.get r = d)
    (h : Way d b (WQ fs pairs ((i, ⟨t, o, none⟩) :: rest) env s Q) (WQ fs pairs rest (env.put t (.tup [])) s Q)) : WQ fs pairs ((i, ⟨t, o, some (r, b)⟩) :: rest) env s Q := vq_g hw h
theorem vN {vars c x y env s Q} {d : D} (hc : env.ev c = d) (h : WayC d (WP fs vars x env s Q) (WP fs vars y env s Q)) : WP fs vars (.cond c x y) env s Q := vw_condm hc h
theorem vO {A B : Prop} (h : A) : Way (.bool true) true A B := h
theorem vP {A B : Prop} (h : A) : Way (.bool false) false A B := h
theorem vQ {A B : Prop} (h : A) : WayC (.bool true) A B := h
theorem vR {A B : Prop} (h : B) : WayC (.bool false) A B := wayc_f h
theorem vS {A B : Prop} (h : B) : Way (.bool true) false A B := h
theorem vT {A B : Prop} (h : B) : Way (.bool false) true A B := h
theorem vU {b : Bool} {A B : Prop} (h : B) : Way (.tup []) b A B := h
theorem nP (s : Store) (o : VObj) : (s.push o).next = s.next + 1 := rfl
theorem nS (s : Store) (i : Nat) (o : Option VObj) : (s.set i o).next = s.next := rfl
end Go.V
namespace Go.V
def xq (i t : Nat) (o : POp) : Nat × VOper := (i, ⟨some t, .p o, none⟩)
def xg (i t : Nat) (o : POp) (g : Nat) (b : Bool) : Nat × VOper := (i, ⟨some t, .p o, some (g, b)⟩)
def xm (i t x : Nat) : Nat × VOper := (i, ⟨some t, .p (.mov (.tmp x)), none⟩)
def xmg (i t x g : Nat) (b : Bool) : Nat × VOper := (i, ⟨some t, .p (.mov (.tmp x)), some (g, b)⟩)
def xc (i t : Nat) (d : D) : Nat × VOper := (i, ⟨some t, .p (.mov (.cst d)), none⟩)
def xl (i t : Nat) (n : Option Nat) (x : Nat) : Nat × VOper := (i, ⟨some t, .r (.load n (.tmp x)), none⟩)
def xlg (i t : Nat) (n : Option Nat) (x g : Nat) (b : Bool) : Nat × VOper := (i, ⟨some t, .r (.load n (.tmp x)), some (g, b)⟩)
def xf (i t off x : Nat) : Nat × VOper := (i, ⟨some t, .p (.fieldA off (.tmp x)), none⟩)
def xfg (i t off x g : Nat) (b : Bool) : Nat × VOper := (i, ⟨some t, .p (.fieldA off (.tmp x)), some (g, b)⟩)
def xw (i n a : Nat) (v : Opd) : Nat × VOper := (i, ⟨none, .w n (.tmp a) v, none⟩)
def xa (i t : Nat) (o : AOp) : Nat × VOper := (i, ⟨some t, .a o, none⟩)
def xk (i t f : Nat) (l : List Opd) : Nat × VOper := (i, ⟨some t, .m (.call .raw (.cst (.fn f [])) l), none⟩)
def xi (i t f : Nat) (l : List Opd) : Nat × VOper := (i, ⟨some t, .m (.call .iso (.cst (.fn f [])) l), none⟩)
def xig (i t f : Nat) (l : List Opd) (g : Nat) (b : Bool) : Nat × VOper := (i, ⟨some t, .m (.call .iso (.cst (.fn f [])) l), some (g, b)⟩)
def xo (i : Nat) (t : Option Nat) (o : VOp) (g : Option (Nat × Bool)) : Nat × VOper := (i, ⟨t, o, g⟩)
def xr (l : List (Nat × VOper)) : VCode := .region ⟨l, [], false⟩
def xrp (l : List (Nat × VOper)) (p : List (Nat × Nat)) (b : Bool) : VCode := .region ⟨l, p, b⟩
def bs (l : List Nat) : ByteArray := ⟨(l.map UInt8.ofNat).toArray⟩
def xn (n : Int) : Opd := .cst (.int .i64 n)
end Go.V
