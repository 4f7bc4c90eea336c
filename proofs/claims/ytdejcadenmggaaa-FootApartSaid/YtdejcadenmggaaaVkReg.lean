/- The V machine: one operation in the model's calculus. -/
import Derived.Test.YtdejcadenmggaaaVkCall
namespace Go.V
section
variable {P : Program} {md : FuncId → Mode} {μ : Mu} {Φ : Phi} {env : Env} {a : Act} {d : D} {g : Look} {w : World} {K : Act → World → Prop} {Q : Exit → Act → World → Prop}

theorem wp_of_gives {o : Oper} (h : Gives P μ Φ (execOp a.eval o) w d) (hK : ∀ v, R μ Φ d v → K (a.put o.dst v) w) : o.wp P a w K Q := by
  obtain ⟨v, h1, h2⟩ := h
  unfold Oper.wp
  rw [h1]
  exact hK v h2

theorem P_wp {o : Oper} {po : POp} (hres : resOp P md o = some (.p po)) (he : EnvR μ Φ env a) (hev : evP env po = some d) (hK : ∀ v, R μ Φ d v → K (a.put o.dst v) w) : o.wp P a w K Q :=
  wp_of_gives (P_sound hres he hev w) hK
theorem R_wp {o : Oper} {ro : ROp} (hres : resOp P md o = some (.r ro)) (he : EnvR μ Φ env a) (hs : Sim μ Φ g w) (hev : evR env g ro = some d) (hK : ∀ v, R μ Φ d v → K (a.put o.dst v) w) : o.wp P a w K Q :=
  wp_of_gives (R_sound hres he hs hev) hK
theorem A_wp {o : Oper} {ao : AOp} (hres : resOp P md o = some (.a ao)) (he : EnvR μ Φ env a) (hs : Sim μ Φ g w) {vo : VObj} {m : Made} (hev : evA env ao = some (vo, m)) {id : Nat} (hid : μ id = none) (hg : g id = none)
    (hK : ∀ v w' μ', Sim μ' Φ (upd g id (some vo)) w' → R μ' Φ (m.at id) v → Evo μ Φ g w μ' Φ (upd g id (some vo)) w' id (id + 1) → K (a.put o.dst v) w') : o.wp P a w K Q := by
  obtain ⟨v, ob, z, h1, h2, h3⟩ := A_sound hres he hev w id hid
  obtain ⟨h4, h5⟩ := hs.push hid hg h2
  unfold Oper.wp
  rw [h1]
  exact hK v _ _ h4 h3 h5
theorem W_wp {o : Oper} {n : Nat} {ad x : Opd} (hres : resOp P md o = some (.w n ad x)) (he : EnvR μ Φ env a) (hs : Sim μ Φ g w) {id : Nat} {vo : VObj} (hev : evW env g n ad x = some (id, vo)) (k : Nat)
    (hK : ∀ w', Sim μ Φ (upd g id (some vo)) w' → Evo μ Φ g w μ Φ (upd g id (some vo)) w' k k → K (a.put o.dst undef) w') : o.wp P a w K Q := by
  obtain ⟨w', b, o', z, vo0, h1, h2, h3, h4, h5⟩ := W_sound hres he hs hev
  obtain ⟨h6, h7⟩ := hs.write h2 h3 h4 h5 k
  unfold Oper.wp
  rw [h1]
  exact hK w' h6 h7

theorem R_undef : R μ Φ (.tup []) undef := by
  simp only [R]
  exact ⟨[], rfl, by simp [RL]⟩

theorem M_wp {C : CallF} (hC : CallSound P C) {o : Oper} {mo : MOp} (hres : resOp P md o = some (.m mo)) (he : EnvR μ Φ env a) {s s' : Store} (hs : Sim μ Φ s.get w) (hev : evM C env s mo = some (d, s')) :
    s.next ≤ s'.next ∧ (Fresh μ s.next s'.next → (∀ v w' μ' Φ', Sim μ' Φ' s'.get w' → R μ' Φ' d v → Evo μ Φ s.get w μ' Φ' s'.get w' s.next s'.next → K (a.put o.dst v) w') → o.wp P a w K Q) := by
  obtain ⟨dst, op, type, pos, after, guard⟩ := o
  cases op <;> simp only [resOp] at hres
  case mapUpdate t m k v =>
    split at hres
    · rename_i m' k' v' kt et hm hk hv hu
      split at hres
      · rename_i ks hks
        cases hres
        simp only [evM] at hev
        split at hev
        · rename_i id hx
          split at hev
          · rename_i kvs hg
            split at hev
            · rename_i kl hkl
              split at hev
              · rename_i hone
                obtain ⟨kvs', hput, e⟩ := map_some hev
                cases e
                refine ⟨Nat.le_refl _, fun _ hK => ?_⟩
                have rm := opd_ok he hm
                have rk := opd_ok he hk
                have rv := opd_ok he hv
                rw [hx] at rm
                unfold keyOfV at hkl
                split at hkl
                · rename_i k0 hk0
                  split at hkl
                  · rename_i hlen
                    simp at hkl; subst hkl
                    rw [hk0] at rk
                    obtain ⟨w', h1, h2, h3⟩ := mapset_core (P := P) hu hks hs hg rm rk hlen.1 rv hput
                    unfold Oper.wp
                    have : (execOp a.eval ⟨dst, .mapUpdate t m k v, type, pos, after, guard⟩).run P w = .ok .skip w' := by
                      simp [execOp, h1]
                    rw [this]
                    exact hK undef w' μ Φ h2 R_undef h3
                  · simp at hkl
                · simp at hkl
              · simp at hev
            · simp at hev
          · simp at hev
        · simp at hev
      · simp at hres
    · simp at hres
  case call c =>
    obtain ⟨callee, args, types⟩ := c
    cases callee with
    | invoke _ _ => simp at hres
    | value f =>
      simp only at hres
      split at hres
      · rename_i f' l hf hl
        cases hres
        simp only [evM] at hev
        have rf := opd_ok he hf
        have rl := opdL_ok he hl
        generalize hfd : env.ev f' = fd at hev rf
        cases fd <;> try (simp [callV] at hev; done)
        rename_i ff caps
        simp only [R] at rf
        obtain ⟨cv, ef, hcv⟩ := rf
        obtain ⟨h0, ⟨fn, hfn, hbody, hname⟩, h2⟩ := callV_sound hC hev
        refine ⟨h0, fun hfr hK => ?_⟩
        have hcalls := h2 μ Φ w _ hs (RL_append rl hcv) hfr
        unfold Oper.wp
        have hbn : fn.body.isNone = false := by cases hb : fn.body <;> simp [hb] at hbody ⊢
        have hrun : (execOp a.eval ⟨dst, .call ⟨.value f, args, types⟩, type, pos, after, guard⟩).run P w = .ok (.enter ff ((args.toList.map a.eval) ++ cv).toArray) w := by
          simp only [execOp, resolve, Sem.run_bind, ef, Deferred.ofValue, Sem.run_pure, Result.andThen_ok, invoke, callFunc, run_program, hfn, hname, hbn, Bool.false_eq_true, if_false]
          congr 2
          apply Array.ext'
          simp
        rw [hrun]
        refine hcalls.mono ?_
        rintro e w' ⟨v, μ', Φ', rfl, h3, h4, h5⟩
        exact hK v w' μ' Φ' h3 h4 h5
      · simp at hres
    | builtin b =>
      simp only [resBuiltin] at hres
      split at hres
      · split at hres
        · split at hres <;> simp at hres
        · simp at hres
      · split at hres <;> simp at hres
      · split at hres <;> simp at hres
      · rename_i s0 x0 hargs
        split at hres
        · rename_i sy xy t u hsy hxy htypes
          split at hres
          · rename_i e e' hel hel'
            split at hres
            · rename_i i zl hi hz
              split at hres
              · simp at hres
              · rename_i hcnd
                cases hres
                simp only [evM] at hev
                have htu : P.underlying t = some (.slice e) := by
                  unfold elemOfSlice at hel
                  split at hel
                  · rename_i hu; simp at hel; rw [hu, hel]
                  · simp at hel
                have htu' : P.underlying u = some (.slice e') := by
                  unfold elemOfSlice at hel'
                  split at hel'
                  · rename_i hu; simp at hel'; rw [hu, hel']
                  · simp at hel'
                have ha : args = #[s0, x0] := by rw [← Array.toArray_toList (xs := args), hargs]
                have htt : types = #[t, u] := by rw [← Array.toArray_toList (xs := types), htypes]
                have hnx : s.next ≤ s'.next ∧ (s'.next ≤ s.next + 1) := by
                  unfold appendV at hev
                  split at hev
                  · split at hev
                    · split at hev
                      · split at hev
                        · cases hev; exact ⟨Nat.le_refl _, Nat.le_succ _⟩
                        · split at hev
                          · cases hev; exact ⟨Nat.le_succ _, Nat.le_refl _⟩
                          · simp at hev
                      · split at hev
                        · split at hev
                          · split at hev
                            · cases hev; exact ⟨Nat.le_refl _, Nat.le_succ _⟩
                            · split at hev
                              · cases hev; exact ⟨Nat.le_succ _, Nat.le_refl _⟩
                              · simp at hev
                          · simp at hev
                        · simp at hev
                      · split at hev
                        · cases hev; exact ⟨Nat.le_refl _, Nat.le_succ _⟩
                        · simp at hev
                      · simp at hev
                    · simp at hev
                  · simp at hev
                refine ⟨hnx.1, fun hfr hK => ?_⟩
                subst ha; subst htt
                have main : ∀ hf : s'.next = s.next ∨ μ s.next = none, (⟨dst, .call ⟨.builtin .append, #[s0, x0], #[t, u]⟩, type, pos, after, guard⟩ : Oper).wp P a w K Q := by
                  intro hf
                  obtain ⟨v, w', μ', h1, h2, h3, h4⟩ := append_core (P := P) htu htu' hi hz (by simp at hcnd; exact hcnd.1) (by simp at hcnd; exact hcnd.2) hs hf (opd_ok he hsy) (opd_ok he hxy) hev type
                  unfold Oper.wp
                  have hrun : (execOp a.eval ⟨dst, .call ⟨.builtin .append, #[s0, x0], #[t, u]⟩, type, pos, after, guard⟩).run P w = .ok (.value v) w' := by
                    simp only [execOp, resolve, Sem.run_bind, Sem.run_pure, Result.andThen_ok, invoke, builtin]
                    have : (#[s0, x0].map a.eval) = #[a.eval s0, a.eval x0] := by simp
                    rw [this, h1]
                    rfl
                  rw [hrun]
                  exact hK v w' μ' Φ h2 h4 h3
                by_cases hgrow : s'.next = s.next
                · exact main (.inl hgrow)
                · exact main (.inr (hfr s.next (Nat.le_refl _) (by omega)))
            · simp at hres
          · simp at hres
        · simp at hres
      · simp at hres
  case move x => obtain ⟨z, _, e⟩ := map_some hres; cases e
  case assign x => obtain ⟨z, _, e⟩ := map_some hres; cases e
  case nilCheck x => obtain ⟨z, _, e⟩ := map_some hres; cases e
  case binOp op t x y yt => obtain ⟨z, _, e⟩ := map_some hres; cases e
  case unOp op t x => obtain ⟨z, _, e⟩ := map_some hres; cases e
  case extract x i => obtain ⟨z, _, e⟩ := map_some hres; cases e
  case alloc t => obtain ⟨z, _, e⟩ := map_some hres; cases e
  case box t x => obtain ⟨z, _, e⟩ := map_some hres; cases e
  case pick c x y => split at hres <;> simp at hres
  case load t x => split at hres <;> simp at hres
  case store t x y => split at hres <;> simp at hres
  case fieldAddr t x f =>
    split at hres
    · split at hres <;> simp at hres
    · simp at hres
  case field t x f =>
    split at hres
    · split at hres <;> simp at hres
    · simp at hres
  case indexAddr t x f =>
    split at hres
    · split at hres <;> simp at hres
    · split at hres
      · split at hres <;> simp at hres
      · simp at hres
  case build t parts =>
    split at hres
    · split at hres
      · split at hres <;> simp at hres
      · simp at hres
    · simp at hres
  case buildSlice t len parts =>
    split at hres
    · split at hres
      · split at hres <;> simp at hres
      · simp at hres
    · simp at hres
  case makeSlice t l c =>
    split at hres
    · split at hres
      · split at hres <;> simp at hres
      · simp at hres
    · simp at hres
  case lookup t m k ok =>
    split at hres
    · split at hres
      · split at hres <;> simp at hres
      · simp at hres
    · simp at hres
  case index t x f =>
    split at hres
    · simp at hres
    · split at hres <;> simp at hres
    · simp at hres
  case convert src dst' x =>
    split at hres
    · simp at hres
    · split at hres <;> simp at hres
    · simp at hres
  case slice t x lo hi mx =>
    cases mx with
    | some _ => simp at hres
    | none =>
      simp only at hres
      split at hres
      · simp at hres
      · split at hres <;> simp at hres
      · simp at hres
  case makeFunc fn first caps =>
    cases fn <;> simp only at hres <;> try (cases hres; done)
    split at hres
    · obtain ⟨z, _, e⟩ := map_some hres; cases e
    · simp at hres
  case makeMap t r => cases r <;> simp at hres
  all_goals (cases hres; done)

end
end Go.V
