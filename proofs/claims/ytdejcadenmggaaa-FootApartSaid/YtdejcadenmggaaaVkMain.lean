/- The V machine: append, maps. -/
import Derived.Test.YtdejcadenmggaaaVkMem
namespace Go.V
section
variable {P : Program} {md : FuncId → Mode} {μ : Mu} {Φ : Phi} {env : Env} {a : Act} {d : D} {g : Look} {w : World}

/-- An object goes over into another one in the same block. -/
theorem Sim.move (h : Sim μ Φ g w) {id id' b o o' z : Nat} {vo vo' : VObj} (hg : g id = some vo) (hid : μ id = some (b, o, z)) {w' : World} (hw : SameBut b w w') (hn : μ id' = none) (hgn : g id' = none)
    (hob : ObjAt (updMu μ id' (b, o', z)) Φ w' b o' z vo') :
    Sim (updMu μ id' (b, o', z)) Φ (upd (upd g id none) id' (some vo')) w' ∧ Evo μ Φ g w (updMu μ id' (b, o', z)) Φ (upd (upd g id none) id' (some vo')) w' id' (id' + 1) := by
  have hne : id ≠ id' := fun e => by subst e; rw [hn] at hid; cases hid
  have hown : Owned μ g b := ⟨id, o, z, by rw [hg]; simp, hid⟩
  have hpb : Φ b = none := by
    obtain ⟨b', o', z', e1, _, e3⟩ := h.obj id vo hg
    rw [hid] at e1
    cases e1
    exact e3
  have hle := updMu_le (l := (b, o', z)) hn
  have hid2 : updMu μ id' (b, o', z) id' = some (b, o', z) := by simp [updMu]
  have hid3 : ∀ i, i ≠ id' → updMu μ id' (b, o', z) i = μ i := fun i hi => by simp [updMu, hi]
  have hgi : ∀ i, i ≠ id' → i ≠ id → upd (upd g id none) id' (some vo') i = g i := fun i h1 h2 => by simp [upd, h1, h2]
  have hgid : upd (upd g id none) id' (some vo') id = none := by simp [upd, hne]
  have blk : ∀ i o1 z1, i ≠ id' → i ≠ id → g i ≠ none → μ i = some (b, o1, z1) → False := by
    intro i o1 z1 h1 h2 h3 h4
    exact h2 (h.inj i id _ _ _ _ _ h3 (by rw [hg]; simp) h4 hid)
  refine ⟨⟨?_, ?_, ?_⟩, ⟨hle, ?_, Phi.le_refl _, hw.os, hw.tape, hw.output, by rw [hw.size]; exact Nat.le_refl _, ?_, fun _ _ h => .inl h, ?_⟩⟩
  · intro b' ob e
    rw [hw.block b' (fun e' => by subst e'; rw [hpb] at e; cases e)]
    exact h.phi b' ob e
  · intro i ob e
    by_cases hi : i = id'
    · subst hi
      simp only [upd, if_true] at e
      cases e
      exact ⟨b, o', z, hid2, hob, hpb⟩
    · by_cases hi2 : i = id
      · subst hi2; rw [hgid] at e; cases e
      · rw [hgi i hi hi2] at e
        obtain ⟨b', o1, z1, e1, e2, e3⟩ := h.obj i ob e
        refine ⟨b', o1, z1, by rw [hid3 i hi]; exact e1, ObjAt_world (hw.block b' ?_) (ObjAt_mono hle (Phi.le_refl _) e2), e3⟩
        intro e'
        subst e'
        exact blk i o1 z1 hi hi2 (by rw [e]; simp) e1
  · intro i i' b1 o1 z1 o2 z2 h1 h2 e1 e2
    by_cases hi : i = id'
    · by_cases hi' : i' = id'
      · rw [hi, hi']
      · exfalso
        subst hi
        rw [hid2] at e1
        cases e1
        rw [hid3 i' hi'] at e2
        by_cases hii : i' = id
        · subst hii; exact h2 hgid
        · rw [hgi i' hi' hii] at h2
          exact blk i' _ _ hi' hii h2 e2
    · by_cases hi' : i' = id'
      · exfalso
        subst hi'
        rw [hid2] at e2
        cases e2
        rw [hid3 i hi] at e1
        by_cases hii : i = id
        · subst hii; exact h1 hgid
        · rw [hgi i hi hii] at h1
          exact blk i _ _ hi hii h1 e1
      · rw [hid3 i hi] at e1
        rw [hid3 i' hi'] at e2
        have f : ∀ j, j ≠ id' → upd (upd g id none) id' (some vo') j ≠ none → g j ≠ none := by
          intro j h1 h2
          by_cases h3 : j = id
          · subst h3; exact absurd hgid h2
          · rwa [hgi j h1 h3] at h2
        exact h.inj i i' _ _ _ _ _ (f i hi h1) (f i' hi' h2) e1 e2
  · intro i hi
    exact hid3 i (by omega)
  · intro b' _ hn'
    exact hw.block b' (fun e => by subst e; exact hn' hown)
  · rintro b' ⟨i, o2, z2, h1, h2⟩
    by_cases hi : i = id'
    · subst hi
      rw [hid2] at h2
      cases h2
      exact .inl hown
    · rw [hid3 i hi] at h2
      refine .inl ⟨i, o2, z2, ?_, h2⟩
      by_cases h3 : i = id
      · subst h3; rw [hg]; simp
      · rwa [hgi i hi h3] at h1

theorem Evo.fewer {g' : Look} (hg : ∀ id ob, g' id = some ob → g id = some ob) (n : Nat) {w' : World} (h1 : w'.heap = w.heap) (h2 : w'.os = w.os) (h3 : w'.tape = w.tape) (h4 : w'.output = w.output) :
    Evo μ Φ g w μ Φ g' w' n n := by
  refine ⟨Mu.le_refl _, fun _ _ => rfl, Phi.le_refl _, h2, h3, h4, by rw [h1]; exact Nat.le_refl _, fun _ _ _ => by rw [h1], fun _ _ h => .inl h, ?_⟩
  rintro b ⟨q, o, zz, h1, h2⟩
  refine .inl ⟨q, o, zz, ?_, h2⟩
  intro h3
  cases hq : g' q with
  | none => exact h1 hq
  | some ob => rw [hg _ _ hq] at h3; cases h3

theorem get_set_push (s : Store) (id : Nat) (o : Option VObj) (ob : VObj) (h : id < s.next) (i : Nat) : ((s.set id o).push ob).get i = upd (upd s.get id o) s.next (some ob) i := by
  rw [Store.get_push, Store.get_set]
  simp only [upd, Store.next_set]
  by_cases h1 : i = s.next
  · simp [h1]
  · by_cases h2 : i = id
    · subst h2; simp [h1, h]
    · simp [h1, h2]
theorem get_push_upd (s : Store) (ob : VObj) (i : Nat) : (s.push ob).get i = upd s.get s.next (some ob) i := by
  rw [Store.get_push]; rfl
theorem get_set_upd (s : Store) (id : Nat) (o : Option VObj) (h : id < s.next) (i : Nat) : (s.set id o).get i = upd s.get id o i := by
  rw [Store.get_set]
  simp only [upd]
  by_cases h2 : i = id
  · simp [h2, h]
  · simp [h2]
theorem lt_next {s : Store} {id : Nat} {ob : VObj} (h : s.get id = some ob) : id < s.next := by
  unfold Store.get at h
  split at h
  · assumption
  · simp at h

/-! append. -/
theorem run_firstCells_row (size n : Nat) (b o l c : Nat) (us : List Value) (hl : us.length = n * size) (h : ∀ j u, us[j]? = some u → w.cell? ⟨b, o + j, none⟩ = some u) :
    (Builtin.firstCells size n (.slice (some ⟨b, o, none⟩) l c)).run P w = .ok us.toArray w := by
  simp only [Builtin.firstCells]
  rw [← hl]
  exact run_loadCells P w b o us h

theorem cap_bound (need cap bytes : Nat) (h1 : cap < need) (h2 : need * bytes ≤ 2 ^ 45) (h3 : bytes ≤ 2 ^ 20) : ¬ (Builtin.nextslicecap need cap * bytes > 2 ^ 48) := by
  have h4 : Builtin.nextslicecap need cap ≤ 2 * need + 192 * 4 := by
    unfold Builtin.nextslicecap
    split
    · omega
    · split
      · omega
      · have : ∀ (r c : Nat), c ≤ 2 * need → Builtin.growBy need r c ≤ 2 * need + 192 * 4 := by
          intro r
          induction r with
          | zero => intro c hc; simp [Builtin.growBy]; omega
          | succ r ih =>
            intro c hc
            simp only [Builtin.growBy]
            split
            · omega
            · by_cases h5 : c + (c + 768) / 4 ≤ 2 * need
              · exact ih _ h5
              · have : ∀ (r c : Nat), need ≤ c → Builtin.growBy need r c = c := by
                  intro r c hc
                  cases r with
                  | zero => rfl
                  | succ r => simp [Builtin.growBy, hc]
                rw [this r _ (by omega)]
                omega
        exact this 4 cap (by omega)
  have h5 : Builtin.nextslicecap need cap * bytes ≤ (2 * need + 192 * 4) * bytes := Nat.mul_le_mul_right _ h4
  have h6 : (2 * need + 192 * 4) * bytes = 2 * (need * bytes) + 768 * bytes := by rw [Nat.add_mul, Nat.mul_assoc]
  omega

/-- The append grows: a new row. -/
theorem run_append_new {t u e e' : TypeId} {i : TypeInfo} {z : Value} (ht : P.underlying t = some (.slice e)) (hu : P.underlying u = some (.slice e')) (hi : P.info? e = some i) (hz : i.zero = some z)
    {base : Option Addr} {sLen sCap n : Nat} {vx : Value} (hx : (Builtin.lenOf vx).run P w = .ok n w) (hgrow : sCap < sLen + n) (hb : (sLen + n) * i.bytes ≤ 2 ^ 45) (hb2 : i.bytes ≤ 2 ^ 20) (hb3 : sLen + n ≤ 2 ^ 45)
    {old new : List Value} (hold : (Builtin.firstCells i.size sLen (.slice base sLen sCap)).run P w.drew = .ok old.toArray w.drew)
    (hnew : (Builtin.firstCells i.size n vx).run P w.drew = .ok new.toArray w.drew) (ty : TypeId) :
    ∃ cap rest, sLen + n ≤ cap ∧ rest = (Builtin.zeroCells z.cells (cap - (sLen + n))).toList ∧
      (Builtin.append_ #[t, u] ty #[.slice base sLen sCap, vx]).run P w = .ok (.slice (some ⟨w.heap.size, 0, none⟩) (sLen + n) cap) (w.drew.alloc (.cells (old ++ new ++ rest).toArray e)) := by
  refine ⟨(Question.appendCap (sLen + n) sCap e).cut (w.tape w.drawn (Question.appendCap (sLen + n) sCap e)), _, by simp [Question.cut], rfl, ?_⟩
  have h1 : ¬ (sLen + n ≤ sCap) := by omega
  have h2 : ¬ (9223372036854775807 < (sLen : Int) + (n : Int) ∧ i.bytes = 0) := by omega
  have h3 := cap_bound (sLen + n) sCap i.bytes hgrow hb hb2
  simp [Builtin.append_, run_underlying ht, run_underlying hu, sizeOf, typeInfo, zeroValue, hi, hz, hx, h1, h3, Question.forced, newRow]
  rw [if_neg h2, hold]
  simp only [Result.andThen_ok, hnew]
  congr 2
  congr 1
  apply Array.ext'
  simp

/-- There is room: it is written in place. -/
theorem run_append_room {t u e e' : TypeId} {i : TypeInfo} (ht : P.underlying t = some (.slice e)) (hu : P.underlying u = some (.slice e')) (hi : P.info? e = some i)
    {b o sLen sCap n : Nat} {vx : Value} (hx : (Builtin.lenOf vx).run P w = .ok n w) (hroom : sLen + n ≤ sCap) {new : List Value} (hnew : (Builtin.firstCells i.size n vx).run P w = .ok new.toArray w)
    {w' : World} (hst : (storeCells ⟨b, o + sLen * i.size, none⟩ new).run P w = .ok () w') (ty : TypeId) :
    (Builtin.append_ #[t, u] ty #[.slice (some ⟨b, o, none⟩) sLen sCap, vx]).run P w = .ok (.slice (some ⟨b, o, none⟩) (sLen + n) sCap) w' := by
  simp [Builtin.append_, run_underlying ht, run_underlying hu, sizeOf, typeInfo, hi, hx, hroom, hnew, addr_add, hst]

/-- Nothing is appended. -/
theorem run_append_none {t u e e' : TypeId} {i : TypeInfo} (ht : P.underlying t = some (.slice e)) (hu : P.underlying u = some (.slice e')) (hi : P.info? e = some i)
    {base : Option Addr} {sLen sCap : Nat} {vx : Value} (hx : (Builtin.lenOf vx).run P w = .ok 0 w) (hroom : sLen ≤ sCap) (hnew : (Builtin.firstCells i.size 0 vx).run P w = .ok #[] w) (ty : TypeId) :
    (Builtin.append_ #[t, u] ty #[.slice base sLen sCap, vx]).run P w = .ok (.slice base sLen sCap) w := by
  cases base <;> simp [Builtin.append_, run_underlying ht, run_underlying hu, sizeOf, typeInfo, hi, hx, hroom, hnew, storeCells]

/-- What an operation of the main kind does in the model. -/
def Does (P : Program) (μ : Mu) (Φ : Phi) (st : Store) (w : World) (s : Sem Next) (d : D) (st' : Store) : Prop :=
  ∃ v w' μ', s.run P w = .ok (.value v) w' ∧ Sim μ' Φ st'.get w' ∧ Evo μ Φ st.get w μ' Φ st'.get w' st.next st'.next ∧ R μ' Φ d v

theorem append_core {t u e e' : TypeId} {i : TypeInfo} {zl : List D} (ht : P.underlying t = some (.slice e)) (hu : P.underlying u = some (.slice e')) (hi : P.info? e = some i) (hz : zeroOf P e = some zl) (hsz : i.size ≠ 0) (hzlen : zl.length = i.size)
    {st st' : Store} (hs : Sim μ Φ st.get w) (hfr0 : st'.next = st.next ∨ μ st.next = none) {s x : D} {vs vx : Value} (rs : R μ Φ s vs) (rx : R μ Φ x vx) (hev : appendV i.size i.bytes s x st = some (d, st')) (ty : TypeId) :
    ∃ v w' μ', (Builtin.append_ #[t, u] ty #[vs, vx]).run P w = .ok v w' ∧ Sim μ' Φ st'.get w' ∧ Evo μ Φ st.get w μ' Φ st'.get w' st.next st'.next ∧ R μ' Φ d v := by
  obtain ⟨i', zv, hi', hzv, hzr, _⟩ := zeroOf_ok (Φ := Φ) hz
  rw [hi] at hi'
  cases hi'
  unfold appendV at hev
  split at hev
  · rename_i new n hrow hlen
    split at hev
    · rename_i hc
      simp only [Bool.and_eq_true, decide_eq_true_eq] at hc
      obtain ⟨hsrc, hby⟩ := hc
      obtain ⟨us, n', hn', hul, hur, hone, hus⟩ := row_cells hs rx hrow hsrc
      rw [hlen] at hn'
      cases hn'
      have hx : ∀ w, (Builtin.lenOf vx).run P w = .ok n w := by
        intro w
        rcases hus with ⟨e1, _, e3⟩ | ⟨ad, cap, e1, _⟩
        · rw [e1, e3]; rfl
        · rw [e1]; rfl
      have hnew : ∀ w1 : World, w1.heap = w.heap → (Builtin.firstCells i.size n vx).run P w1 = .ok us.toArray w1 := by
        intro w1 hw1
        rcases hus with ⟨e1, e2, e3⟩ | ⟨ad, cap, e1, _, hcell⟩
        · rw [e1, e2]; rfl
        · rw [e1]
          simp only [Builtin.firstCells]
          rw [← hul]
          exact hcell w1 hw1
      have grow : ∀ (g' : Look) (base : Option Addr) (sLen sCap : Nat) (old : List D) (ov : List Value), vs = .slice base sLen sCap → sCap < sLen + n → (sLen + n) * i.bytes ≤ 2 ^ 45 → sLen + n ≤ 2 ^ 45 →
          RL μ Φ old ov → old.all oneCell = true → ov.length = sLen * i.size → (∀ w1 : World, w1.heap = w.heap → (Builtin.firstCells i.size sLen (.slice base sLen sCap)).run P w1 = .ok ov.toArray w1) →
          (∀ id ob, g' id = some ob → st.get id = some ob) → (∀ j, st'.get j = upd g' st.next (some (.cells (old ++ new))) j) → st'.next = st.next + 1 → d = .arr st.next 0 (sLen + n) i.size →
          ∃ v w' μ', (Builtin.append_ #[t, u] ty #[vs, vx]).run P w = .ok v w' ∧ Sim μ' Φ st'.get w' ∧ Evo μ Φ st.get w μ' Φ st'.get w' st.next st'.next ∧ R μ' Φ d v := by
        intro g' base sLen sCap old ov hvs hgr hb1 hb3 hro hoo hol hold hg' hst' hnx hd
        have hfr : μ st.next = none := hfr0.resolve_left (by omega)
        obtain ⟨cap, rest, hcap, hrest, hrun⟩ := run_append_new (w := w) (base := base) (sCap := sCap) ht hu hi hzv (hx w) hgr hb1 hby hb3 (hold w.drew rfl) (hnew w.drew rfl) ty
        have hs1 : Sim μ Φ g' w.drew := (hs.fewer hg').drew _
        have hle := updMu_le (l := (w.drew.heap.size, 0, (old ++ new).length + rest.length)) hfr
        have hgn : g' st.next = none := by
          cases hq : g' st.next with
          | none => rfl
          | some ob => have := hg' _ _ hq; rw [Store.get_none _ _ (Nat.le_refl _)] at this; cases this
        have hnl := RL_length hur
        have hol2 := RL_length hro
        have hpush := hs1.push (ob := .cells (ov ++ us ++ rest).toArray e) (vo := .cells (old ++ new)) (z := (ov ++ us ++ rest).toArray.size) hfr hgn
          (objAt_new (w := w.drew) (vs := ov ++ us) (tail := rest) (by simp) (RL_mono (updMu_le hfr) (Phi.le_refl _) _ _ (RL_append hro hur)) (all_app hoo hone))
        refine ⟨_, _, _, by rw [hvs]; exact hrun, hpush.1.congr hst', ?_, ?_⟩
        · have he := hpush.2
          have : Evo μ Φ st.get w μ Φ g' w.drew st.next st.next := Evo.fewer hg' _ rfl rfl rfl rfl
          have h2 := this.trans (Nat.le_refl _) (Nat.le_succ _) he
          rw [hnx]
          have hfn : st'.get = upd g' st.next (some (.cells (old ++ new))) := funext hst'
          rw [hfn]
          exact h2
        · rw [hd]
          simp only [R]
          refine ⟨_, _, _, cap, by simp [updMu]; rfl, rfl, hcap, ?_⟩
          have hzc : zv.cells.size = i.size := by
            have := RPL_all hzr
            simp at this
            omega
          have hzl : rest.length = (cap - (sLen + n)) * i.size := by
            rw [hrest]
            simp [Builtin.zeroCells, hzc]
          simp [hol, hul, hzl]
          have : (sLen + n) * i.size + (cap - (sLen + n)) * i.size = cap * i.size := by rw [← Nat.add_mul]; congr 1; omega
          have h2 : (sLen + n) * i.size = sLen * i.size + n * i.size := Nat.add_mul _ _ _
          omega
      have none0 : ∀ (base : Option Addr) (sLen sCap : Nat), vs = .slice base sLen sCap → sLen ≤ sCap → n = 0 → d = s → st' = st →
          ∃ v w' μ', (Builtin.append_ #[t, u] ty #[vs, vx]).run P w = .ok v w' ∧ Sim μ' Φ st'.get w' ∧ Evo μ Φ st.get w μ' Φ st'.get w' st.next st'.next ∧ R μ' Φ d v := by
        intro base sLen sCap hvs hle hn0 hd hst
        subst hd; subst hst
        have hus0 : us = [] := by
          apply List.eq_nil_of_length_eq_zero
          rw [hul, hn0]; simp
        have h1 := hnew w rfl
        rw [hn0, hus0] at h1
        have h2 := hx w
        rw [hn0] at h2
        refine ⟨vs, w, μ, ?_, hs, Evo.refl _ _ _ _ _, rs⟩
        rw [hvs]
        exact run_append_none ht hu hi h2 hle h1 ty
      split at hev
      · -- onto nil
        simp only [R] at rs
        split at hev
        · rename_i hn0
          cases hev
          exact none0 none 0 0 rs (Nat.le_refl _) hn0 rfl rfl
        · rename_i hn0
          split at hev
          · rename_i hb
            cases hev
            exact grow st.get none 0 0 [] [] rs (by omega) (by simpa using hb.1) (by simpa using hb.2) (by simp [RL]) rfl (by simp) (fun w1 _ => rfl) (fun _ _ h => h) (fun j => get_push_upd st _ j) rfl (by simp)
          · simp at hev
      · -- onto a row of its own
        rename_i id off len sz'
        simp only [R] at rs
        obtain ⟨b, o, z, cap, hm, hv, hlc, hz2⟩ := rs
        split at hev
        · rename_i cs hg
          split at hev
          · rename_i hcc
            obtain ⟨rfl, hend⟩ := hcc
            split at hev
            · rename_i hn0
              cases hev
              exact none0 _ _ _ hv hlc hn0 rfl rfl
            · rename_i hn0
              split at hev
              · rename_i hb
                cases hev
                have hidlt := lt_next hg
                obtain ⟨b', o', z', m1, m2, m3⟩ := hs.obj id _ hg
                rw [hm] at m1
                cases m1
                by_cases hroom : len + n ≤ cap
                · -- in place
                  have hfr : μ st.next = none := hfr0.resolve_left (by simp)
                  obtain ⟨arr, et, wv, tail, q1, q2, q3, q4, q5⟩ := m2
                  have hwl := RL_length q4
                  have hones : ∀ v ∈ us, oneV v = true := ones_sound hone hur
                  have hpos : 0 < n * i.size := Nat.mul_pos (Nat.pos_of_ne_zero hn0) (Nat.pos_of_ne_zero hsz)
                  have hfit : o + off + len * i.size + 0 + us.length ≤ arr.size := by
                    rw [hul, q2]
                    have : (len + n) * i.size ≤ cap * i.size := Nat.mul_le_mul_right _ hroom
                    rw [Nat.add_mul] at this
                    omega
                  obtain ⟨w', arr', r1, r2, r3, r4, r5⟩ := run_storeCells P b (o + off + len * i.size) et us 0 w arr q1 hones hfit
                  have hrun := run_append_room (P := P) (b := b) (o := o + off) (sLen := len) (sCap := cap) ht hu hi (hx w) hroom (hnew w rfl) r1 ty
                  have hob : ObjAt (updMu μ st.next (b, o + off, z)) Φ w' b (o + off) z (.cells (cs.drop off ++ new)) := by
                    refine ⟨arr', et, wv.drop off ++ us, tail.drop us.length, r3, by rw [r4]; exact q2, ?_, RL_mono (updMu_le hfr) (Phi.le_refl _) _ _ (RL_append (RL_drop off q4) hur), all_app (all_sub q5 fun _ hx => List.mem_of_mem_drop hx) hone⟩
                    rw [r5]
                    simp only [Nat.add_zero]
                    have e1 : o + off + len * i.size = o + wv.length := by omega
                    rw [e1]
                    have hA : o + wv.length + us.length ≤ arr.toList.length := by simp; omega
                    have e2 : arr.toList.take (o + wv.length) = arr.toList.take o ++ wv := by
                      have : arr.toList = arr.toList.take o ++ (wv ++ tail) := by rw [← q3]; simp
                      conv => lhs; rw [this]
                      rw [List.take_append, List.take_of_length_le (by simp; omega)]
                      congr 1
                      have : o + wv.length - (arr.toList.take o).length = wv.length := by simp; omega
                      rw [this]
                      simp
                    have e3 : arr.toList.drop (o + wv.length + us.length) = tail.drop us.length := by
                      rw [Nat.add_assoc, ← List.drop_drop, q3, List.drop_append]
                      have : wv.length + us.length - wv.length = us.length := by omega
                      rw [this]
                      simp
                    rw [e2, e3]
                    have hlen1 : (arr.toList.take o).length = o := by simp; omega
                    rw [← List.drop_drop, List.append_assoc, List.append_assoc]
                    rw [List.drop_append_of_le_length (by omega)]
                    have : List.drop o (arr.toList.take o) = [] := by simp
                    rw [this, List.nil_append, List.drop_append_of_le_length (by omega)]
                    simp [List.append_assoc]
                  have hmv := hs.move hg hm r2 hfr (Store.get_none _ _ (Nat.le_refl _)) hob
                  have hfn : ((st.set id none).push (.cells (cs.drop off ++ new))).get = upd (upd st.get id none) st.next (some (.cells (cs.drop off ++ new))) := funext fun j => get_set_push st id none _ hidlt j
                  refine ⟨_, w', _, by rw [hv]; exact hrun, by rw [hfn]; exact hmv.1, by rw [hfn]; exact hmv.2, ?_⟩
                  simp only [R]
                  refine ⟨b, o + off, z, cap, by simp [updMu], by simp, hroom, ?_⟩
                  omega
                · -- a new row
                  obtain ⟨ov, ov1, ov2⟩ := m2.values
                  have hovl := RL_length ov1
                  refine grow (upd st.get id none) _ len cap (cs.drop off) (ov.drop off) hv (by omega) hb.1 hb.2 (RL_drop off ov1) (all_sub m2.one fun _ hx => List.mem_of_mem_drop hx) (by simp; omega) ?_ ?_ ?_ rfl rfl
                  · intro w1 hw1
                    refine run_firstCells_row (w := w1) i.size len b (o + off) len cap (ov.drop off) (by simp; omega) ?_
                    intro j q hj
                    rw [List.getElem?_drop] at hj
                    have := ov2 _ _ hj
                    simp only [World.cell?, hw1] at this ⊢
                    rw [Nat.add_assoc]
                    exact this
                  · intro q ob hq
                    by_cases e : q = id
                    · subst e; simp [upd] at hq
                    · simpa [upd, e] using hq
                  · exact fun j => get_set_push st id none _ hidlt j
              · simp at hev
          · simp at hev
        · simp at hev
      · -- onto a list: nothing
        rename_i sz' xs
        split at hev
        · rename_i hn0
          cases hev
          simp only [R, RP] at rs
          have rs' := rs
          obtain ⟨b, o, cap, sp, e1, e2, _⟩ := rs'
          exact none0 _ _ _ e1 e2 hn0 rfl rfl
        · simp at hev
      · simp at hev
    · simp at hev
  · simp at hev

/-! Maps. -/
theorem run_find_put {t : TypeId} {ks : List SK} (ht : flatT P t = some ks) {k : List D} {x : D} {us : List Value} (hk : RL μ Φ k us) : ∀ {kvs kvs' : List (D × D)} {es : List MapEntry} (i : Nat), RKV μ Φ kvs es → putKV ks k x kvs = some kvs' →
    (kvs' = kvs ++ [(.agg k, x)] ∧ (Instr.findAsking t (.agg us.toArray) es i).run P w = .ok none w) ∨
    ∃ j v l e, kvs' = kvs.set j (.agg k, x) ∧ (Instr.findAsking t (.agg us.toArray) es i).run P w = .ok (some (i + j, v)) w ∧ es[j]? = some e ∧ R μ Φ (.agg l) e.key ∧ sameScalars ks k l = some true
  | [], kvs', es, i, hr, h => by
    simp only [RKV] at hr
    subst hr
    simp [putKV] at h
    exact .inl ⟨by simp [h], by simp [Instr.findAsking]⟩
  | (k', v') :: kvs, kvs', es, i, hr, h => by
    simp only [RKV] at hr
    obtain ⟨e, l, rfl, h1, h2, h3⟩ := hr
    by_cases hagg : ∃ b', k' = .agg b'
    · obtain ⟨b', rfl⟩ := hagg
      simp only [putKV] at h
      have h1' := h1
      simp only [R] at h1
      obtain ⟨ws, hw, hws⟩ := h1
      split at h
      · rename_i hsame
        simp at h; subst h
        have := run_equal_struct (w := w) ht hk hws hsame
        exact .inr ⟨0, e.val, b', e, by simp, by simp [Instr.findAsking, hw, this], by simp, h1', hsame⟩
      · rename_i hsame
        obtain ⟨kvs1, hp, e1⟩ := map_some h
        subst e1
        have := run_equal_struct (w := w) ht hk hws hsame
        rcases run_find_put ht hk (i + 1) h3 hp with ⟨q0, q⟩ | ⟨j, v, l2, e2, q0, q, q2, q3, q4⟩
        · exact .inl ⟨by simp [q0], by simp [Instr.findAsking, hw, this, q]⟩
        · refine .inr ⟨j + 1, v, l2, e2, by simp [q0], ?_, by simpa using q2, q3, q4⟩
          simp only [Instr.findAsking, Sem.run_bind, hw, this, Result.andThen_ok, Bool.false_eq_true, if_false, q]
          congr 3
          omega
      · simp at h
    · cases k' <;> first | exact absurd ⟨_, rfl⟩ hagg | (simp [putKV] at h)

theorem RKV_append : ∀ {kvs : List (D × D)} {es : List MapEntry} {k v : D} {e : MapEntry}, RKV μ Φ kvs es → R μ Φ k e.key → R μ Φ v e.val → RKV μ Φ (kvs ++ [(k, v)]) (es ++ [e])
  | [], es, k, v, e, h, h1, h2 => by
    simp only [RKV] at h
    subst h
    simp only [List.nil_append, RKV]
    exact ⟨e, [], rfl, h1, h2, rfl⟩
  | (k', v') :: r, es, k, v, e, h, h1, h2 => by
    simp only [RKV] at h
    obtain ⟨e', l, rfl, q1, q2, q3⟩ := h
    simp only [List.cons_append, RKV]
    exact ⟨e', l ++ [e], rfl, q1, q2, RKV_append q3 h1 h2⟩

theorem RKV_set : ∀ {kvs : List (D × D)} {es : List MapEntry} (j : Nat) {k v : D} (f : MapEntry → MapEntry), RKV μ Φ kvs es → (∀ e, R μ Φ k (f e).key ∧ R μ Φ v (f e).val) → RKV μ Φ (kvs.set j (k, v)) (es.modify j f)
  | [], es, j, k, v, f, h, _ => by
    simp only [RKV] at h
    subst h
    simp [RKV]
  | (k', v') :: r, es, j, k, v, f, h, hf => by
    simp only [RKV] at h
    obtain ⟨e', l, rfl, q1, q2, q3⟩ := h
    cases j with
    | zero => simp only [List.set_cons_zero, List.modify_zero_cons, RKV]; exact ⟨_, _, rfl, (hf e').1, (hf e').2, q3⟩
    | succ j => simp only [List.set_cons_succ, List.modify_succ_cons, RKV]; exact ⟨_, _, rfl, q1, q2, RKV_set j f q3 hf⟩

theorem bytes_eq {a b : ByteArray} (h : (a == b) = true) : a = b := by
  rw [beq_toListBytes, ByteArray.toList_eq, ByteArray.toList_eq] at h
  obtain ⟨⟨x⟩⟩ := a
  obtain ⟨⟨y⟩⟩ := b
  simp at h
  subst h
  rfl
theorem bytes_self (a : ByteArray) : (a == a) = true := by
  rw [beq_toListBytes]; simp
theorem same_values : ∀ {ks : List SK} {k l : List D} {us vs : List Value}, sameScalars ks k l = some true → RL μ Φ k us → RL μ Φ l vs → us = vs ∧ ∀ n x, x ∈ us → Instr.sameBits n x x = true
  | [], [], [], us, vs, _, h1, h2 => by
    simp only [RL] at h1 h2
    subst h1; subst h2
    simp
  | [], [], _ :: _, _, _, h, _, _ => by simp [sameScalars] at h
  | [], _ :: _, _, _, _, h, _, _ => by simp [sameScalars] at h
  | _ :: _, [], _, _, _, h, _, _ => by simp [sameScalars] at h
  | _ :: _, _ :: _, [], _, _, h, _, _ => by simp [sameScalars] at h
  | t :: ks, x :: k, y :: l, us, vs, h, h1, h2 => by
    simp only [sameScalars] at h
    split at h
    · rename_i p q hp hq
      simp at h
      obtain ⟨rfl, rfl⟩ := h
      simp only [RL] at h1 h2
      obtain ⟨u, us', rfl, r1, r2⟩ := h1
      obtain ⟨v, vs', rfl, r3, r4⟩ := h2
      obtain ⟨e1, e2⟩ := same_values hq r2 r4
      have huv : u = v ∧ ∀ n, Instr.sameBits n u u = true := by
        cases t <;> cases x <;> cases y <;> simp [sameScalar] at hp <;> simp only [R] at r1 r3 <;> subst r1 <;> subst r3
        · obtain ⟨rfl, rfl⟩ := hp; exact ⟨rfl, fun n => by cases n <;> simp [Instr.sameBits]⟩
        · subst hp; exact ⟨rfl, fun n => by cases n <;> simp [Instr.sameBits]⟩
        · have := bytes_eq hp
          subst this
          exact ⟨rfl, fun n => by cases n <;> simp [Instr.sameBits, bytes_self]⟩
      refine ⟨by rw [huv.1, e1], ?_⟩
      intro n z hz
      rcases List.mem_cons.1 hz with rfl | hz
      · exact huv.2 n
      · exact e2 n z hz
    · simp at h

theorem sameBits_agg (n : Nat) (us : List Value) (h : ∀ n x, x ∈ us → Instr.sameBits n x x = true) : Instr.sameBits (n + 1) (.agg us.toArray) (.agg us.toArray) = true := by
  simp only [Instr.sameBits, beq_self_eq_true, Bool.true_and]
  rw [List.all_eq_true]
  intro p hp
  obtain ⟨x, y⟩ := p
  have hxy : x = y ∧ x ∈ us := by
    have : ∀ (l : List Value), (x, y) ∈ l.zip l → x = y ∧ x ∈ l := by
      intro l
      induction l with
      | nil => simp
      | cons a l ih =>
        intro hm
        simp at hm
        rcases hm with ⟨rfl, rfl⟩ | hm
        · simp
        · have := ih hm; exact ⟨this.1, by simp [this.2]⟩
    exact this us hp
  simp only
  rw [← hxy.1]
  exact h n x hxy.2

theorem mapset_core {t kt et : TypeId} {ks : List SK} (hu : P.underlying t = some (.map kt et)) (hks : flatT P kt = some ks) {st : Store} (hs : Sim μ Φ st.get w) {id : Nat} {kvs kvs' : List (D × D)} (hg : st.get id = some (.map kvs))
    {m k v : Value} {kd : List D} {vd : D} (rm : R μ Φ (.map id) m) (rk : R μ Φ (.agg kd) k) (hkl : kd.length = ks.length) (rv : R μ Φ vd v) (hput : putKV ks kd vd kvs = some kvs') :
    ∃ w', (Instr.mapUpdate t m k v).run P w = .ok () w' ∧ Sim μ Φ (st.set id (some (.map kvs'))).get w' ∧ Evo μ Φ st.get w μ Φ (st.set id (some (.map kvs'))).get w' st.next st.next := by
  simp only [R] at rm rk
  obtain ⟨b, o, z, hm, rfl⟩ := rm
  obtain ⟨us, rfl, hus⟩ := rk
  obtain ⟨b', o', z', m1, m2, _⟩ := hs.obj id _ hg
  rw [hm] at m1
  cases m1
  obtain ⟨es, clock, hb, hkv⟩ := m2
  have hck := run_checkKey_struct (P := P) (w := w) (em := false) hks us (by rw [RL_length hus, hkl]; exact Nat.le_refl _)
  have hgo := MapKept.run_getObj_map (P := P) hb
  have hidlt := lt_next hg
  have hfn : ∀ x, (st.set id x).get = upd st.get id x := fun x => funext fun j => get_set_upd st id x hidlt j
  have fin : ∀ (es' : Array MapEntry) (clock' : Nat), RKV μ Φ kvs' es'.toList →
      Sim μ Φ (st.set id (some (.map kvs'))).get { w with heap := w.heap.setIfInBounds b (.map es' clock') } ∧
      Evo μ Φ st.get w μ Φ (st.set id (some (.map kvs'))).get { w with heap := w.heap.setIfInBounds b (.map es' clock') } st.next st.next := by
    intro es' clock' hk'
    have hlt : b < w.heap.size := (Array.getElem?_eq_some_iff.1 hb).1
    have hsb : SameBut b w { w with heap := w.heap.setIfInBounds b (.map es' clock') } :=
      ⟨rfl, rfl, rfl, by simp, fun j hj => by simp only; rw [Array.getElem?_setIfInBounds_ne (fun e => hj e.symm)]⟩
    have hw := hs.write hg hm hsb (vo' := .map kvs') ⟨es', clock', by simp [hlt], hk'⟩ st.next
    rw [hfn]
    exact hw
  rcases run_find_put (w := w) hks hus 0 hkv hput with ⟨e1, hf⟩ | ⟨j, v0, l, e, e1, hf, hej, hrk, hsame⟩
  · have hfk : (Instr.findKey kt (.agg us.toArray) es.toList).run P w = .ok none w := by rw [run_findKey_struct hks]; exact hf
    refine ⟨_, ?_, fin (es.push { key := .agg us.toArray, val := v, born := clock }) (clock + 1) ?_⟩
    · simp [Instr.mapUpdate, run_underlying hu, hgo, hck, hfk, MapKept.run_setObj_map _ hb]
    · rw [e1]
      simp only [Array.toList_push]
      exact RKV_append hkv (by simp only [R]; exact ⟨us, rfl, hus⟩) rv
  · have hfk : (Instr.findKey kt (.agg us.toArray) es.toList).run P w = .ok (some (0 + j, v0)) w := by rw [run_findKey_struct hks]; exact hf
    rw [Nat.zero_add] at hfk
    simp only [R] at hrk
    obtain ⟨vs, ek, hvs⟩ := hrk
    obtain ⟨q1, q2⟩ := same_values hsame hus hvs
    have hsb : Instr.sameBits 10000 (.agg us.toArray) (.agg us.toArray) = true := sameBits_agg 9999 us q2
    have hkey : es[j]? = some e := by simpa using hej
    refine ⟨_, ?_, fin (es.modify j fun e => { e with key := .agg us.toArray, val := v }) clock ?_⟩
    · have hstay : (Instr.keyThatStays (((es[j]?).map (·.key)).getD (.agg us.toArray)) (.agg us.toArray)).run P w = .ok (.agg us.toArray) w := by
        rw [hkey]
        simp only [Option.map_some, Option.getD_some, ek, ← q1, Instr.keyThatStays, hsb, if_true, Sem.run_pure]
      simp only [Instr.mapUpdate, Sem.run_bind, run_underlying hu, Result.andThen_ok, hgo, hck, hfk, hstay, MapKept.run_setObj_map _ hb]
    · rw [e1, Array.toList_modify]
      exact RKV_set j _ hkv (fun e => ⟨by simp only [R]; exact ⟨us, rfl, hus⟩, rv⟩)
end
end Go.V
