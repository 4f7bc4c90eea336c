/- The V machine: operations on values alone: the theorem. -/
import Derived.Test.YtdejcadenmggaaaVkPure2
namespace Go.V
section
variable {P : Program} {md : FuncId → Mode} {μ : Mu} {Φ : Phi} {env : Env} {a : Act} {d : D}

theorem gives_value {s : Sem Value} {w : World} (h : ∃ v, s.run P w = .ok v w ∧ R μ Φ d v) : Gives P μ Φ (do pure (.value (← s))) w d := by
  obtain ⟨v, h1, h2⟩ := h
  exact ⟨v, by simp [h1], h2⟩

theorem minmax_run {isMax : Bool} : ∀ {xs : List D} {x : D} {us : List Value} {u : Value} (w : World), R μ Φ x u → RL μ Φ xs us → minmaxV isMax x xs = some d →
    ∃ v, (us.foldlM (if isMax then Builtin.max2 else Builtin.min2) u : Sem Value).run P w = .ok v w ∧ R μ Φ d v
  | [], x, us, u, w, hx, hr, h => by
    simp only [RL] at hr; subst hr
    simp [minmaxV] at h; subst h
    exact ⟨u, by simp, hx⟩
  | y :: xs, x, us, u, w, hx, hr, h => by
    simp only [RL] at hr
    obtain ⟨v, vs, rfl, hv, hvs⟩ := hr
    simp only [minmaxV] at h
    split at h
    · rename_i k n k' m
      simp only [R] at hx hv
      subst hx; subst hv
      cases isMax
      · obtain ⟨r, h1, h2⟩ := minmax_run (us := vs) (u := .int k (if m < n then m else n)) w (by simp only [R]; rfl) hvs h
        exact ⟨r, by simpa [Builtin.min2] using h1, h2⟩
      · obtain ⟨r, h1, h2⟩ := minmax_run (us := vs) (u := .int k (if m > n then m else n)) w (by simp only [R]; rfl) hvs h
        exact ⟨r, by simpa [Builtin.max2] using h1, h2⟩
    · simp at h

theorem run_partN {t : TypeId} {n : Option Nat} (ht : shapeN P t = some n) {off : Nat} {cs : List D} (h : pull n off cs = some d) {us : List Value} (hr : RL μ Φ cs us) (w : World) :
    ∃ v, (part t us.toArray off).run P w = .ok v w ∧ R μ Φ d v := by
  have hp := pull_sound h hr
  unfold shapeN isAggT at ht
  cases hu : P.underlying t with
  | none => simp [hu] at ht
  | some td =>
    have aggCase : (∃ k, szOf P t = some k ∧ n = some k) → (isAgg t).run P w = .ok true w → ∃ v, (part t us.toArray off).run P w = .ok v w ∧ R μ Φ d v := by
      rintro ⟨k, hk, rfl⟩ hag
      refine ⟨_, ?_, hp.2⟩
      have hsz : (sizeOf t).run P w = .ok k w := run_sizeOf hk w
      simp only [part, Sem.run_bind, hag, Result.andThen_ok, if_true, hsz, Sem.run_pure]
      congr 2
      simp [List.extract_eq_take_drop]
    have cellCase : n = none → (isAgg t).run P w = .ok false w → ∃ v, (part t us.toArray off).run P w = .ok v w ∧ R μ Φ d v := by
      rintro rfl hag
      obtain ⟨u, h1, h2⟩ := hp
      exact ⟨u, by simp [part, hag, h1], h2⟩
    cases td <;> simp only [hu] at ht <;> cases hs : szOf P t <;> simp [hs] at ht <;> first
      | (refine aggCase ⟨_, hs, ht.symm⟩ ?_; simp [isAgg, run_underlying hu])
      | (refine cellCase ht.symm ?_; simp [isAgg, run_underlying hu])

theorem idxA_sound {t e : TypeId} {n : Nat} (ht : elemOfSlice P t = some e) (hn : szOf P e = some n) {x i : D} {u j : Value} (hx : R μ Φ x u) (hi : R μ Φ i j) (h : idxAV n x i = some d) (w : World) :
    ∃ v, (Instr.indexAt t u j).run P w = .ok v w ∧ R μ Φ d v := by
  have htu : P.underlying t = some (.slice e) := by
    unfold elemOfSlice at ht
    split at ht
    · rename_i e' hu; simp at ht; rw [hu, ht]
    · simp at ht
  unfold idxAV at h
  split at h
  · rename_i s xs k m
    simp only [R, RP] at hx hi
    obtain ⟨b, o, cap, sp, rfl, _, hsp, hg⟩ := hx
    subst hi
    split at h
    · rename_i hc
      obtain ⟨rfl, h0⟩ := hc
      obtain ⟨g, hgx, e1⟩ := map_some h
      subst e1
      have hlt : m.toNat < xs.length := (List.getElem?_eq_some_iff.1 hgx).1
      obtain rfl : sp = none := by rcases hsp with h | h; exact h; simp [h] at hlt
      refine ⟨.pointer (some ⟨b, o + m.toNat * s, none⟩), ?_, ?_⟩
      · have hb : 0 ≤ m ∧ m < (xs.length : Int) := ⟨h0, by omega⟩
        simp [Instr.indexAt, asIntOf, run_underlying htu, hb, run_sizeOf hn, addr_add]
      · simp only [R, RP]
        exact ⟨b, o + m.toNat * s, rfl, (RG_get hg hgx).2⟩
    · simp at h
  · rename_i id off len s k m
    simp only [R] at hx hi
    obtain ⟨b, o, z, cap, hm, rfl, hlc, hz⟩ := hx
    subst hi
    split at h
    · rename_i hc
      obtain ⟨rfl, hb⟩ := hc
      simp at h; subst h
      refine ⟨.pointer (some ⟨b, o + off + m.toNat * s, none⟩), ?_, ?_⟩
      · simp [Instr.indexAt, asIntOf, run_underlying htu, hb, run_sizeOf hn, addr_add]
      · simp only [R]
        exact ⟨b, o, z, hm, by simp [Nat.add_assoc]⟩
    · simp at h
  · simp at h

theorem idxS_sound {t : TypeId} (ht : P.underlying t = some .string) {x i : D} {u j : Value} (hx : R μ Φ x u) (hi : R μ Φ i j) (h : idxSV x i = some d) (w : World) :
    ∃ v, (Instr.index t u j).run P w = .ok v w ∧ R μ Φ d v := by
  unfold idxSV at h
  split at h
  · rename_i s k m
    simp only [R] at hx hi
    subst hx; subst hi
    split at h
    · rename_i h0
      obtain ⟨b, hb, e1⟩ := map_some h
      subst e1
      exact ⟨.int .u8 b.toNat, by simp [Instr.index, asIntOf, run_underlying ht, h0, hb], by simp only [R]⟩
    · simp at h
  · simp at h

theorem len_sound {t : TypeId} {i : Bool} (ht : if i then P.underlying t = some .string else ∃ e, P.underlying t = some (.slice e)) {x : D} {u : Value} (hx : R μ Φ x u) (h : lenV i x = some d) (w : World) (ty : TypeId) :
    ∃ v, (Builtin.len_ #[t] ty #[u]).run P w = .ok v w ∧ R μ Φ d v := by
  unfold lenV at h
  split at h
  · simp only [R] at hx
    subst hx
    simp at h; subst h
    simp only [if_true] at ht
    exact ⟨_, by simp [Builtin.len_, run_underlying ht, goInt]; rfl, by simp only [R]⟩
  · simp only [R] at hx
    subst hx
    simp at h; subst h
    obtain ⟨e, ht⟩ := ht
    exact ⟨_, by simp [Builtin.len_, run_underlying ht, goInt]; rfl, by simp only [R]⟩
  · simp only [R, RP] at hx
    obtain ⟨b, o, cap, sp, rfl, _⟩ := hx
    simp at h; subst h
    obtain ⟨e, ht⟩ := ht
    exact ⟨_, by simp [Builtin.len_, run_underlying ht, goInt]; rfl, by simp only [R]⟩
  · simp only [R] at hx
    obtain ⟨b, o, z, cap, _, rfl, _⟩ := hx
    simp at h; subst h
    obtain ⟨e, ht⟩ := ht
    exact ⟨_, by simp [Builtin.len_, run_underlying ht, goInt]; rfl, by simp only [R]⟩
  · simp at h

theorem exec_builtin {b : Builtin} {args : Array Operand} {types : Array TypeId} {s : Sem Value} {w : World} {ty : TypeId}
    (hb : ∀ consts, builtin b types ty consts (args.map a.eval) = (do pure (.value (← s)))) (h : ∃ v, s.run P w = .ok v w ∧ R μ Φ d v) (dst pos after guard) :
    Gives P μ Φ (execOp a.eval ⟨dst, .call ⟨.builtin b, args, types⟩, ty, pos, after, guard⟩) w d := by
  obtain ⟨v, h1, h2⟩ := h
  refine ⟨v, ?_, h2⟩
  simp only [execOp, resolve, invoke, Sem.run_bind, Sem.run_pure, Result.andThen_ok, hb, h1]

theorem zeroOf_ok {t : TypeId} {z : List D} (hz : zeroOf P t = some z) : ∃ i v, P.info? t = some i ∧ i.zero = some v ∧ RPL Φ z v.cells.toList ∧ z.all oneCell = true := by
  unfold zeroOf at hz
  split at hz
  · rename_i i hi
    split at hz
    · rename_i v hv
      obtain ⟨dz, hdz, e⟩ := map_some hz
      refine ⟨i, v, hi, hv, ?_⟩
      subst e
      have one1 : ∀ (v : Value) (dz : D), ofV1 v = some dz → oneCell dz = true := by
        intro v dz h
        unfold ofV1 at h
        split at h <;> simp at h <;> subst h <;> rfl
      have hr := ofV_ok (Φ := Φ) hdz
      unfold ofV at hdz
      split at hdz
      · rename_i c
        obtain ⟨l1, h1, e1⟩ := map_some hdz
        subst e1
        simp only [cellsOf, Value.cells]
        refine ⟨ofVL_ok h1, ?_⟩
        have : ∀ (vs : List Value) (l : List D), ofVL vs = some l → l.all oneCell = true := by
          intro vs
          induction vs with
          | nil => intro l h; simp [ofVL] at h; subst h; rfl
          | cons v vs ih =>
            intro l h
            simp only [ofVL] at h
            split at h
            · rename_i d1 l1 h1 h2
              simp at h; subst h
              simp [one1 _ _ h1]
              simpa using ih _ h2
            · simp at h
        exact this _ _ h1
      · have : v.cells = #[v] ∧ cellsOf dz = [dz] := by
          unfold ofV1 at hdz
          split at hdz <;> simp at hdz <;> subst hdz <;> exact ⟨rfl, rfl⟩
        rw [this.1, this.2]
        refine ⟨by simp only [RPL]; exact ⟨v, [], rfl, hr, rfl⟩, by simp [one1 _ _ hdz]⟩
    · simp at hz
  · simp at hz

theorem run_zero {t : TypeId} {i : TypeInfo} {v : Value} (h1 : P.info? t = some i) (h2 : i.zero = some v) (w : World) : (zeroValue t).run P w = .ok v w := by
  simp [zeroValue, typeInfo, h1, h2]

theorem run_places {fs : Array Field} (h : sizesOk P fs = true) (w : World) :
    (fs.mapM (fun f => do pure (f.offset, ← sizeOf f.type)) : Sem (Array (Nat × Nat))).run P w = .ok (fs.map fun f => (f.offset, (szOf P f.type).getD 0)) w := by
  rw [Array.mapM_eq_mapM_toList]
  have : ∀ (l : List Field), l.all (fun f => (szOf P f.type).isSome) = true →
      (l.mapM (fun f => do pure (f.offset, ← sizeOf f.type)) : Sem (List (Nat × Nat))).run P w = .ok (l.map fun f => (f.offset, (szOf P f.type).getD 0)) w := by
    intro l
    induction l with
    | nil => intro _; simp
    | cons f l ih =>
      intro hl
      simp only [List.all_cons, Bool.and_eq_true] at hl
      obtain ⟨n, hn⟩ := Option.isSome_iff_exists.1 hl.1
      simp only [List.mapM_cons, Sem.run_bind, run_sizeOf hn, Result.andThen_ok, Sem.run_pure, ih hl.2, List.map_cons, hn, Option.getD_some]
  have h2 := this fs.toList h
  rw [Sem.run_map, h2]
  simp only [Result.andThen_ok]
  congr 1
  apply Array.ext'
  simp

theorem partsOf_ok {fs : Array Field} (he : EnvR μ Φ env a) : ∀ {l : List (Nat × Operand)} {ps : List (Nat × Nat × Opd)}, partsOf P fs l = some ps →
    ps.length = (l.map fun (i, x) => (i, a.eval x)).length ∧
    ∀ (j : Nat) (p : Nat × Nat × Opd) (q : Nat × Value), ps[j]? = some p → (l.map fun (i, x) => (i, a.eval x))[j]? = some q →
      (fs.map fun f => (f.offset, (szOf P f.type).getD 0))[q.1]? = some (p.1, p.2.1) ∧ R μ Φ (env.ev p.2.2) q.2
  | [], ps, h => by simp [partsOf] at h; subst h; simp
  | (i, x) :: l, ps, h => by
    simp only [partsOf] at h
    split at h
    · rename_i f y l' hf hy hl
      split at h
      · rename_i n hn
        simp at h; subst h
        have ih := partsOf_ok he hl
        refine ⟨by simpa using ih.1, ?_⟩
        intro j p q hp hq
        cases j with
        | zero =>
          simp at hp hq
          subst hp; subst hq
          refine ⟨by simp [hf, hn], opd_ok he hy⟩
        | succ j => exact ih.2 j p q (by simpa using hp) (by simpa using hq)
      · simp at h
    · simp at h

theorem run_fieldPlace {f : Field} {n : Nat} (h : szOf P f.type = some (n + 1)) (b o : Nat) (w : World) : (fieldPlace ⟨b, o, none⟩ f).run P w = .ok ⟨b, o + f.offset, none⟩ w := by
  simp [fieldPlace, run_sizeOf h, addr_add]

theorem run_field {t : TypeId} {f : Nat} {fd : Field} (h : fieldOf P t f = some fd) : ∃ fs, P.underlying t = some (.struct fs) ∧ fs[f]? = some fd := by
  unfold fieldOf at h
  split at h
  · rename_i fs hu; exact ⟨fs, hu, h⟩
  · simp at h

theorem P_sound {o : Oper} {po : POp} (hres : resOp P md o = some (.p po)) (he : EnvR μ Φ env a) (hev : evP env po = some d) (w : World) : Gives P μ Φ (execOp a.eval o) w d := by
  obtain ⟨dst, op, type, pos, after, guard⟩ := o
  cases op <;> simp only [resOp] at hres
  case move x =>
    obtain ⟨y, hy, e⟩ := map_some hres
    cases e
    simp only [evP] at hev
    cases hev
    exact ⟨a.eval x, by simp [execOp], opd_ok he hy⟩
  case assign x =>
    obtain ⟨y, hy, e⟩ := map_some hres
    cases e
    simp only [evP] at hev
    cases hev
    exact ⟨a.eval x, by simp [execOp], opd_ok he hy⟩
  case pick c x y =>
    split at hres
    · rename_i c' x' y' hc hx hy
      cases hres
      simp only [evP] at hev
      split at hev
      · rename_i t ht
        have rc := opd_ok he hc
        rw [ht] at rc
        simp only [R] at rc
        cases hev
        cases t
        · exact ⟨a.eval y, by simp [execOp, rc, asBool], opd_ok he hy⟩
        · exact ⟨a.eval x, by simp [execOp, rc, asBool], opd_ok he hx⟩
      · simp at hev
    · simp at hres
  case nilCheck x =>
    obtain ⟨y, hy, e⟩ := map_some hres
    cases e
    have rx := opd_ok he hy
    simp only [evP] at hev
    split at hev
    · rename_i id off hx
      cases hev
      rw [hx] at rx
      refine ⟨a.eval x, ?_, rx⟩
      simp only [R] at rx
      obtain ⟨b, o, z, _, e⟩ := rx
      simp [execOp, e]
    · rename_i cs off hx
      cases hev
      rw [hx] at rx
      refine ⟨a.eval x, ?_, rx⟩
      simp only [R, RP] at rx
      obtain ⟨b, o, e, _⟩ := rx
      simp [execOp, e]
    · rename_i f caps hx
      cases hev
      rw [hx] at rx
      refine ⟨a.eval x, ?_, rx⟩
      simp only [R] at rx
      obtain ⟨vs, e, _⟩ := rx
      simp [execOp, e]
    · simp at hev
  case binOp op t x y yt =>
    obtain ⟨p, hp, e⟩ := map_some hres
    cases e
    exact resBin_sound hp he hev w yt dst type pos after guard
  case unOp op t x =>
    obtain ⟨y, hy, e⟩ := map_some hres
    cases e
    have rx := opd_ok he hy
    simp only [evP] at hev
    refine gives_value (s := Op.unary op (a.eval x)) ?_
    unfold unV at hev
    split at hev
    · rename_i k n hx
      rw [hx] at rx
      simp only [R] at rx
      cases hev
      exact ⟨.int k (k.wrap (0 - n)), by simp [rx, Op.unary, Op.intArith], by simp only [R]⟩
    · rename_i k n hx
      rw [hx] at rx
      simp only [R] at rx
      cases hev
      exact ⟨_, by rw [rx]; rfl, by simp only [R]⟩
    · rename_i b hx
      rw [hx] at rx
      simp only [R] at rx
      cases hev
      exact ⟨_, by simp [rx, Op.unary]; rfl, by simp only [R]⟩
    · simp at hev
  case convert src dst' x =>
    split at hres
    · rename_i y k0 k hy hs hd
      cases hres
      have rx := opd_ok he hy
      simp only [evP] at hev
      split at hev
      · rename_i k1 n hx
        rw [hx] at rx
        simp only [R] at rx
        cases hev
        exact ⟨_, by simp [execOp, convert, rx, run_underlying hs, run_underlying hd, Conv.intToInt]; rfl, by simp only [R]⟩
      · simp at hev
    · split at hres <;> simp at hres
    · simp at hres
  case build t parts =>
    split at hres
    · rename_i fs z hu hz
      split at hres
      · rename_i l hl
        split at hres
        rotate_left
        · simp at hres
        rename_i hso
        cases hres
        simp only [evP] at hev
        obtain ⟨cs, hcs, e⟩ := map_some hev
        subst e
        obtain ⟨i, zv, hi, hzv, hzr, _⟩ := zeroOf_ok (Φ := Φ) hz
        obtain ⟨p1, p2⟩ := partsOf_ok he hl
        obtain ⟨ws, w1, w2, _⟩ := fill_sound (μ := μ) (Φ := Φ) ((fs.map fun f => (f.offset, (szOf P f.type).getD 0))[·]?) l _ z cs zv.cells.toList p1 p2 (RL_of_RPL _ _ hzr) hcs
        refine gives_value (s := Instr.build t (parts.map fun (i, x) => (i, a.eval x))) ⟨.agg ws.toArray, ?_, (by simp only [R]; exact ⟨ws, rfl, w2⟩ : R μ Φ (.agg cs) (.agg ws.toArray))⟩
        have hpl : (parts.map fun (i, x) => (i, a.eval x)).toList = parts.toList.map fun (i, x) => (i, a.eval x) := Array.toList_map
        simp only [Array.toArray_toList] at w1
        simp only [Instr.build, Sem.run_bind, run_zero hi hzv, Result.andThen_ok, run_underlying hu, run_places hso, hpl, w1, Sem.run_pure]
      · simp at hres
    · simp at hres
  case fieldAddr t x f =>
    split at hres
    · rename_i y fd hy hf
      split at hres
      · rename_i n hn
        cases hres
        have rx := opd_ok he hy
        obtain ⟨fs, hu, hfs⟩ := run_field hf
        simp only [evP] at hev
        refine gives_value (s := Instr.fieldAt t (a.eval x) f) ?_
        split at hev
        · rename_i id o hx
          rw [hx] at rx
          simp only [R] at rx
          obtain ⟨b, o', z, hm, e⟩ := rx
          cases hev
          refine ⟨_, by simp [Instr.fieldAt, run_underlying hu, hfs, e, Instr.sureAddr, run_fieldPlace hn]; rfl, ?_⟩
          simp only [R]
          exact ⟨b, o', z, hm, by simp [Nat.add_assoc]⟩
        · rename_i cs o hx
          rw [hx] at rx
          simp only [R, RP] at rx
          obtain ⟨b, o', e, hc⟩ := rx
          cases hev
          refine ⟨_, by simp [Instr.fieldAt, run_underlying hu, hfs, e, Instr.sureAddr, run_fieldPlace hn]; rfl, ?_⟩
          simp only [R, RP]
          exact ⟨b, o', by simp [Nat.add_assoc], hc⟩
        · simp at hev
      · simp at hres
    · simp at hres
  case field t x f =>
    split at hres
    · rename_i y fd hy hf
      split at hres
      · rename_i n hn
        cases hres
        have rx := opd_ok he hy
        obtain ⟨fs, hu, hfs⟩ := run_field hf
        simp only [evP] at hev
        refine gives_value (s := Instr.field t (a.eval x) f) ?_
        split at hev
        · rename_i cs hx
          rw [hx] at rx
          simp only [R] at rx
          obtain ⟨us, e, hr⟩ := rx
          obtain ⟨v, h1, h2⟩ := run_partN hn hev hr w
          exact ⟨v, by simp [Instr.field, run_underlying hu, hfs, e, asAgg, h1], h2⟩
        · simp at hev
      · simp at hres
    · simp at hres
  case indexAddr t x i =>
    split at hres
    · rename_i off ho
      split at hres
      · rename_i y hy
        cases hres
        have rx := opd_ok he hy
        obtain ⟨len, e, k, n, s, hu, rfl, hs, hb, rfl⟩ := arrAtC_some ho
        simp only [evP] at hev
        refine gives_value (s := Instr.indexAt t (a.eval x) (a.eval (.const (.int k n)))) ?_
        have hc : a.eval (.const (.int k n)) = .int k n := rfl
        rw [hc]
        split at hev
        · rename_i id o hx
          rw [hx] at rx
          simp only [R] at rx
          obtain ⟨b, o', z, hm, e⟩ := rx
          cases hev
          refine ⟨_, by simp [Instr.indexAt, asIntOf, run_underlying hu, e, Instr.sureAddr, hb, run_sizeOf hs]; rfl, ?_⟩
          simp only [R]
          exact ⟨b, o', z, hm, by simp [Nat.add_assoc, addr_add]⟩
        · rename_i cs o hx
          rw [hx] at rx
          simp only [R, RP] at rx
          obtain ⟨b, o', e, hc⟩ := rx
          cases hev
          refine ⟨_, by simp [Instr.indexAt, asIntOf, run_underlying hu, e, Instr.sureAddr, hb, run_sizeOf hs]; rfl, ?_⟩
          simp only [R, RP]
          exact ⟨b, o', by simp [Nat.add_assoc, addr_add], hc⟩
        · simp at hev
      · simp at hres
    · split at hres
      · rename_i y j e hy hj he'
        split at hres
        · rename_i n hn
          cases hres
          simp only [evP] at hev
          exact gives_value (idxA_sound he' hn (opd_ok he hy) (opd_ok he hj) hev w)
        · simp at hres
      · simp at hres
  case index t x i =>
    split at hres
    · rename_i y j hy hj hu
      cases hres
      simp only [evP] at hev
      exact gives_value (idxS_sound hu (opd_ok he hy) (opd_ok he hj) hev w)
    · rename_i y j len e hy hj hu
      split at hres
      · rename_i n s hn hs
        cases hres
        simp only [evP] at hev
        have rx := opd_ok he hy
        have ri := opd_ok he hj
        refine gives_value (s := Instr.index t (a.eval x) (a.eval i)) ?_
        split at hev
        · rename_i cs kk k hx hi
          rw [hx] at rx
          rw [hi] at ri
          simp only [R] at rx ri
          obtain ⟨us, e1, hr⟩ := rx
          split at hev
          · rename_i hc
            obtain ⟨v, h1, h2⟩ := run_partN hn hev hr w
            refine ⟨v, ?_, h2⟩
            rw [e1, ri]
            simp [Instr.index, asIntOf, run_underlying hu, hc, run_sizeOf hs, h1]
          · simp at hev
        · simp at hev
      · simp at hres
    · simp at hres
  case slice t x lo hi mx =>
    cases mx with
    | some _ => simp at hres
    | none =>
      simp only at hres
      split at hres
      · rename_i y l h hy hl hh hu
        cases hres
        simp only [evP] at hev
        exact gives_value (slice_str_sound hu (opd_ok he hy) (resO_ok he hl) (resO_ok he hh) hev w)
      · rename_i y l h e hy hl hh hu
        split at hres
        · rename_i n hn
          cases hres
          simp only [evP] at hev
          exact gives_value (slice_row_sound hu hn (opd_ok he hy) (resO_ok he hl) (resO_ok he hh) hev w)
        · simp at hres
      · simp at hres
  case extract x i =>
    obtain ⟨y, hy, e⟩ := map_some hres
    cases e
    have rx := opd_ok he hy
    simp only [evP] at hev
    split at hev
    · rename_i vs hx
      rw [hx] at rx
      simp only [R] at rx
      obtain ⟨us, e, hr⟩ := rx
      obtain ⟨u, h1, h2⟩ := RL_get hr hev
      exact gives_value (s := Instr.extract (a.eval x) i) ⟨u, by simp [Instr.extract, e, h1], h2⟩
    · simp at hev
  case makeFunc fn first caps =>
    cases fn <;> simp only at hres <;> try (cases hres; done)
    rename_i f
    split at hres
    · rename_i h0
      obtain ⟨l, hl, e⟩ := map_some hres
      cases e
      simp only [evP] at hev
      cases hev
      have hr := opdL_ok he hl
      refine gives_value (s := Instr.makeFunc (.func f) (first.map a.eval) (caps.map a.eval)) ⟨.func (.func f) #[] (caps.map a.eval), ?_, ?_⟩
      · have : first = #[] := Array.eq_empty_of_size_eq_zero h0
        simp [Instr.makeFunc, this]
      · simp only [R]
        exact ⟨_, by apply congrArg; apply Array.ext'; simp, hr⟩
    · simp at hres
  case call c =>
    obtain ⟨callee, args, types⟩ := c
    cases callee with
    | invoke _ _ => simp at hres
    | value f => simp only at hres; split at hres <;> simp at hres
    | builtin b =>
      simp only [resBuiltin] at hres
      split at hres
      · rename_i x hargs
        split at hres
        · rename_i y t hy ht
          have ha : args = #[x] := by rw [← Array.toArray_toList (xs := args), hargs]
          have htt : types = #[t] := by rw [← Array.toArray_toList (xs := types), ht]
          subst ha; subst htt
          split at hres
          · rename_i e hu
            cases hres
            simp only [evP] at hev
            exact exec_builtin (s := Builtin.len_ #[t] type #[a.eval x]) (fun _ => by simp [builtin]) (len_sound (t := t) (i := false) (by simp; exact ⟨e, hu⟩) (opd_ok he hy) hev w type) dst pos after guard
          · rename_i hu
            cases hres
            simp only [evP] at hev
            exact exec_builtin (s := Builtin.len_ #[t] type #[a.eval x]) (fun _ => by simp [builtin]) (len_sound (t := t) (i := true) (by simpa using hu) (opd_ok he hy) hev w type) dst pos after guard
          · simp at hres
        · simp at hres
      · rename_i x r hargs
        split at hres
        · rename_i y l hy hl
          cases hres
          simp only [evP] at hev
          have ha : args = (x :: r).toArray := by rw [← hargs]
          subst ha
          refine exec_builtin (s := Builtin.min_ types type ((x :: r).toArray.map a.eval)) (fun _ => by simp [builtin]) ?_ dst pos after guard
          obtain ⟨v, h1, h2⟩ := minmax_run (P := P) (isMax := false) w (opd_ok he hy) (opdL_ok he hl) hev
          exact ⟨v, by simpa [Builtin.min_] using h1, h2⟩
        · simp at hres
      · rename_i x r hargs
        split at hres
        · rename_i y l hy hl
          cases hres
          simp only [evP] at hev
          have ha : args = (x :: r).toArray := by rw [← hargs]
          subst ha
          refine exec_builtin (s := Builtin.max_ types type ((x :: r).toArray.map a.eval)) (fun _ => by simp [builtin]) ?_ dst pos after guard
          obtain ⟨v, h1, h2⟩ := minmax_run (P := P) (isMax := true) w (opd_ok he hy) (opdL_ok he hl) hev
          exact ⟨v, by simpa [Builtin.max_] using h1, h2⟩
        · simp at hres
      · split at hres
        · split at hres
          · split at hres
            · split at hres <;> simp at hres
            · simp at hres
          · simp at hres
        · simp at hres
      · simp at hres
  case load t x => split at hres <;> simp at hres
  case lookup t m k ok =>
    split at hres
    · split at hres
      · split at hres <;> simp at hres
      · simp at hres
    · simp at hres
  case alloc t => obtain ⟨z, _, e⟩ := map_some hres; cases e
  case box t x => obtain ⟨z, _, e⟩ := map_some hres; cases e
  case buildSlice t len parts =>
    split at hres
    · split at hres
      · split at hres <;> simp at hres
      · simp at hres
    · simp at hres
  case makeSlice t l c =>
    split at hres
    · split at hres
      · split at hres <;> simp at hres
      · simp at hres
    · simp at hres
  case makeMap t r => cases r <;> simp at hres
  case store t x y => split at hres <;> simp at hres
  case mapUpdate t m k v =>
    split at hres
    · split at hres <;> simp at hres
    · simp at hres
  all_goals (cases hres; done)
end
end Go.V
