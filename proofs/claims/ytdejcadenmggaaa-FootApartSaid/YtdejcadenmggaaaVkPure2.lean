/- The V machine: operations on values alone, all of them. -/
import Derived.Test.YtdejcadenmggaaaVkPure
namespace Go.V
section
variable {P : Program} {md : FuncId → Mode} {μ : Mu} {Φ : Phi} {env : Env} {a : Act} {d : D}

theorem map_some {α β : Type} {f : α → β} {x : Option α} {y : β} (h : x.map f = some y) : ∃ z, x = some z ∧ f z = y := by
  cases x with
  | none => simp at h
  | some z => exact ⟨z, rfl, by simpa using h⟩

theorem bin_sound {op : BinOp} {t : TypeId} {ox oy : Operand} {x y : D} (hx : R μ Φ x (a.eval ox)) (hy : R μ Φ y (a.eval oy)) (h : binV op x y = some d) (w : World) (yt : TypeId) (dst type pos after guard) :
    Gives P μ Φ (execOp a.eval ⟨dst, .binOp op t ox oy yt, type, pos, after, guard⟩) w d := by
  unfold binV at h
  split at h
  · rename_i k n k' n'
    simp only [R] at hx hy
    split at h
    · exact bin_shift_sound hx hy (.inl rfl) h w yt dst pos after guard type
    · exact bin_shift_sound hx hy (.inr rfl) h w yt dst pos after guard type
    · rename_i h1 h2
      split at h
      · rename_i hk
        subst hk
        exact bin_int_sound hx hy ⟨fun e => h1 e, fun e => h2 e⟩ h w yt dst pos after guard type
      · simp at h
  · simp only [R] at hx hy
    exact bin_str_sound hx hy h w yt dst pos after guard type
  · simp at h

theorem nil_equal (n : Nat) {t : TypeId} {y : Operand} {k : NK} (hk : nilKind P t y = some k) {x : D} {u : Value} (hx : R μ Φ x u) {r : Bool} (hr : isNil k x = some r) (w : World) :
    (Op.equalIn (n + 1) t u (a.eval y)).run P w = .ok r w := by
  unfold nilKind at hk
  split at hk <;> simp at hk <;> subst hk <;> rename_i hu <;> simp only [Op.equalIn, Sem.run_bind, run_underlying hu, Result.andThen_ok, Act.eval] <;>
    cases x <;> simp only [isNil] at hr <;> simp only [R] at hx <;> first
      | (cases hr; done)
      | (obtain ⟨b1, o1, z1, _, rfl⟩ := hx; cases hr; rfl)
      | (obtain ⟨b1, o1, z1, cap1, _, rfl, _⟩ := hx; cases hr; rfl)
      | (obtain ⟨vs1, rfl, _⟩ := hx; cases hr; rfl)
      | (subst hx; cases hr; rfl)
      | (simp only [RP] at hx; obtain ⟨b1, o1, rfl, _⟩ := hx; cases hr; rfl)
      | (simp only [RP] at hx; obtain ⟨b1, o1, cap1, sp1, rfl, _⟩ := hx; cases hr; rfl)

theorem eqNil_sound {neg : Bool} {t : TypeId} {ox oy : Operand} {k : NK} (hk : nilKind P t oy = some k) {x : D} (hx : R μ Φ x (a.eval ox)) {r : Bool} (hr : isNil k x = some r)
    (w : World) (yt : TypeId) (dst type pos after guard) :
    Gives P μ Φ (execOp a.eval ⟨dst, .binOp (if neg then .neq else .eql) t ox oy yt, type, pos, after, guard⟩) w (.bool (if neg then !r else r)) := by
  have h1 : (Op.equal t (a.eval ox) (a.eval oy)).run P w = .ok r w := nil_equal 9999 hk hx hr w
  have hb : ∀ op, op = BinOp.eql ∨ op = BinOp.neq → (eqGuard op t ox oy (a.eval ox) (a.eval oy)).run P w = .ok () w ∧
      (binOp op t (a.eval ox) (a.eval oy)) = (Op.equal t (a.eval ox) (a.eval oy) >>= fun e => pure (.bool (if op = .neq then !e else e))) := by
    intro op hop
    unfold nilKind at hk
    split at hk <;> simp at hk <;> subst hk <;> cases x <;> simp only [isNil] at hr <;> simp only [R] at hx <;> first
      | (cases hr; done)
      | (obtain ⟨b1, o1, z1, _, e⟩ := hx; rw [e]; rcases hop with rfl | rfl <;> exact ⟨rfl, rfl⟩)
      | (obtain ⟨b1, o1, z1, cap1, _, e, _⟩ := hx; rw [e]; rcases hop with rfl | rfl <;> exact ⟨rfl, rfl⟩)
      | (obtain ⟨vs1, e, _⟩ := hx; rw [e]; rcases hop with rfl | rfl <;> exact ⟨rfl, rfl⟩)
      | (rw [hx]; rcases hop with rfl | rfl <;> exact ⟨rfl, rfl⟩)
      | (simp only [RP] at hx; obtain ⟨b1, o1, e, _⟩ := hx; rw [e]; rcases hop with rfl | rfl; exact ⟨rfl, rfl⟩; exact ⟨rfl, rfl⟩)
      | (simp only [RP] at hx; obtain ⟨b1, o1, cap1, sp1, e, _⟩ := hx; rw [e]; rcases hop with rfl | rfl; exact ⟨rfl, rfl⟩; exact ⟨rfl, rfl⟩)
  cases neg
  · obtain ⟨g1, g2⟩ := hb .eql (.inl rfl)
    refine ⟨.bool r, ?_, by simp only [R]; rfl⟩
    simp only [execOp, Bool.false_eq_true, if_false, Sem.run_bind, g1, g2, Result.andThen_ok, h1, Sem.run_pure, reduceCtorEq]
  · obtain ⟨g1, g2⟩ := hb .neq (.inr rfl)
    refine ⟨.bool (!r), ?_, by simp only [R]; rfl⟩
    simp only [execOp, if_true, Sem.run_bind, g1, g2, Result.andThen_ok, h1, Sem.run_pure]

theorem resBin_sound {op : BinOp} {t : TypeId} {ox oy : Operand} {po : POp} (hres : resBin P op t ox oy = some po) (he : EnvR μ Φ env a) (hev : evP env po = some d) (w : World) (yt : TypeId) (dst type pos after guard) :
    Gives P μ Φ (execOp a.eval ⟨dst, .binOp op t ox oy yt, type, pos, after, guard⟩) w d := by
  unfold resBin at hres
  split at hres
  · rename_i x y hx hy
    have rx := opd_ok he hx
    have ry := opd_ok he hy
    have key : ∀ (neg : Bool) (po : POp), op = (if neg then .neq else .eql) →
        ((plainT P t = true ∧ po = .bin op x y) ∨ (isBoolT P t = true ∧ po = .eqB neg x y) ∨ (∃ ks, flatT P t = some ks ∧ po = .eqAgg neg ks x y) ∨ (∃ k, nilKind P t oy = some k ∧ po = .eqNil neg k x)) →
        evP env po = some d → Gives P μ Φ (execOp a.eval ⟨dst, .binOp op t ox oy yt, type, pos, after, guard⟩) w d := by
      intro neg po hop hcs hev
      rcases hcs with ⟨_, rfl⟩ | ⟨hb, rfl⟩ | ⟨ks, hks, rfl⟩ | ⟨k, hk, rfl⟩
      · simp only [evP] at hev
        exact bin_sound rx ry hev w yt dst type pos after guard
      · simp only [evP] at hev
        split at hev
        · rename_i p q hp hq
          rw [hp] at rx
          rw [hq] at ry
          simp only [R] at rx ry
          simp at hev; subst hev
          rw [hop]
          have hb' : P.underlying t = some .bool := by
            unfold isBoolT at hb
            split at hb
            · assumption
            · simp at hb
          exact eqB_sound hb' rx ry w yt dst pos after guard type
        · simp at hev
      · simp only [evP] at hev
        split at hev
        · rename_i p q hp hq
          rw [hp] at rx
          rw [hq] at ry
          obtain ⟨r, hr, hd⟩ := map_some hev
          subst hd
          rw [hop]
          exact eqAgg_sound hks rx ry hr w yt dst pos after guard type
        · simp at hev
      · simp only [evP] at hev
        obtain ⟨r, hr, hd⟩ := map_some hev
        subst hd
        rw [hop]
        exact eqNil_sound hk rx hr w yt dst type pos after guard
    split at hres
    · refine key false po rfl ?_ hev
      split at hres
      · simp at hres; exact .inl ⟨by assumption, hres.symm⟩
      · split at hres
        · simp at hres; exact .inr (.inl ⟨by assumption, hres.symm⟩)
        · split at hres
          · simp at hres; exact .inr (.inr (.inl ⟨_, by assumption, hres.symm⟩))
          · obtain ⟨k, hk, e⟩ := map_some hres
            exact .inr (.inr (.inr ⟨k, hk, e.symm⟩))
    · refine key true po rfl ?_ hev
      split at hres
      · simp at hres; exact .inl ⟨by assumption, hres.symm⟩
      · split at hres
        · simp at hres; exact .inr (.inl ⟨by assumption, hres.symm⟩)
        · split at hres
          · simp at hres; exact .inr (.inr (.inl ⟨_, by assumption, hres.symm⟩))
          · obtain ⟨k, hk, e⟩ := map_some hres
            exact .inr (.inr (.inr ⟨k, hk, e.symm⟩))
    · simp at hres; subst hres
      simp only [evP] at hev
      exact bin_sound rx ry hev w yt dst type pos after guard
  · simp at hres

theorem slice_lst {b o cap : Nat} {sz : Nat} {xs : List (List D)} (h : RG Φ sz xs b o) {l hh : Nat} (h1 : hh ≤ xs.length) (h2 : l ≤ hh) (h3 : xs.length ≤ cap) :
    RP Φ (.lst sz ((xs.take hh).drop l)) (.slice (if cap = l then some ⟨b, o, none⟩ else some ⟨b, o + l * sz, none⟩) (hh - l) (cap - l)) := by
  simp only [RP]
  have hlen : ((xs.take hh).drop l).length = hh - l := by simp; omega
  by_cases hc : cap = l
  · have : (xs.take hh).drop l = [] := by apply List.eq_nil_of_length_eq_zero; omega
    refine ⟨b, o, cap - l, none, by rw [if_pos hc, hlen], by omega, .inl rfl, ?_⟩
    rw [this]; simp only [RG]
  · refine ⟨b, o + l * sz, cap - l, none, by rw [if_neg hc, hlen], by omega, .inl rfl, ?_⟩
    exact RG_drop l (by simp; omega) (RG_take hh h)

def RO (μ : Mu) (Φ : Phi) : Option D → Option Value → Prop
  | some d, some v => R μ Φ d v
  | none, none => True
  | _, _ => False

theorem bound_ok {x : Option D} {y : Option Value} {dflt n : Nat} (h : boundOf x dflt = some n) (hxy : RO μ Φ x y) :
    (y = none ∧ n = dflt) ∨ ∃ k i, y = some (.int k i) ∧ 0 ≤ i ∧ i.toNat = n := by
  cases x with
  | none =>
    cases y with
    | none => simp [boundOf] at h; exact .inl ⟨rfl, h.symm⟩
    | some v => exact hxy.elim
  | some e =>
    cases y with
    | none => exact hxy.elim
    | some v =>
      cases e <;> simp [boundOf] at h
      simp only [RO, R] at hxy
      subst hxy
      exact .inr ⟨_, _, rfl, h.1, h.2⟩

theorem bounds_run {isSlice : Bool} {len cap l h : Nat} {lo hi : Option Value} (hlen : len ≤ cap)
    (hh : (hi = none ∧ h = len) ∨ ∃ k i, hi = some (.int k i) ∧ 0 ≤ i ∧ i.toNat = h) (hl : (lo = none ∧ l = 0) ∨ ∃ k i, lo = some (.int k i) ∧ 0 ≤ i ∧ i.toNat = l) (h1 : h ≤ len) (h2 : l ≤ h) (w : World) :
    (Instr.sliceBounds isSlice len cap lo hi none).run P w = .ok (l, h, cap) w := by
  have e1 : (match hi with | some v => Instr.sliceBound v cap (if isSlice then .sliceAcap else .sliceAlen) | none => pure len : Sem Nat).run P w = .ok h w := by
    rcases hh with ⟨rfl, rfl⟩ | ⟨k, i, rfl, h0, rfl⟩
    · rfl
    · have : 0 ≤ i ∧ i ≤ (cap : Int) := ⟨h0, by omega⟩
      simp [Instr.sliceBound, asIntOf, this]
  have e2 : (match lo with | some v => Instr.sliceBound v h .sliceB | none => pure 0 : Sem Nat).run P w = .ok l w := by
    rcases hl with ⟨rfl, rfl⟩ | ⟨k, i, rfl, h0, rfl⟩
    · rfl
    · have : 0 ≤ i ∧ i ≤ (h : Int) := ⟨h0, by omega⟩
      simp [Instr.sliceBound, asIntOf, this]
  cases hi <;> cases lo <;> simp_all [Instr.sliceBounds]

theorem resO_ok (he : EnvR μ Φ env a) {x : Option Operand} {y : Option Opd} (h : resO x = some y) : RO μ Φ (env.evO y) (x.map a.eval) := by
  cases x with
  | none => simp [resO] at h; subst h; simp [Env.evO, RO]
  | some x =>
    simp only [resO] at h
    obtain ⟨z, hz, e⟩ := map_some h
    subst e
    simp only [Env.evO, Option.map_some, RO]
    exact opd_ok he hz

theorem slice_str_sound {t : TypeId} {u : Value} {lo hi : Option Value} {x : D} {l h : Option D} (ht : P.underlying t = some .string)
    (hx : R μ Φ x u) (hl : RO μ Φ l lo) (hh : RO μ Φ h hi) (hev : sliceV none x l h = some d) (w : World) : ∃ v, (Instr.sliceAt t u lo hi none).run P w = .ok v w ∧ R μ Φ d v := by
  cases x <;> simp only [sliceV] at hev <;> try (cases hev; done)
  rename_i s
  simp only [R] at hx
  subst hx
  split at hev
  · rename_i hn ln h1 h2
    split at hev
    · rename_i hc
      simp at hev; subst hev
      have hb := bounds_run (P := P) (isSlice := false) (Nat.le_refl s.size) (bound_ok h1 hh) (bound_ok h2 hl) hc.1 hc.2 w
      refine ⟨.string (s.extract ln hn), ?_, by simp only [R]⟩
      simp only [Instr.sliceAt, Sem.run_bind, run_underlying ht, Result.andThen_ok, Instr.slice, Option.isSome_none, Bool.false_eq_true, if_false, hb, Sem.run_pure]
    · simp at hev
  · simp at hev

theorem run_sizeOf {e : TypeId} {n : Nat} (h : szOf P e = some n) (w : World) : (sizeOf e).run P w = .ok n w := by
  unfold szOf at h
  obtain ⟨i, hi, e⟩ := map_some h
  simp [sizeOf, typeInfo, hi, e]

theorem slice_row_sound {t e : TypeId} {n : Nat} {u : Value} {lo hi : Option Value} {x : D} {l h : Option D} (ht : P.underlying t = some (.slice e)) (hn : szOf P e = some n)
    (hx : R μ Φ x u) (hl : RO μ Φ l lo) (hh : RO μ Φ h hi) (hev : sliceV (some n) x l h = some d) (w : World) : ∃ v, (Instr.sliceAt t u lo hi none).run P w = .ok v w ∧ R μ Φ d v := by
  have go : ∀ (ad : Option Addr) (len cap ln hn : Nat), u = .slice ad len cap → len ≤ cap → boundOf h len = some hn → boundOf l 0 = some ln → hn ≤ len → ln ≤ hn →
      (Instr.sliceAt t u lo hi none).run P w = .ok (.slice (if cap = ln then ad else ad.map (·.add (ln * n))) (hn - ln) (cap - ln)) w := by
    intro ad len cap ln hn' hu hlc h1 h2 h3 h4
    have hb := bounds_run (P := P) (isSlice := true) hlc (bound_ok h1 hh) (bound_ok h2 hl) h3 h4 w
    subst hu
    simp only [Instr.sliceAt, Sem.run_bind, run_underlying ht, Result.andThen_ok, Instr.slice, hb, run_sizeOf hn, Sem.run_pure]
  cases x <;> simp only [sliceV] at hev <;> try (cases hev; done)
  · simp only [R] at hx
    split at hev
    · rename_i hn' ln h1 h2
      split at hev
      · rename_i hc
        simp at hev; subst hev
        have := go none 0 0 ln hn' hx (Nat.le_refl _) h1 h2 hc.1 hc.2
        have e1 : hn' = 0 := by omega
        have e2 : ln = 0 := by omega
        subst e1; subst e2
        exact ⟨_, this, by simp only [R]; rfl⟩
      · simp at hev
    · simp at hev
  · simp only [R, RP] at hx
    obtain ⟨b, o, cap, sp, hu, hlc, hsp, hg⟩ := hx
    split at hev
    · rename_i hn' ln h1 h2
      split at hev
      · rename_i hc
        simp at hev; subst hev
        obtain ⟨c0, c1, c2⟩ := hc
        subst c0
        rcases hsp with rfl | rfl
        case inr =>
          have e1 : hn' = 0 := by simpa using c1
          have e2 : ln = 0 := by omega
          subst e1; subst e2
          refine ⟨_, go (some ⟨b, o, sp⟩) _ cap 0 0 hu hlc h1 h2 c1 c2, ?_⟩
          simp only [R, RP]
          refine ⟨b, o, cap, sp, ?_, by simp, .inr (by simp), by simp [RG]⟩
          simp [Addr.add]
        have := go (some ⟨b, o, none⟩) _ cap ln hn' hu hlc h1 h2 c1 c2
        refine ⟨_, this, ?_⟩
        simp only [R]
        have := slice_lst (cap := cap) hg c1 c2 hlc
        simpa only [Option.map_some, addr_add] using this
      · simp at hev
    · simp at hev
  · simp only [R] at hx
    obtain ⟨b, o, z, cap, hm, hu, hlc, hz⟩ := hx
    rename_i id off len sz
    split at hev
    · rename_i hn' ln h1 h2
      split at hev
      · rename_i hc
        obtain ⟨c0, c1, c2⟩ := hc
        subst c0
        have := go (some ⟨b, o + off, none⟩) _ cap ln hn' hu hlc h1 h2 c1 c2
        refine ⟨_, this, ?_⟩
        split at hev
        · rename_i hlt
          simp at hev; subst hev
          have hne : cap ≠ ln := by omega
          simp only [R, if_neg hne, Option.map_some, addr_add]
          refine ⟨b, o, z, cap - ln, hm, by simp [Nat.add_assoc], by omega, ?_⟩
          have : ln * sz + (cap - ln) * sz = cap * sz := by rw [← Nat.add_mul]; congr 1; omega
          omega
        · simp at hev; subst hev
          have : hn' - ln = 0 := by omega
          rw [this]
          simp only [R, RP]
          by_cases hcl : cap = ln
          · exact ⟨b, o + off, cap - ln, none, by simp [hcl], by simp, .inl rfl, by simp only [RG]⟩
          · exact ⟨b, o + off + ln * sz, cap - ln, none, by simp [hcl, addr_add], by simp, .inl rfl, by simp only [RG]⟩
      · simp at hev
    · simp at hev
end
end Go.V
