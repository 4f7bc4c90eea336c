/- The V machine: operations on values alone. -/
import Derived.Test.YtdejcadenmggaaaVkRes
import Derived.Laws.StructEq
namespace Go.V
section
variable {P : Program} {μ : Mu} {Φ : Phi}

/-- What an operation on values does in the model. -/
def Gives (P : Program) (μ : Mu) (Φ : Phi) (s : Sem Next) (w : World) (d : D) : Prop := ∃ v, s.run P w = .ok (.value v) w ∧ R μ Φ d v

theorem bin_int_sound {op : BinOp} {t : TypeId} {k : IntKind} {x y : Int} {d : D} {ox oy : Operand} {ρ : Operand → Value} (hx : ρ ox = .int k x) (hy : ρ oy = .int k y)
    (hns : op ≠ .shl ∧ op ≠ .shr) (h : binInt op k x y = some d) (w : World) (yt : TypeId) (dst pos after guard type) :
    Gives P μ Φ (execOp ρ ⟨dst, .binOp op t ox oy yt, type, pos, after, guard⟩) w d := by
  unfold binInt at h
  cases op <;> simp at h hns <;>
    first
    | (subst h; exact ⟨_, by simp [execOp, hx, hy, eqGuard, binOp, Op.intArith, Op.intBits, Op.intCmp]; rfl, by simp only [R]⟩)
    | (obtain ⟨hz, h⟩ := h; subst h; exact ⟨_, by simp [execOp, hx, hy, eqGuard, binOp, Op.intDiv, hz]; rfl, by simp only [R]⟩)

theorem bin_shift_sound {op : BinOp} {t : TypeId} {k k' : IntKind} {x y : Int} {d : D} {ox oy : Operand} {ρ : Operand → Value} (hx : ρ ox = .int k x) (hy : ρ oy = .int k' y)
    (hs : op = .shl ∨ op = .shr) (h : shiftInt op k x y = some d) (w : World) (yt : TypeId) (dst pos after guard type) :
    Gives P μ Φ (execOp ρ ⟨dst, .binOp op t ox oy yt, type, pos, after, guard⟩) w d := by
  unfold shiftInt at h
  rcases hs with rfl | rfl <;> simp at h
  · obtain ⟨hz, h⟩ := h
    subst h
    exact ⟨_, by simp [execOp, hx, hy, eqGuard, binOp, Op.shift, Int.not_lt.2 hz]; rfl, by simp only [R]⟩
  · obtain ⟨hz, h⟩ := h
    subst h
    exact ⟨_, by simp [execOp, hx, hy, eqGuard, binOp, Op.shift, Int.not_lt.2 hz]; rfl, by simp only [R]⟩

theorem bin_str_sound {op : BinOp} {t : TypeId} {x y : ByteArray} {d : D} {ox oy : Operand} {ρ : Operand → Value} (hx : ρ ox = .string x) (hy : ρ oy = .string y)
    (h : binStr op x y = some d) (w : World) (yt : TypeId) (dst pos after guard type) :
    Gives P μ Φ (execOp ρ ⟨dst, .binOp op t ox oy yt, type, pos, after, guard⟩) w d := by
  unfold binStr at h
  cases op <;> simp at h <;>
    first
    | (subst h; exact ⟨_, by simp [execOp, hx, hy, eqGuard, binOp, Op.stringOp]; rfl, by simp only [R]⟩)
    | (obtain ⟨hz, h⟩ := h; subst h
       have : ¬ (IntKind.i64.max < ((x.size + y.size : Nat) : Int)) := by
         have : IntKind.i64.max = 9223372036854775807 := by decide
         rw [this]; omega
       refine ⟨.string (x ++ y), ?_, by simp only [R]⟩
       simp only [execOp, hx, hy, eqGuard, binOp, Op.stringOp, GT.gt, this, if_false]
       rfl)

theorem run_equalIn_bool (n : Nat) {t : TypeId} (hb : P.underlying t = some .bool) (x y : Bool) (w : World) : (Op.equalIn (n + 1) t (.bool x) (.bool y)).run P w = .ok (x == y) w := by
  simp only [Op.equalIn, Sem.run_bind, run_underlying hb, Result.andThen_ok, Sem.run_pure]
theorem run_equal_bool {t : TypeId} (hb : P.underlying t = some .bool) (x y : Bool) (w : World) : (Op.equal t (.bool x) (.bool y)).run P w = .ok (x == y) w := run_equalIn_bool 9999 hb x y w

theorem eqB_sound {neg : Bool} {t : TypeId} {x y : Bool} {ox oy : Operand} {ρ : Operand → Value} (hb : P.underlying t = some .bool) (hx : ρ ox = .bool x) (hy : ρ oy = .bool y)
    (w : World) (yt : TypeId) (dst pos after guard type) :
    Gives P μ Φ (execOp ρ ⟨dst, .binOp (if neg then .neq else .eql) t ox oy yt, type, pos, after, guard⟩) w (.bool (if neg then !(x == y) else (x == y))) := by
  cases neg
  · refine ⟨.bool (x == y), ?_, by simp only [R]; rfl⟩
    simp only [execOp, hx, hy, eqGuard, binOp, Sem.run_bind, run_equal_bool hb, Bool.false_eq_true, if_false, Sem.run_pure, Result.andThen_ok]
    rfl
  · refine ⟨.bool (!(x == y)), ?_, by simp only [R]; rfl⟩
    simp only [execOp, hx, hy, eqGuard, binOp, Sem.run_bind, run_equal_bool hb, if_true, Sem.run_pure, Result.andThen_ok]
    rfl

theorem run_part {t : TypeId} {k : SK} (ht : kindOf P t = some k) {cs : Array Value} {o : Nat} {v : Value} (hv : cs[o]? = some v) (w : World) : (part t cs o).run P w = .ok v w := by
  unfold kindOf at ht
  split at ht <;> first
    | (rename_i hu; simp [part, isAgg, run_underlying hu, hv]; done)
    | simp at ht

/-- Structs of numbers, bools and strings: the same just if all parts are. -/
theorem run_equalIn_scalar (n : Nat) {t : TypeId} {k : SK} (ht : kindOf P t = some k) {a b : D} {u v : Value} (ha : R μ Φ a u) (hb : R μ Φ b v) {r : Bool} (h : sameScalar k a b = some r) (w : World) :
    (Op.equalIn (n + 1) t u v).run P w = .ok r w := by
  unfold kindOf at ht
  split at ht
  · rename_i q hu
    simp at ht; subst ht
    cases a <;> cases b <;> simp [sameScalar] at h
    obtain ⟨rfl, rfl⟩ := h
    simp only [R] at ha hb
    subst ha; subst hb
    simp [Op.equalIn, run_underlying hu]
  · rename_i hu
    simp at ht; subst ht
    cases a <;> cases b <;> simp [sameScalar] at h
    subst h
    simp only [R] at ha hb
    subst ha; subst hb
    simp [Op.equalIn, run_underlying hu]
  · rename_i hu
    simp at ht; subst ht
    cases a <;> cases b <;> simp [sameScalar] at h
    subst h
    simp only [R] at ha hb
    subst ha; subst hb
    simp [Op.equalIn, run_underlying hu]
  · simp at ht

theorem run_eqFields (n : Nat) : ∀ (fs : List Field) (k : Nat) (ks : List SK) (as bs : List D) (us vs : List Value) (xs ys : Array Value) (r : Bool) (w : World), flatFields P fs k = some ks →
    RL μ Φ as us → RL μ Φ bs vs → (∀ j u, us[j]? = some u → xs[k + j]? = some u) → (∀ j u, vs[j]? = some u → ys[k + j]? = some u) → sameScalars ks as bs = some r →
    (Op.eqFields (n + 1) xs ys fs).run P w = .ok r w
  | [], k, ks, as, bs, us, vs, xs, ys, r, w, hf, ha, hb, hx, hy, h => by
    simp [flatFields] at hf; subst hf
    cases as <;> cases bs <;> simp [sameScalars] at h
    subst h
    simp [Op.eqFields]
  | f :: fs, k, ks, as, bs, us, vs, xs, ys, r, w, hf, ha, hb, hx, hy, h => by
    simp only [flatFields] at hf
    split at hf
    · rename_i hname
      split at hf
      · rename_i kk l hk hl
        simp at hf; subst hf
        cases as with
        | nil => cases bs <;> simp [sameScalars] at h
        | cons a as =>
          cases bs with
          | nil => simp [sameScalars] at h
          | cons b bs =>
            simp only [sameScalars] at h
            split at h
            · rename_i p q hp hq
              simp at h; subst h
              simp only [RL] at ha hb
              obtain ⟨u, us', rfl, hu, hus⟩ := ha
              obtain ⟨v, vs', rfl, hv, hvs⟩ := hb
              have hx0 : xs[f.offset]? = some u := by rw [hname.1]; simpa using hx 0 u (by simp)
              have hy0 : ys[f.offset]? = some v := by rw [hname.1]; simpa using hy 0 v (by simp)
              have ih := run_eqFields n fs (k + 1) l as bs us' vs' xs ys q w hl hus hvs
                (fun j x hj => by have := hx (j + 1) x (by simpa using hj); rw [← this]; congr 1; omega)
                (fun j x hj => by have := hy (j + 1) x (by simpa using hj); rw [← this]; congr 1; omega) hq
              simp only [Op.eqFields, hname.2, ne_eq, not_false_eq_true, if_true, Sem.run_bind, run_part hk hx0, run_part hk hy0, run_equalIn_scalar n hk hu hv hp, Result.andThen_ok, Sem.run_ite, ih]
              cases p <;> simp
            · simp at h
      · simp at hf
    · simp at hf

theorem run_equal_struct {t : TypeId} {ks : List SK} (ht : flatT P t = some ks) {as bs : List D} {us vs : List Value} (ha : RL μ Φ as us) (hb : RL μ Φ bs vs) {r : Bool} (h : sameScalars ks as bs = some r) (w : World) :
    (Op.equal t (.agg us.toArray) (.agg vs.toArray)).run P w = .ok r w := by
  unfold flatT at ht
  split at ht
  · rename_i fs hu
    split at ht
    · rename_i hc
      have hfo : P.fieldsOf t = fs := by simp [Program.fieldsOf, hu]
      have hs : P.stoodInHeld t = false := by simp at hc; exact hc.1
      have h1 : (Op.equalIn (9999 + 1) t (.agg us.toArray) (.agg vs.toArray)).run P w = _ := run_equalIn_struct w 9999 t us.toArray vs.toArray (by rw [hfo]; exact hu) hs
      rw [hfo] at h1
      have h2 := run_eqFields (P := P) (μ := μ) (Φ := Φ) 9998 fs.toList 0 ks as bs us vs us.toArray vs.toArray r w ht ha hb (by simp) (by simp) h
      exact h1.trans h2
    · simp at ht
  · simp at ht

theorem eqAgg_sound {neg : Bool} {t : TypeId} {ks : List SK} (ht : flatT P t = some ks) {x y : List D} {ox oy : Operand} {ρ : Operand → Value} (hx : R μ Φ (.agg x) (ρ ox)) (hy : R μ Φ (.agg y) (ρ oy))
    {r : Bool} (h : sameScalars ks x y = some r) (w : World) (yt : TypeId) (dst pos after guard type) :
    Gives P μ Φ (execOp ρ ⟨dst, .binOp (if neg then .neq else .eql) t ox oy yt, type, pos, after, guard⟩) w (.bool (if neg then !r else r)) := by
  simp only [R] at hx hy
  obtain ⟨us, hx1, hx2⟩ := hx
  obtain ⟨vs, hy1, hy2⟩ := hy
  have hg : P.eqGuardType P.depth t = false := by
    unfold flatT at ht
    split at ht
    · split at ht
      · rename_i hc; simp at hc; exact hc.2
      · simp at ht
    · simp at ht
  have hr := run_equal_struct (w := w) ht hx2 hy2 h
  cases neg
  · refine ⟨.bool r, ?_, by simp only [R]; rfl⟩
    simp only [execOp, hx1, hy1, eqGuard, binOp, Sem.run_bind, hr, Bool.false_eq_true, if_false, Sem.run_pure, Result.andThen_ok, run_program, hg, Sem.run_ite, Bool.not_true, Bool.not_false, if_true]
  · refine ⟨.bool (!r), ?_, by simp only [R]; rfl⟩
    simp only [execOp, hx1, hy1, eqGuard, binOp, Sem.run_bind, hr, if_true, Sem.run_pure, Result.andThen_ok, run_program, hg, Sem.run_ite, Bool.not_true, Bool.not_false, Bool.false_eq_true, if_false]

/-! Parts of structs. -/
theorem pull_sound {n : Option Nat} {off : Nat} {cs : List D} {d : D} (h : pull n off cs = some d) {us : List Value} (hr : RL μ Φ cs us) :
    match n with
    | none => ∃ u, us[off]? = some u ∧ R μ Φ d u
    | some k => off + k ≤ us.length ∧ R μ Φ d (.agg ((us.drop off).take k).toArray) := by
  unfold pull at h
  cases n with
  | none =>
    simp only at h ⊢
    cases hc : cs[off]? with
    | none => simp [hc] at h
    | some e =>
      simp [hc] at h
      obtain ⟨_, rfl⟩ := h
      exact RL_get hr hc
  | some k =>
    simp only at h ⊢
    split at h
    · rename_i hle
      simp at h; subst h
      rw [RL_length hr]
      refine ⟨hle, ?_⟩
      simp only [R]
      exact ⟨_, rfl, RL_take k (RL_drop off hr)⟩
    · simp at h

theorem one_sound {d : D} {v : Value} (h1 : oneCell d = true) (h2 : R μ Φ d v) : oneV v = true := by
  cases d <;> simp only [oneCell] at h1 <;> simp only [R] at h2 <;> first
    | (cases h1; done)
    | (subst h2; rfl)
    | (obtain ⟨b, o, z, _, rfl⟩ := h2; rfl)
    | (obtain ⟨b, o, z, cap, _, rfl, _⟩ := h2; rfl)
    | (obtain ⟨vs, rfl, _⟩ := h2; rfl)
    | (simp only [RP] at h2; obtain ⟨b, o, rfl, _⟩ := h2; rfl)
    | (simp only [RP] at h2; obtain ⟨b, o, cap, sp, rfl, _⟩ := h2; rfl)
theorem ones_sound : ∀ {ds : List D} {vs : List Value}, ds.all oneCell = true → RL μ Φ ds vs → ∀ x ∈ vs, oneV x = true
  | [], vs, _, hr => by simp only [RL] at hr; subst hr; simp
  | d :: ds, vs, ha, hr => by
    simp only [RL] at hr
    obtain ⟨u, us, rfl, h1, h2⟩ := hr
    simp only [List.all_cons, Bool.and_eq_true] at ha
    intro x hx
    rcases List.mem_cons.1 hx with rfl | hx
    · exact one_sound ha.1 h1
    · exact ones_sound ha.2 h2 x hx
theorem cells_one {v : Value} (h : oneV v = true) : v.cells = #[v] := by cases v <;> first | rfl | cases h

theorem cellsOf_sound {d : D} {v : Value} (h : R μ Φ d v) (hu : (cellsOf d).all oneCell = true) : RL μ Φ (cellsOf d) v.cells.toList ∧ ∀ x ∈ v.cells.toList, oneV x = true := by
  by_cases ha : ∃ cs, d = .agg cs
  · obtain ⟨cs, rfl⟩ := ha
    simp only [R] at h
    obtain ⟨vs, rfl, hv⟩ := h
    simp only [cellsOf] at hu ⊢
    exact ⟨by simpa [Value.cells] using hv, by simpa [Value.cells] using ones_sound hu hv⟩
  · have hc : cellsOf d = [d] := by
      cases d <;> first | rfl | exact absurd ⟨_, rfl⟩ ha
    rw [hc] at hu ⊢
    simp only [List.all_cons, List.all_nil, Bool.and_true] at hu
    have h1 := one_sound hu h
    rw [cells_one h1]
    exact ⟨RL_one h, by simpa using h1⟩

theorem foldl_fill (cs : Array Value) (off : Nat) : ∀ (new : List Value) (k : Nat), off + k + new.length ≤ cs.size →
    ((new.zipIdx k).foldl (fun (a : Array Value) (p : Value × Nat) => a.setIfInBounds (off + p.2) p.1) cs).toList = cs.toList.take (off + k) ++ new ++ cs.toList.drop (off + k + new.length) := by
  intro new
  induction new generalizing cs with
  | nil => intro k _; simp
  | cons v vs ih =>
    intro k hk
    simp only [List.length_cons] at hk
    rw [List.zipIdx_cons, List.foldl_cons, ih _ (k + 1) (by simp; omega)]
    simp only [Array.toList_setIfInBounds, List.length_cons]
    have e1 : off + (k + 1) = (off + k) + 1 := by omega
    rw [e1, List.take_succ_eq_append_getElem (by simp; omega)]
    have e2 : off + k + 1 + vs.length = off + k + (vs.length + 1) := by omega
    rw [e2, List.take_set_of_le (Nat.le_refl _), List.drop_set_of_lt (by omega)]
    simp

theorem splice_sound {cs new : List D} {us vs : List Value} {off : Nat} (h1 : RL μ Φ cs us) (h2 : RL μ Φ new vs) :
    RL μ Φ (splice cs off new) (us.take off ++ vs ++ us.drop (off + vs.length)) := by
  unfold splice
  rw [RL_length h2]
  exact RL_append (RL_append (RL_take off h1) h2) (RL_drop _ h1)

/-- A literal's parts. -/
theorem fill_sound {env : Env} (place : Nat → Option (Nat × Nat)) : ∀ (ps : List (Nat × Nat × Opd)) (qs : List (Nat × Value)) (cs out : List D) (us : List Value),
    ps.length = qs.length → (∀ (j : Nat) (p : Nat × Nat × Opd) (q : Nat × Value), ps[j]? = some p → qs[j]? = some q → place q.1 = some (p.1, p.2.1) ∧ R μ Φ (env.ev p.2.2) q.2) → RL μ Φ cs us → fillV env cs ps = some out →
    ∃ ws : List Value, Instr.fill place us.toArray qs = some ws.toArray ∧ RL μ Φ out ws ∧ ws.length = us.length
  | [], qs, cs, out, us, hl, _, hr, hf => by
    cases qs with
    | nil => simp [fillV] at hf; subst hf; exact ⟨us, by simp [Instr.fill], hr, rfl⟩
    | cons _ _ => simp at hl
  | (off, size, x) :: ps, qs, cs, out, us, hl, hp, hr, hf => by
    cases qs with
    | nil => simp at hl
    | cons q qs =>
      obtain ⟨i, v⟩ := q
      obtain ⟨hpl, hrel⟩ := hp 0 (off, size, x) (i, v) (by simp) (by simp)
      simp only at hpl hrel
      simp only [fillV] at hf
      split at hf
      · rename_i hc
        obtain ⟨c1, c2, c3⟩ := hc
        obtain ⟨d1, d2⟩ := cellsOf_sound hrel c3
        have hlen := RL_length d1
        have hcs := RL_length hr
        simp only [Array.length_toList] at hlen
        have hrec := fill_sound place ps qs (splice cs off (cellsOf (env.ev x))) out (us.take off ++ v.cells.toList ++ us.drop (off + v.cells.toList.length)) (by simpa using hl)
          (fun j p q h1 h2 => hp (j + 1) p q (by simpa using h1) (by simpa using h2)) (splice_sound hr d1) hf
        obtain ⟨ws, w1, w2, w3⟩ := hrec
        refine ⟨ws, ?_, w2, ?_⟩
        · simp only [Instr.fill, hpl]
          have hsz : ¬ (v.cells.size ≠ size || decide (off + v.cells.size > us.toArray.size)) = true := by
            simp; omega
          rw [if_neg hsz, ← w1]
          congr 1
          apply Array.ext'
          have := foldl_fill us.toArray off v.cells.toList 0 (by simp; omega)
          simp only [Nat.add_zero] at this
          rw [← this]
          rw [← Array.foldl_toList]
          simp [Array.toList_zipIdx]
        · rw [w3]
          simp only [List.length_append, List.length_take, List.length_drop, Array.length_toList]
          omega
      · simp at hf
end
end Go.V
