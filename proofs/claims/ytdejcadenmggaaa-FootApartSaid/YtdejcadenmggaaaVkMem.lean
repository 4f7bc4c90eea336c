/- The V machine: operations that read, make and write memory. -/
import Derived.Test.YtdejcadenmggaaaVkPure3
import Derived.Laws.BytesArg
import Derived.MapKept
namespace Go.V
section
variable {P : Program} {md : FuncId → Mode} {μ : Mu} {Φ : Phi} {env : Env} {a : Act} {d : D} {g : Look} {w : World}

theorem ObjAt.values {b o z : Nat} {cs : List D} (h : ObjAt μ Φ w b o z (.cells cs)) : ∃ vs, RL μ Φ cs vs ∧ ∀ j u, vs[j]? = some u → w.cell? ⟨b, o + j, none⟩ = some u := by
  obtain ⟨arr, e, vs, tail, h1, h2, h3, h4, _⟩ := h
  refine ⟨vs, h4, fun j u hu => ?_⟩
  rw [cell_of_block h1]
  have h5 : (arr.toList.drop o)[j]? = some u := by
    rw [h3, List.getElem?_append_left (List.getElem?_eq_some_iff.1 hu).1]
    exact hu
  rw [List.getElem?_drop, Array.getElem?_toList] at h5
  exact h5

theorem ObjAt.one {b o z : Nat} {cs : List D} (h : ObjAt μ Φ w b o z (.cells cs)) : cs.all oneCell = true := by
  obtain ⟨arr, e, vs, tail, h1, h2, h3, h4, h5⟩ := h
  exact h5
theorem all_sub {cs ds : List D} (h : cs.all oneCell = true) (hs : ∀ x ∈ ds, x ∈ cs) : ds.all oneCell = true := by
  rw [List.all_eq_true] at h ⊢
  exact fun x hx => h x (hs x hx)
theorem all_app {cs ds : List D} (h : cs.all oneCell = true) (k : ds.all oneCell = true) : (cs ++ ds).all oneCell = true := by
  simp only [List.all_append, h, k, Bool.and_self]
theorem all_splice {cs new : List D} {off : Nat} (h : cs.all oneCell = true) (k : new.all oneCell = true) : (splice cs off new).all oneCell = true :=
  all_app (all_app (all_sub h fun _ hx => List.mem_of_mem_take hx) k) (all_sub h fun _ hx => List.mem_of_mem_drop hx)
theorem all_zeros {z : List D} (h : z.all oneCell = true) : ∀ n, (zeros z n).all oneCell = true
  | 0 => rfl
  | n + 1 => all_app h (all_zeros h n)
theorem all_fill : ∀ {ps : List (Nat × Nat × Opd)} {cs out : List D}, cs.all oneCell = true → fillV env cs ps = some out → out.all oneCell = true
  | [], cs, out, h, e => by simp [fillV] at e; subst e; exact h
  | (off, size, x) :: ps, cs, out, h, e => by
    simp only [fillV] at e
    split at e
    · rename_i hc
      exact all_fill (all_splice h hc.2.2) e
    · simp at e

theorem load_cells {t : TypeId} {n : Option Nat} (ht : shapeN P t = some n) {off b o : Nat} {cs : List D} (h : pull n off cs = some d) {us : List Value} (hr : RL μ Φ cs us)
    (hc : ∀ j u, us[j]? = some u → w.cell? ⟨b, o + j, none⟩ = some u) : ∃ v, (Instr.loadAt t (.pointer (some ⟨b, o + off, none⟩))).run P w = .ok v w ∧ R μ Φ d v := by
  have hp := pull_sound h hr
  unfold shapeN isAggT at ht
  cases hu : P.underlying t with
  | none => simp [hu] at ht
  | some td =>
    have aggCase : (∃ k, szOf P t = some k ∧ n = some k) → (isAgg t).run P w = .ok true w → ∃ v, (Instr.loadAt t (.pointer (some ⟨b, o + off, none⟩))).run P w = .ok v w ∧ R μ Φ d v := by
      rintro ⟨k, hk, rfl⟩ hag
      refine ⟨_, ?_, hp.2⟩
      have hlen : ((us.drop off).take k).length = k := by have := hp.1; simp; omega
      have hl := run_loadCells P w b (o + off) ((us.drop off).take k) (fun j u hj => by
        rw [List.getElem?_take] at hj
        split at hj
        · rw [List.getElem?_drop] at hj
          rw [Nat.add_assoc]
          exact hc _ _ hj
        · simp at hj)
      rw [hlen] at hl
      simp only [Instr.loadAt, Instr.sureAddr, loadVar, Sem.run_bind, Sem.run_pure, hag, Result.andThen_ok, if_true, run_sizeOf hk, hl]
    have cellCase : n = none → (isAgg t).run P w = .ok false w → ∃ v, (Instr.loadAt t (.pointer (some ⟨b, o + off, none⟩))).run P w = .ok v w ∧ R μ Φ d v := by
      rintro rfl hag
      obtain ⟨u, h1, h2⟩ := hp
      have := hc _ _ h1
      exact ⟨u, by simp [Instr.loadAt, Instr.sureAddr, loadVar, hag, this], h2⟩
    cases td <;> simp only [hu] at ht <;> cases hs : szOf P t <;> simp [hs] at ht <;> first
      | (refine aggCase ⟨_, hs, ht.symm⟩ ?_; simp [isAgg, run_underlying hu])
      | (refine cellCase ht.symm ?_; simp [isAgg, run_underlying hu])

/-- The cells of a slice, as they lie. -/
theorem row_cells (hs : Sim μ Φ g w) {x : D} {v : Value} (hx : R μ Φ x v) {cs : List D} (h : rowOf g x = some cs) {sz : Nat} (hsz : srcSz sz x = true) :
    ∃ us n, srcLen x = some n ∧ us.length = n * sz ∧ RL μ Φ cs us ∧ cs.all oneCell = true ∧ ((v = .slice none 0 0 ∧ us = [] ∧ n = 0) ∨ ∃ a cap, v = .slice (some a) n cap ∧ n ≤ cap ∧ (∀ w1 : World, w1.heap = w.heap → (loadCells a us.length).run P w1 = .ok us.toArray w1)) := by
  have byCell : ∀ (b o : Nat) (us : List Value), (∀ j u, us[j]? = some u → w.cell? ⟨b, o + j, none⟩ = some u) → ∀ w1 : World, w1.heap = w.heap → (loadCells ⟨b, o, none⟩ us.length).run P w1 = .ok us.toArray w1 := by
    intro b o us h w1 hw1
    refine run_loadCells P w1 b o us fun j u hj => ?_
    have := h j u hj
    simp only [World.cell?, hw1] at this ⊢
    exact this
  unfold rowOf at h
  split at h
  · simp only [R] at hx
    cases h
    exact ⟨[], 0, rfl, by simp, by simp [RL], rfl, .inl ⟨hx, rfl, rfl⟩⟩
  · rename_i sz' xs
    cases h
    have : sz' = sz := by simpa [srcSz] using hsz
    subst this
    simp only [R, RP] at hx
    obtain ⟨b, o, cap, sp, e, h1, hsp, h2⟩ := hx
    obtain ⟨us, u1, u2⟩ := RC_values (RG_flat h2).1
    have hlen : us.length = xs.length * sz' := by rw [RL_length (RL_of_RPL (μ := μ) _ _ u1), (RG_flat h2).2]
    refine ⟨us, xs.length, rfl, ?_, RL_of_RPL _ _ u1, RC_one (RG_flat h2).1, .inr ⟨⟨b, o, sp⟩, cap, e, h1, ?_⟩⟩
    case refine_2 =>
      rcases hsp with rfl | rfl
      · exact byCell b o us fun j u hu => hs.cellP (u2 j u hu)
      · have : us = [] := by apply List.eq_nil_of_length_eq_zero; simpa using hlen
        subst this
        intro w1 _
        rfl
    rw [RL_length (RL_of_RPL (μ := μ) _ _ u1), (RG_flat h2).2]
  · rename_i id off len sz'
    have : sz' = sz := by simpa [srcSz] using hsz
    subst this
    simp only [R] at hx
    obtain ⟨b, o, z, cap, hm, e, hlc, hz⟩ := hx
    split at h
    · rename_i cs0 hg
      split at h
      · rename_i hle
        cases h
        obtain ⟨b', o', z', m1, m2, _⟩ := hs.obj id _ hg
        rw [hm] at m1
        cases m1
        obtain ⟨us, u1, u2⟩ := m2.values
        refine ⟨(us.drop off).take (len * sz'), len, rfl, ?_, RL_take _ (RL_drop _ u1), all_sub (m2.one) (fun x hx => List.mem_of_mem_drop (List.mem_of_mem_take hx)), .inr ⟨⟨b, o + off, none⟩, cap, e, hlc, byCell b (o + off) _ ?_⟩⟩
        · have := RL_length u1
          simp
          omega
        intro j u hj
        rw [List.getElem?_take] at hj
        split at hj
        · rw [List.getElem?_drop] at hj
          rw [Nat.add_assoc]
          exact u2 _ _ hj
        · simp at hj
      · simp at h
    · simp at h
  · simp at h

theorem bytes_ok : ∀ {cs : List D} {us : List Value} {l : List UInt8}, RL μ Φ cs us → bytesOf cs = some l → ∃ ns : List Int, us = ns.map (Value.int .u8) ∧ l = ns.map fun n => UInt8.ofNat n.toNat
  | [], us, l, hr, h => by simp only [RL] at hr; simp [bytesOf] at h; subst hr; subst h; exact ⟨[], rfl, rfl⟩
  | c :: cs, us, l, hr, h => by
    simp only [RL] at hr
    obtain ⟨u, us', rfl, h1, h2⟩ := hr
    simp only [bytesOf] at h
    split at h
    · rename_i b l' hb hl
      simp at h; subst h
      obtain ⟨ns, e1, e2⟩ := bytes_ok h2 hl
      unfold byteOf at hb
      split at hb
      · rename_i n
        simp only [R] at h1
        split at hb
        · simp at hb
          subst h1; subst hb; subst e1; subst e2
          exact ⟨n :: ns, rfl, rfl⟩
        · simp at hb
      · simp at hb
    · simp at h

theorem run_checkKey_scalar {em : Bool} (n : Nat) {t : TypeId} {k : SK} (ht : kindOf P t = some k) (v : Value) : (Instr.checkKey em (n + 1) t v).run P w = .ok () w := by
  unfold kindOf at ht
  split at ht <;> first
    | (rename_i hu; cases v <;> simp [Instr.checkKey, run_underlying hu]; done)
    | simp at ht

def keyFields (em : Bool) (d : Nat) (xs : Array Value) : List Field → Sem Unit
  | [] => pure ()
  | f :: fs => if f.name ≠ "_" then do
      let v ← part f.type xs f.offset
      Instr.checkKey em d f.type v
      keyFields em d xs fs
    else keyFields em d xs fs

theorem run_keyFields (em : Bool) (n : Nat) : ∀ (fs : List Field) (k : Nat) (ks : List SK) (xs : Array Value), flatFields P fs k = some ks → k + fs.length ≤ xs.size → (keyFields em (n + 1) xs fs).run P w = .ok () w
  | [], k, ks, xs, _, _ => by simp [keyFields]
  | f :: fs, k, ks, xs, hf, hl => by
    simp only [flatFields] at hf
    split at hf
    · rename_i hname
      split at hf
      · rename_i kk l hk hl'
        simp only [List.length_cons] at hl
        have ih := run_keyFields em n fs (k + 1) l xs hl' (by omega)
        have hx : xs[f.offset]? = some xs[k] := by rw [hname.1]; simp
        simp only [keyFields, hname.2, ne_eq, not_false_eq_true, if_true, Sem.run_bind, run_part hk hx, Result.andThen_ok, run_checkKey_scalar n hk, ih]
      · simp at hf
    · simp at hf

theorem flat_length : ∀ {fs : List Field} {k : Nat} {ks : List SK}, flatFields P fs k = some ks → ks.length = fs.length
  | [], k, ks, h => by simp [flatFields] at h; subst h; rfl
  | f :: fs, k, ks, h => by
    simp only [flatFields] at h
    split at h
    · split at h
      · rename_i h2
        simp at h; subst h
        simp [flat_length h2]
      · simp at h
    · simp at h

theorem checkKey_struct_eq (em : Bool) (n : Nat) {t : TypeId} {fs : Array Field} (us : Array Value) (hu : P.underlying t = some (.struct fs)) (w : World) :
    (Instr.checkKey em (n + 1) t (.agg us)).run P w = (keyFields em n us fs.toList).run P w := by
  simp only [Instr.checkKey, Sem.run_bind, run_underlying hu, Result.andThen_ok]
  rw [← Array.forIn_toList]
  generalize fs.toList = l
  clear hu
  induction l generalizing w with
  | nil => simp [keyFields]
  | cons f l ih =>
    simp only [List.forIn_cons, keyFields, Sem.run_bind, Sem.run_ite]
    split
    · generalize (part f.type us f.offset).run P w = r1
      cases r1 with
      | halt h w1 => simp
      | ok v w1 =>
        simp only [Result.andThen_ok]
        generalize (Instr.checkKey em n f.type v).run P w1 = r2
        cases r2 with
        | halt h w2 => simp
        | ok _ w2 => simp only [Result.andThen_ok, Sem.run_pure]; exact ih w2
    · simp only [Sem.run_pure, Result.andThen_ok]; exact ih w

theorem run_checkKey_struct {em : Bool} {t : TypeId} {ks : List SK} (ht : flatT P t = some ks) (us : List Value) (hl : ks.length ≤ us.length) : (Instr.checkKey em 10000 t (.agg us.toArray)).run P w = .ok () w := by
  unfold flatT at ht
  split at ht
  · rename_i fs hu
    split at ht
    · have h2 := run_keyFields (P := P) (w := w) em 9998 fs.toList 0 ks us.toArray ht (by rw [← flat_length ht]; simpa using hl)
      exact (checkKey_struct_eq em 9999 us.toArray hu w).trans h2
    · simp at ht
  · simp at ht

theorem same_length : ∀ {ks : List SK} {x y : List D} {r : Bool}, sameScalars ks x y = some r → x.length = ks.length ∧ y.length = ks.length
  | [], [], [], _, _ => ⟨rfl, rfl⟩
  | [], [], _ :: _, _, h => by simp [sameScalars] at h
  | [], _ :: _, _, _, h => by simp [sameScalars] at h
  | _ :: _, [], _, _, h => by simp [sameScalars] at h
  | _ :: _, _ :: _, [], _, h => by simp [sameScalars] at h
  | k :: ks, x :: xs, y :: ys, r, h => by
    simp only [sameScalars] at h
    split at h
    · rename_i h2
      have := same_length h2
      simp [this.1, this.2]
    · simp at h

/-- Looking for a key among entries. -/
theorem run_findAsking {t : TypeId} {ks : List SK} (ht : flatT P t = some ks) {k : List D} {us : List Value} (hk : RL μ Φ k us) : ∀ {kvs : List (D × D)} {es : List MapEntry} (i : Nat) {r : Option D}, RKV μ Φ kvs es → findKV ks k kvs = some r →
    (r = none ∧ (Instr.findAsking t (.agg us.toArray) es i).run P w = .ok none w) ∨ ∃ j v x, r = some x ∧ (Instr.findAsking t (.agg us.toArray) es i).run P w = .ok (some (i + j, v)) w ∧ R μ Φ x v ∧ (∃ e, es[j]? = some e ∧ e.val = v ∧ ∃ kk, kvs[j]? = some (kk, x) ∧ ∃ l, kk = .agg l ∧ sameScalars ks k l = some true)
  | [], es, i, r, hr, h => by
    simp only [RKV] at hr
    subst hr
    simp [findKV] at h
    exact .inl ⟨h.symm, by simp [Instr.findAsking]⟩
  | (k', v') :: kvs, es, i, r, hr, h => by
    simp only [RKV] at hr
    obtain ⟨e, l, rfl, h1, h2, h3⟩ := hr
    by_cases hagg : ∃ b', k' = .agg b'
    · obtain ⟨b', rfl⟩ := hagg
      simp only [findKV] at h
      simp only [R] at h1
      obtain ⟨ws, hw, hws⟩ := h1
      split at h
      · rename_i hsame
        simp at h; subst h
        have := run_equal_struct (w := w) ht hk hws hsame
        refine .inr ⟨0, e.val, v', rfl, ?_, h2, e, by simp, rfl, _, by simp, b', rfl, hsame⟩
        simp [Instr.findAsking, hw, this]
      · rename_i hsame
        have := run_equal_struct (w := w) ht hk hws hsame
        rcases run_findAsking ht hk (i + 1) h3 h with ⟨rfl, q⟩ | ⟨j, v, x, rfl, q, q2, e2, q3, q4, kk, q5, q6⟩
        · exact .inl ⟨rfl, by simp [Instr.findAsking, hw, this, q]⟩
        · refine .inr ⟨j + 1, v, x, rfl, ?_, q2, e2, by simpa using q3, q4, kk, by simpa using q5, q6⟩
          simp only [Instr.findAsking, Sem.run_bind, hw, this, Result.andThen_ok, Bool.false_eq_true, if_false, q]
          congr 3
          omega
      · simp at h
    · cases k' <;> first | exact absurd ⟨_, rfl⟩ hagg | (simp [findKV] at h)

theorem run_findKey_struct {t : TypeId} {ks : List SK} (ht : flatT P t = some ks) (us : List Value) (es : List MapEntry) :
    (Instr.findKey t (.agg us.toArray) es).run P w = (Instr.findAsking t (.agg us.toArray) es).run P w := by
  unfold flatT at ht
  split at ht
  · rename_i fs hu
    cases es with
    | nil => simp [Instr.findKey, run_underlying hu, Instr.findNow, Instr.findAsking]
    | cons e es => simp [Instr.findKey, run_underlying hu, Instr.findNow, Instr.sameNow]
  · simp at ht

theorem R_sound {o : Oper} {ro : ROp} (hres : resOp P md o = some (.r ro)) (he : EnvR μ Φ env a) (hs : Sim μ Φ g w) (hev : evR env g ro = some d) : Gives P μ Φ (execOp a.eval o) w d := by
  obtain ⟨dst, op, type, pos, after, guard⟩ := o
  cases op <;> simp only [resOp] at hres
  case load t x =>
    split at hres
    · rename_i y n hy hn
      cases hres
      have rx := opd_ok he hy
      simp only [evR] at hev
      refine gives_value (s := Instr.loadAt t (a.eval x)) ?_
      split at hev
      · rename_i id off hx
        rw [hx] at rx
        simp only [R] at rx
        obtain ⟨b, o, z, hm, e⟩ := rx
        split at hev
        · rename_i cs hg
          obtain ⟨b', o', z', m1, m2, _⟩ := hs.obj id _ hg
          rw [hm] at m1
          cases m1
          obtain ⟨us, u1, u2⟩ := m2.values
          rw [e]
          exact load_cells hn hev u1 u2
        · simp at hev
      · rename_i cs off hx
        rw [hx] at rx
        simp only [R, RP] at rx
        obtain ⟨b, o, e, hc⟩ := rx
        obtain ⟨us, u1, u2⟩ := RC_values hc
        rw [e]
        exact load_cells hn hev (RL_of_RPL _ _ u1) (fun j u hu => hs.cellP (u2 j u hu))
      · simp at hev
    · simp at hres
  case lookup t m k ok =>
    split at hres
    · rename_i m' k' kt et hm hk hu
      split at hres
      · rename_i zd hz
        split at hres
        · rename_i ks hks
          cases hres
          simp only [evR] at hev
          have rm := opd_ok he hm
          have rk := opd_ok he hk
          refine gives_value (s := Instr.lookup t (a.eval m) (a.eval k) ok) ?_
          split at hev
          · rename_i id hx
            rw [hx] at rm
            simp only [R] at rm
            obtain ⟨b, o, z, hmu, e⟩ := rm
            split at hev
            · rename_i kvs hg
              obtain ⟨b', o', z', m1, m2, _⟩ := hs.obj id _ hg
              rw [hmu] at m1
              cases m1
              obtain ⟨es, clock, hb, hkv⟩ := m2
              split at hev
              · rename_i kl hkl
                unfold keyOfV at hkl
                split at hkl
                · rename_i k0 hk0
                  split at hkl
                  · rename_i hlen
                    simp at hkl; subst hkl
                    rw [hk0] at rk
                    simp only [R] at rk
                    obtain ⟨us, ek, hus⟩ := rk
                    have hck := run_checkKey_struct (P := P) (w := w) (em := es.isEmpty) hks us (by rw [RL_length hus, hlen.1]; exact Nat.le_refl _)
                    have hz1 : ∃ i v, P.info? et = some i ∧ i.zero = some v ∧ R μ Φ zd v := by
                      unfold zeroOne at hz
                      split at hz
                      · rename_i i hi
                        split at hz
                        · rename_i v hv
                          exact ⟨i, v, hi, hv, R_of_RP _ _ (ofV1_ok hz)⟩
                        · simp at hz
                      · simp at hz
                    obtain ⟨iz, zv, hi, hzv, hzr⟩ := hz1
                    have hfk : ∀ r, (Instr.findAsking kt (.agg us.toArray) es.toList).run P w = .ok r w → (Instr.findKey kt (.agg us.toArray) es.toList).run P w = .ok r w := fun r hr => by
                      rw [run_findKey_struct hks]; exact hr
                    have hgo := MapKept.run_getObj_map (P := P) hb
                    split at hev
                    · rename_i v hfv
                      cases hev
                      rcases run_findAsking (w := w) hks hus 0 hkv hfv with ⟨h0, _⟩ | ⟨j, v', x, h0, h1, h2, _⟩
                      · simp at h0
                      · simp at h0
                        subst h0
                        have h3 := hfk _ h1
                        cases ok
                        · exact ⟨v', by simp [Instr.lookup, run_underlying hu, e, hgo, ek, hck, h3], h2⟩
                        · refine ⟨.tuple #[v', .bool true], by simp [Instr.lookup, run_underlying hu, e, hgo, ek, hck, h3], ?_⟩
                          simp only [if_true, R]
                          exact ⟨[v', .bool true], rfl, by simp only [RL]; exact ⟨_, _, rfl, h2, _, _, rfl, by simp only [R], rfl⟩⟩
                    · rename_i hfv
                      cases hev
                      rcases run_findAsking (w := w) hks hus 0 hkv hfv with ⟨_, h1⟩ | ⟨j, v', x, h0, _⟩
                      · have h3 := hfk _ h1
                        cases ok
                        · exact ⟨zv, by simp [Instr.lookup, run_underlying hu, e, hgo, ek, hck, h3, run_zero hi hzv], hzr⟩
                        · refine ⟨.tuple #[zv, .bool false], by simp [Instr.lookup, run_underlying hu, e, hgo, ek, hck, h3, run_zero hi hzv], ?_⟩
                          simp only [if_true, R]
                          exact ⟨[zv, .bool false], rfl, by simp only [RL]; exact ⟨_, _, rfl, hzr, _, _, rfl, by simp only [R], rfl⟩⟩
                      · simp at h0
                    · simp at hev
                  · simp at hkl
                · simp at hkl
              · simp at hev
            · simp at hev
          · simp at hev
        · simp at hres
      · simp at hres
    · simp at hres
  case convert src dst' x =>
    split at hres
    · simp at hres
    · rename_i y e hy hsrc hd
      split at hres
      · rename_i hu8
        cases hres
        simp only [evR] at hev
        have rx := opd_ok he hy
        refine gives_value (s := convert src dst' (a.eval x)) ?_
        split at hev
        · rename_i cs hcs hsz
          obtain ⟨l, hl, e1⟩ := map_some hev
          subst e1
          obtain ⟨us, n, _, hlen, u1, _, u2⟩ := row_cells hs rx hcs hsz
          obtain ⟨ns, n1, n2⟩ := bytes_ok u1 hl
          subst n1; subst n2
          rcases u2 with ⟨e2, e3, _⟩ | ⟨ad, cap, e2, _, hc⟩
          · have : ns = [] := by simpa using e3
            subst this
            refine ⟨.string ByteArray.empty, ?_, by simp only [R]; rfl⟩
            rw [e2, run_convert_bytes_string w src dst' e _ _ _ hsrc hu8 hd]
            simp [Conv.bytesToString]
          · have hlc := hc w rfl
            have hn : (ns.map (Value.int .u8)).length = n := by omega
            rw [hn] at hlc
            refine ⟨_, ?_, by simp only [R]; rfl⟩
            rw [e2, run_convert_bytes_string w src dst' e _ _ _ hsrc hu8 hd, run_bytesToString w _ n cap ns hlc, foldl_push_bytes]
            simp [ByteArray.empty, ByteArray.emptyWithCapacity]
            rfl
        · simp at hev
      · simp at hres
    · simp at hres
  case move x => obtain ⟨z, _, e⟩ := map_some hres; cases e
  case assign x => obtain ⟨z, _, e⟩ := map_some hres; cases e
  case pick c x y => split at hres <;> simp at hres
  case nilCheck x => obtain ⟨z, _, e⟩ := map_some hres; cases e
  case binOp op t x y yt => obtain ⟨z, _, e⟩ := map_some hres; cases e
  case unOp op t x => obtain ⟨z, _, e⟩ := map_some hres; cases e
  case build t parts =>
    split at hres
    · split at hres
      · split at hres <;> simp at hres
      · simp at hres
    · simp at hres
  case fieldAddr t x f =>
    split at hres
    · split at hres <;> simp at hres
    · simp at hres
  case field t x f =>
    split at hres
    · split at hres <;> simp at hres
    · simp at hres
  case indexAddr t x f =>
    split at hres
    · split at hres <;> simp at hres
    · split at hres
      · split at hres <;> simp at hres
      · simp at hres
  case index t x f =>
    split at hres
    · simp at hres
    · split at hres <;> simp at hres
    · simp at hres
  case slice t x lo hi mx =>
    cases mx with
    | some _ => simp at hres
    | none =>
      simp only at hres
      split at hres
      · simp at hres
      · split at hres <;> simp at hres
      · simp at hres
  case extract x i => obtain ⟨z, _, e⟩ := map_some hres; cases e
  case makeFunc fn first caps =>
    cases fn <;> simp only at hres <;> try (cases hres; done)
    split at hres
    · obtain ⟨z, _, e⟩ := map_some hres; cases e
    · simp at hres
  case call c =>
    obtain ⟨callee, args, types⟩ := c
    cases callee with
    | invoke _ _ => simp at hres
    | value f => simp only at hres; split at hres <;> simp at hres
    | builtin b =>
      simp only [resBuiltin] at hres
      split at hres
      · split at hres
        · split at hres <;> simp at hres
        · simp at hres
      · split at hres <;> simp at hres
      · split at hres <;> simp at hres
      · split at hres
        · split at hres
          · split at hres
            · split at hres <;> simp at hres
            · simp at hres
          · simp at hres
        · simp at hres
      · simp at hres
  case alloc t => obtain ⟨z, _, e⟩ := map_some hres; cases e
  case box t x => obtain ⟨z, _, e⟩ := map_some hres; cases e
  case buildSlice t len parts =>
    split at hres
    · split at hres
      · split at hres <;> simp at hres
      · simp at hres
    · simp at hres
  case makeSlice t l c =>
    split at hres
    · split at hres
      · split at hres <;> simp at hres
      · simp at hres
    · simp at hres
  case makeMap t r => cases r <;> simp at hres
  case store t x y => split at hres <;> simp at hres
  case mapUpdate t m k v =>
    split at hres
    · split at hres <;> simp at hres
    · simp at hres
  all_goals (cases hres; done)

/-! Memory that is made. -/
theorem zeros_ok : ∀ {z : List D} {us : List Value} (n : Nat), RPL Φ z us → RPL Φ (zeros z n) (List.replicate n us).flatten
  | z, us, 0, _ => by simp [zeros, RPL]
  | z, us, n + 1, h => by
    have app : ∀ (ds : List D) (vs : List Value) (es : List D) (ws : List Value), RPL Φ ds vs → RPL Φ es ws → RPL Φ (ds ++ es) (vs ++ ws) := by
      intro ds
      induction ds with
      | nil => intro vs es ws h1 h2; simp only [RPL] at h1; subst h1; simpa using h2
      | cons d ds ih =>
        intro vs es ws h1 h2
        simp only [RPL] at h1
        obtain ⟨u, us', rfl, e1, e2⟩ := h1
        simp only [List.cons_append, RPL]
        exact ⟨u, us' ++ ws, rfl, e1, ih _ _ _ e2 h2⟩
    simp only [zeros, List.replicate_succ, List.flatten_cons]
    exact app _ _ _ _ h (zeros_ok n h)

theorem range_mod (us : List Value) (n : Nat) (h : us.length ≠ 0) : ((Array.range (n * us.length)).map (us.toArray[· % us.toArray.size]!)).toList = (List.replicate n us).flatten := by
  apply List.ext_getElem?
  intro i
  simp only [Array.toList_map, Array.toList_range, List.getElem?_map]
  by_cases hi : i < n * us.length
  · have hm : i % us.length < us.length := Nat.mod_lt _ (by omega)
    rw [List.getElem?_range hi]
    simp only [Option.map_some, List.size_toArray]
    have hd : i / us.length < n := Nat.div_lt_of_lt_mul (by rw [Nat.mul_comm]; exact hi)
    have : ∀ (m i : Nat), i < m * us.length → (List.replicate m us).flatten[i]? = us[i % us.length]? := by
      intro m
      induction m with
      | zero => intro i hi; simp at hi
      | succ m ih =>
        intro i hi
        rw [List.replicate_succ, List.flatten_cons]
        by_cases h1 : i < us.length
        · rw [List.getElem?_append_left h1, Nat.mod_eq_of_lt h1]
        · have h2 : us.length ≤ i := by omega
          rw [List.getElem?_append_right h2, ih (i - us.length) (by rw [Nat.add_mul] at hi; omega), Nat.mod_eq_sub_mod h2]
    rw [this n i hi]
    simp [hm]
  · have h1 : (List.range (n * us.length))[i]? = none := by rw [List.getElem?_eq_none_iff]; simp; omega
    rw [h1, Option.map_none]
    symm
    rw [List.getElem?_eq_none_iff]
    simp
    omega

theorem alloc_here (w : World) (ob : Obj) : (w.alloc ob).heap[w.heap.size]? = some ob := by
  show (w.heap.push ob)[w.heap.size]? = _
  simp

theorem objAt_new {μ' : Mu} {cs : List D} {e : TypeId} {arr : Array Value} {vs tail : List Value} (h1 : arr.toList = vs ++ tail) (h2 : RL μ' Φ cs vs) (h3 : cs.all oneCell = true) :
    ObjAt μ' Φ (w.alloc (.cells arr e)) w.heap.size 0 arr.size (.cells cs) :=
  ⟨arr, e, vs, tail, alloc_here _ _, rfl, by simpa using h1, h2, h3⟩

theorem RPL_all {Φ' : Phi} : ∀ {ds : List D} {vs : List Value}, RPL Φ' ds vs → vs.length = ds.length
  | [], vs, e => by simp only [RPL] at e; simp [e]
  | d :: ds, vs, e => by
    simp only [RPL] at e
    obtain ⟨u, us, rfl, _, e3⟩ := e
    simp [RPL_all e3]

theorem elemsOf_ok {n : Nat} (he : EnvR μ Φ env a) : ∀ {l : List (Nat × Operand)} {ps : List (Nat × Opd)}, elemsOf l = some ps →
    (ps.map fun (i, x) => (i * n, n, x)).length = (l.map fun (i, x) => (i, a.eval x)).length ∧
    ∀ (j : Nat) (p : Nat × Nat × Opd) (q : Nat × Value), (ps.map fun (i, x) => (i * n, n, x))[j]? = some p → (l.map fun (i, x) => (i, a.eval x))[j]? = some q →
      (fun i => some (i * n, n)) q.1 = some (p.1, p.2.1) ∧ R μ Φ (env.ev p.2.2) q.2
  | [], ps, h => by simp [elemsOf] at h; subst h; simp
  | (i, x) :: l, ps, h => by
    simp only [elemsOf] at h
    split at h
    · rename_i y l' hy hl
      simp at h; subst h
      have ih := elemsOf_ok (n := n) he hl
      refine ⟨by simpa using ih.1, ?_⟩
      intro j p q hp hq
      cases j with
      | zero =>
        simp at hp hq
        subst hp; subst hq
        exact ⟨rfl, opd_ok he hy⟩
      | succ j => exact ih.2 j p q (by simpa using hp) (by simpa using hq)
    · simp at h

theorem i64_wrap_small {n : Int} (h1 : 0 ≤ n) (h2 : n < 2 ^ 62) : IntKind.i64.wrap n = n := IntWalk.i64_in n (by omega)

theorem A_sound {o : Oper} {ao : AOp} (hres : resOp P md o = some (.a ao)) (he : EnvR μ Φ env a) {vo : VObj} {m : Made} (hev : evA env ao = some (vo, m)) (w : World) (id : Nat) (hid : μ id = none) :
    ∃ v ob z, (execOp a.eval o).run P w = .ok (.value v) (w.alloc ob) ∧ ObjAt (updMu μ id (w.heap.size, 0, z)) Φ (w.alloc ob) w.heap.size 0 z vo ∧ R (updMu μ id (w.heap.size, 0, z)) Φ (m.at id) v := by
  have hm : ∀ z, updMu μ id (w.heap.size, 0, z) id = some (w.heap.size, 0, z) := fun z => by simp [updMu]
  have hle : ∀ z, μ.le (updMu μ id (w.heap.size, 0, z)) := fun z => updMu_le hid
  obtain ⟨dst, op, type, pos, after, guard⟩ := o
  cases op <;> simp only [resOp] at hres
  case alloc t =>
    obtain ⟨z, hz, e⟩ := map_some hres
    cases e
    simp only [evA] at hev
    cases hev
    obtain ⟨i, v, hi, hv, hr, hone⟩ := zeroOf_ok (Φ := Φ) hz
    refine ⟨.pointer (some ⟨w.heap.size, 0, none⟩), .cells v.cells t, v.cells.size, ?_, objAt_new (vs := v.cells.toList) (tail := []) (by simp) (RL_of_RPL _ _ hr) hone, ?_⟩
    · simp only [execOp, Instr.alloc, Sem.run_bind, run_zero hi hv, Result.andThen_ok, newVar, newRow, run_newObj, Sem.run_pure]
      rfl
    · simp only [Made.at, R]
      exact ⟨_, _, _, hm _, rfl⟩
  case box t x =>
    obtain ⟨y, hy, e⟩ := map_some hres
    cases e
    simp only [evA] at hev
    split at hev
    · rename_i hall
      cases hev
      obtain ⟨h1, h2⟩ := cellsOf_sound (opd_ok he hy) hall
      refine ⟨.pointer (some ⟨w.heap.size, 0, none⟩), .cells (a.eval x).cells t, (a.eval x).cells.size, ?_, objAt_new (vs := (a.eval x).cells.toList) (tail := []) (by simp) (RL_mono (hle _) (Phi.le_refl _) _ _ h1) hall, ?_⟩
      · simp only [execOp, Instr.box, Sem.run_bind, newVar, newRow, run_newObj, Result.andThen_ok, Sem.run_pure]
        rfl
      · simp only [Made.at, R]
        exact ⟨_, _, _, hm _, rfl⟩
    · simp at hev
  case buildSlice t len parts =>
    split at hres
    · rename_i e l hel hl
      split at hres
      · rename_i n z hn hz
        split at hres
        · rename_i hc
          cases hres
          simp only [evA] at hev
          obtain ⟨cs, hcs, e1⟩ := map_some hev
          cases e1
          obtain ⟨i, zv, hi, hzv, hzr, hone⟩ := zeroOf_ok (Φ := Φ) hz
          have htu : P.underlying t = some (.slice e) := by
            unfold elemOfSlice at hel
            split at hel
            · rename_i hu; simp at hel; rw [hu, hel]
            · simp at hel
          obtain ⟨p1, p2⟩ := elemsOf_ok (n := n) he hl
          have hzl : zv.cells.toList.length = n := by rw [RPL_all hzr, hc.1]
          obtain ⟨ws, w1, w2, w3⟩ := fill_sound (μ := μ) (Φ := Φ) (fun i => some (i * n, n)) _ _ (zeros z len) cs (List.replicate len zv.cells.toList).flatten p1 p2 (RL_of_RPL _ _ (zeros_ok len hzr)) hcs
          have hstart : ∀ (zz : Array Value), (len * n = 0 ∧ zz = #[] ∨ len * n ≠ 0 ∧ zz = zv.cells) → ((Array.range (len * n)).map (zz[· % zz.size]!)) = (List.replicate len zv.cells.toList).flatten.toArray := by
            intro zz hzz
            apply Array.ext'
            rcases hzz with ⟨h0, rfl⟩ | ⟨h0, rfl⟩
            · rw [h0]
              have : (List.replicate len zv.cells.toList).flatten = [] := by
                apply List.eq_nil_of_length_eq_zero
                rw [List.length_flatten]
                simp [hzl]
                exact h0
              simp [this]
            · have hne : zv.cells.toList.length ≠ 0 := by
                intro h
                apply h0
                rw [← hzl, h]
                simp
              have := range_mod zv.cells.toList len hne
              rw [hzl] at this
              simpa using this
          refine ⟨.slice (some ⟨w.heap.size, 0, none⟩) len len, .cells ws.toArray e, ws.toArray.size, ?_, objAt_new (vs := ws) (tail := []) (by simp) (RL_mono (hle _) (Phi.le_refl _) _ _ w2) (all_fill (all_zeros hone len) hcs), ?_⟩
          · have hlim : ¬ (len * n > 2 ^ 24) := by omega
            have hpl : (parts.map fun (i, x) => (i, a.eval x)).toList = parts.toList.map fun (i, x) => (i, a.eval x) := Array.toList_map
            simp only [execOp, Instr.buildSlice, Sem.run_bind, run_underlying htu, Result.andThen_ok, run_sizeOf hn, hlim, if_false, Sem.run_pure, hpl]
            by_cases h0 : len * n = 0
            · rw [if_pos h0]
              simp only [Sem.run_pure, Result.andThen_ok, hstart #[] (.inl ⟨h0, rfl⟩), w1, Sem.run_bind, newRow, run_newObj]
              rfl
            · rw [if_neg h0]
              simp only [Sem.run_bind, run_zero hi hzv, Sem.run_pure, Result.andThen_ok, hstart zv.cells (.inr ⟨h0, rfl⟩), w1, newRow, run_newObj]
              rfl
          · simp only [Made.at, R]
            refine ⟨_, _, _, len, hm _, rfl, Nat.le_refl _, ?_⟩
            have : ws.length = len * n := by
              rw [w3, List.length_flatten]
              simp [hzl]
            simp [this]
        · simp at hres
      · simp at hres
    · simp at hres
  case makeSlice t lx cx =>
    split at hres
    · rename_i e l c hel hl hc
      split at hres
      · rename_i i z hi hz
        split at hres
        · rename_i hzl
          cases hres
          simp only [evA] at hev
          split at hev
          · rename_i n mm hn hmm
            split at hev
            · rename_i hcond
              obtain ⟨c1, c2, c3, c4⟩ := hcond
              cases hev
              have rl := opd_ok he hl
              have rc := opd_ok he hc
              rw [hn] at rl
              rw [hmm] at rc
              simp only [R] at rl rc
              obtain ⟨i', zv, hi', hzv, hzr, hone⟩ := zeroOf_ok (Φ := Φ) hz
              rw [hi] at hi'
              cases hi'
              have htu : P.underlying t = some (.slice e) := by
                unfold elemOfSlice at hel
                split at hel
                · rename_i hu; simp at hel; rw [hu, hel]
                · simp at hel
              have hsz : szOf P e = some i.size := by simp [szOf, hi]
              have hzl2 : zv.cells.toList.length = i.size := by rw [RPL_all hzr, hzl]
              obtain ⟨nn, rfl⟩ := Int.eq_ofNat_of_zero_le c1
              obtain ⟨mn, rfl⟩ := Int.eq_ofNat_of_zero_le (show 0 ≤ mm by omega)
              have hnm : nn ≤ mn := by omega
              have hw1 : IntKind.i64.wrap (nn : Int) = nn := i64_wrap_small (by omega) (by omega)
              have hw2 : IntKind.i64.wrap (mn : Int) = mn := i64_wrap_small (by omega) (by omega)
              have hstart : ∀ (zz : Array Value), (mn * i.size = 0 ∧ zz = #[] ∨ mn * i.size ≠ 0 ∧ zz = zv.cells) → ((Array.range (mn * i.size)).map (zz[· % zz.size]!)) = (List.replicate mn zv.cells.toList).flatten.toArray := by
                intro zz hzz
                apply Array.ext'
                rcases hzz with ⟨h0, rfl⟩ | ⟨h0, rfl⟩
                · rw [h0]
                  have : (List.replicate mn zv.cells.toList).flatten = [] := by
                    apply List.eq_nil_of_length_eq_zero
                    rw [List.length_flatten]
                    simp [hzl2]
                    exact h0
                  simp [this]
                · have hne : zv.cells.toList.length ≠ 0 := by
                    intro h
                    apply h0
                    rw [← hzl2, h]
                    simp
                  have := range_mod zv.cells.toList mn hne
                  rw [hzl2] at this
                  simpa using this
              have hflen : (List.replicate mn zv.cells.toList).flatten.length = mn * i.size := by
                rw [List.length_flatten]; simp [hzl2]
              refine ⟨.slice (some ⟨w.heap.size, 0, none⟩) nn mn, .cells (List.replicate mn zv.cells.toList).flatten.toArray e, _, ?_,
                objAt_new (vs := (List.replicate nn zv.cells.toList).flatten) (tail := (List.replicate (mn - nn) zv.cells.toList).flatten) ?_ (RL_of_RPL _ _ (zeros_ok nn hzr)) (all_zeros hone nn), ?_⟩
              · have hlim : ¬ ((i.bytes : Int) * (mn : Int) > 2 ^ 48) := by omega
                have t1 : (decide ((mn : Int) < 0) || decide ((i.bytes : Int) * (mn : Int) > 2 ^ 48)) = false := by simp; omega
                have hcnd : ¬ (((decide ((mn : Int) < 0) || decide ((i.bytes : Int) * (mn : Int) > 2 ^ 48)) || decide ((nn : Int) < 0) || decide ((nn : Int) > (mn : Int))) = true) := by
                  rw [t1]; simp; omega
                simp only [execOp, Instr.makeSlice, Sem.run_bind, run_underlying htu, Result.andThen_ok, rl, rc, asInt, asIntOf, Sem.run_pure, typeInfo, run_program, hi, hw1, hw2, hcnd, Sem.run_ite]
                rw [if_neg (by simp)]
                simp only [Result.andThen_ok, run_askRoom, Int.toNat_natCast, run_sizeOf hsz]
                by_cases h0 : mn * i.size = 0
                · simp only [h0, if_true, Sem.run_pure, Result.andThen_ok, newRow, run_newObj, Sem.run_bind]
                  have := hstart #[] (.inl ⟨h0, rfl⟩)
                  rw [h0] at this
                  rw [this]
                  rfl
                · simp only [h0, if_false, Sem.run_bind, run_zero hi hzv, Sem.run_pure, Result.andThen_ok, hstart zv.cells (.inr ⟨h0, rfl⟩), newRow, run_newObj]
                  rfl
              · simp only
                rw [← List.flatten_append, List.replicate_append_replicate]
                congr 2
                omega
              · simp only [Made.at, R, Int.toNat_natCast]
                refine ⟨_, _, _, mn, hm _, rfl, hnm, ?_⟩
                simp [hflen]
            · simp at hev
          · simp at hev
        · simp at hres
      · simp at hres
    · simp at hres
  case makeMap t r =>
    cases r with
    | some _ => simp at hres
    | none =>
      simp at hres
      subst hres
      simp only [evA] at hev
      cases hev
      refine ⟨.map (some w.heap.size), .map #[] 0, 0, ?_, ⟨#[], 0, alloc_here _ _, by simp [RKV]⟩, ?_⟩
      · simp only [execOp, Instr.makeMap, Option.map_none, Sem.run_bind, Sem.run_pure, Result.andThen_ok, run_newObj]
        rfl
      · simp only [Made.at, R]
        exact ⟨_, _, _, hm _, rfl⟩
  case move x => obtain ⟨z, _, e⟩ := map_some hres; cases e
  case assign x => obtain ⟨z, _, e⟩ := map_some hres; cases e
  case nilCheck x => obtain ⟨z, _, e⟩ := map_some hres; cases e
  case binOp op t x y yt => obtain ⟨z, _, e⟩ := map_some hres; cases e
  case unOp op t x => obtain ⟨z, _, e⟩ := map_some hres; cases e
  case extract x i => obtain ⟨z, _, e⟩ := map_some hres; cases e
  case pick c x y => split at hres <;> simp at hres
  case load t x => split at hres <;> simp at hres
  case store t x y => split at hres <;> simp at hres
  case fieldAddr t x f =>
    split at hres
    · split at hres <;> simp at hres
    · simp at hres
  case field t x f =>
    split at hres
    · split at hres <;> simp at hres
    · simp at hres
  case indexAddr t x f =>
    split at hres
    · split at hres <;> simp at hres
    · split at hres
      · split at hres <;> simp at hres
      · simp at hres
  case mapUpdate t m k v =>
    split at hres
    · split at hres <;> simp at hres
    · simp at hres
  case build t parts =>
    split at hres
    · split at hres
      · split at hres <;> simp at hres
      · simp at hres
    · simp at hres
  case lookup t m k ok =>
    split at hres
    · split at hres
      · split at hres <;> simp at hres
      · simp at hres
    · simp at hres
  case index t x f =>
    split at hres
    · simp at hres
    · split at hres <;> simp at hres
    · simp at hres
  case convert src dst' x =>
    split at hres
    · simp at hres
    · split at hres <;> simp at hres
    · simp at hres
  case slice t x lo hi mx =>
    cases mx with
    | some _ => simp at hres
    | none =>
      simp only at hres
      split at hres
      · simp at hres
      · split at hres <;> simp at hres
      · simp at hres
  case makeFunc fn first caps =>
    cases fn <;> simp only at hres <;> try (cases hres; done)
    split at hres
    · obtain ⟨z, _, e⟩ := map_some hres; cases e
    · simp at hres
  case call c =>
    obtain ⟨callee, args, types⟩ := c
    cases callee with
    | invoke _ _ => simp at hres
    | value f => simp only at hres; split at hres <;> simp at hres
    | builtin b =>
      simp only [resBuiltin] at hres
      split at hres
      · split at hres
        · split at hres <;> simp at hres
        · simp at hres
      · split at hres <;> simp at hres
      · split at hres <;> simp at hres
      · split at hres
        · split at hres
          · split at hres
            · split at hres <;> simp at hres
            · simp at hres
          · simp at hres
        · simp at hres
      · simp at hres
  all_goals (cases hres; done)

/-! Memory that is written. -/
theorem splice_lists {A vs tail new : List Value} {o off : Nat} (h : A.drop o = vs ++ tail) (hl : off + new.length ≤ vs.length) :
    (A.take (o + off) ++ new ++ A.drop (o + off + new.length)).drop o = (vs.take off ++ new ++ vs.drop (off + new.length)) ++ tail := by
  have hA : o + vs.length ≤ A.length ∨ vs = [] := by
    by_cases hv : vs = []
    · exact .inr hv
    · left
      have := congrArg List.length h
      simp at this
      have : 0 < vs.length := by cases vs <;> simp at hv ⊢
      omega
  have e1 : A.drop (o + off + new.length) = vs.drop (off + new.length) ++ tail := by
    rw [Nat.add_assoc, ← List.drop_drop, h, List.drop_append_of_le_length hl]
  have e2 : (A.take (o + off)).drop o = vs.take off := by
    rw [List.drop_take, h]
    have : o + off - o = off := by omega
    rw [this, List.take_append_of_le_length (by omega)]
  rcases hA with hA | hA
  · rw [List.append_assoc, List.drop_append_of_le_length (by simp; omega), e2, e1]
    simp [List.append_assoc]
  · subst hA
    simp at hl
    obtain ⟨rfl, hn⟩ := hl
    subst hn
    simp at h ⊢
    exact h

theorem W_sound {o : Oper} {n : Nat} {ad x : Opd} (hres : resOp P md o = some (.w n ad x)) (he : EnvR μ Φ env a) (hs : Sim μ Φ g w) {id : Nat} {vo : VObj} (hev : evW env g n ad x = some (id, vo)) :
    ∃ w' b o' z vo0, (execOp a.eval o).run P w = .ok .skip w' ∧ g id = some vo0 ∧ μ id = some (b, o', z) ∧ SameBut b w w' ∧ ObjAt μ Φ w' b o' z vo := by
  obtain ⟨dst, op, type, pos, after, guard⟩ := o
  cases op <;> simp only [resOp] at hres
  case store t xa xv =>
    split at hres
    · rename_i ya yv n0 hya hyv hn
      cases hres
      unfold evW at hev
      have ra := opd_ok he hya
      have rv := opd_ok he hyv
      split at hev
      · rename_i id' off hx
        rw [hx] at ra
        simp only [R] at ra
        obtain ⟨b, o', z, hm, e⟩ := ra
        split at hev
        · rename_i cs hg
          simp only at hev
          split at hev
          · rename_i hc
            obtain ⟨c1, c2, c3, c4⟩ := hc
            simp at hev
            obtain ⟨rfl, rfl⟩ := hev
            obtain ⟨b', o'', z', m1, m2, _⟩ := hs.obj id' _ hg
            rw [hm] at m1
            cases m1
            obtain ⟨arr, et, vs, tail, h1, h2, h3, h4, h5⟩ := m2
            obtain ⟨d1, d2⟩ := cellsOf_sound rv c3
            have hl1 := RL_length h4
            have hl2 := RL_length d1
            have hlen := congrArg List.length h3
            simp at hlen hl2
            have hfit : o' + off + 0 + (a.eval xv).cells.toList.length ≤ arr.size := by
              simp
              omega
            obtain ⟨w', arr', r1, r2, r3, r4, r5⟩ := run_storeCells P b (o' + off) et (a.eval xv).cells.toList 0 w arr h1 d2 hfit
            refine ⟨w', b, o', z, _, ?_, hg, hm, r2, arr', et, _, tail, r3, by rw [r4]; exact h2, ?_, splice_sound h4 d1, all_splice h5 c3⟩
            · have hsz : ¬ ((a.eval xv).cells.size ≠ n) := by omega
              simp only [execOp, Instr.storeAt, storeVar, e, Instr.sureAddr, Sem.run_bind, Sem.run_pure, Result.andThen_ok, run_sizeOf hn, hsz, if_false, r1]
            · rw [r5]
              simp only [Nat.add_zero]
              exact splice_lists h3 (by simp; omega)
          · simp at hev
        · simp at hev
      · simp at hev
    · simp at hres
  case move x => obtain ⟨z, _, e⟩ := map_some hres; cases e
  case assign x => obtain ⟨z, _, e⟩ := map_some hres; cases e
  case nilCheck x => obtain ⟨z, _, e⟩ := map_some hres; cases e
  case binOp op t x y yt => obtain ⟨z, _, e⟩ := map_some hres; cases e
  case unOp op t x => obtain ⟨z, _, e⟩ := map_some hres; cases e
  case extract x i => obtain ⟨z, _, e⟩ := map_some hres; cases e
  case alloc t => obtain ⟨z, _, e⟩ := map_some hres; cases e
  case box t x => obtain ⟨z, _, e⟩ := map_some hres; cases e
  case pick c x y => split at hres <;> simp at hres
  case load t x => split at hres <;> simp at hres
  case fieldAddr t x f =>
    split at hres
    · split at hres <;> simp at hres
    · simp at hres
  case field t x f =>
    split at hres
    · split at hres <;> simp at hres
    · simp at hres
  case indexAddr t x f =>
    split at hres
    · split at hres <;> simp at hres
    · split at hres
      · split at hres <;> simp at hres
      · simp at hres
  case mapUpdate t m k v =>
    split at hres
    · split at hres <;> simp at hres
    · simp at hres
  case build t parts =>
    split at hres
    · split at hres
      · split at hres <;> simp at hres
      · simp at hres
    · simp at hres
  case buildSlice t len parts =>
    split at hres
    · split at hres
      · split at hres <;> simp at hres
      · simp at hres
    · simp at hres
  case makeSlice t l c =>
    split at hres
    · split at hres
      · split at hres <;> simp at hres
      · simp at hres
    · simp at hres
  case lookup t m k ok =>
    split at hres
    · split at hres
      · split at hres <;> simp at hres
      · simp at hres
    · simp at hres
  case index t x f =>
    split at hres
    · simp at hres
    · split at hres <;> simp at hres
    · simp at hres
  case convert src dst' x =>
    split at hres
    · simp at hres
    · split at hres <;> simp at hres
    · simp at hres
  case slice t x lo hi mx =>
    cases mx with
    | some _ => simp at hres
    | none =>
      simp only at hres
      split at hres
      · simp at hres
      · split at hres <;> simp at hres
      · simp at hres
  case makeFunc fn first caps =>
    cases fn <;> simp only at hres <;> try (cases hres; done)
    split at hres
    · obtain ⟨z, _, e⟩ := map_some hres; cases e
    · simp at hres
  case makeMap t r => cases r <;> simp at hres
  case call c =>
    obtain ⟨callee, args, types⟩ := c
    cases callee with
    | invoke _ _ => simp at hres
    | value f => simp only at hres; split at hres <;> simp at hres
    | builtin b =>
      simp only [resBuiltin] at hres
      split at hres
      · split at hres
        · split at hres <;> simp at hres
        · simp at hres
      · split at hres <;> simp at hres
      · split at hres <;> simp at hres
      · split at hres
        · split at hres
          · split at hres
            · split at hres <;> simp at hres
            · simp at hres
          · simp at hres
        · simp at hres
      · simp at hres
  all_goals (cases hres; done)
end
end Go.V
