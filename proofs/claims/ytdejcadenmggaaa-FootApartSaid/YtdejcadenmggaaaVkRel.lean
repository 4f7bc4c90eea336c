/- The V machine: how its values and its store stand to the model's. -/
import Derived.Test.YtdejcadenmggaaaVkDefs
import Derived.WalkKit
namespace Go.V

abbrev Phi := Nat → Option Obj
abbrev Mu := Nat → Option (Nat × Nat × Nat)

def Phi.cell (Φ : Phi) (b o : Nat) : Option Value :=
  match Φ b with
  | some (.cells c _ _) => c[o]?
  | _ => none

mutual
def RP (Φ : Phi) : D → Value → Prop
  | .int k n, v => v = .int k n
  | .bool b, v => v = .bool b
  | .str s, v => v = .string s
  | .nilp, v => v = .pointer none
  | .fp cs off, v => ∃ b o, v = .pointer (some ⟨b, o + off, none⟩) ∧ RC Φ cs b o
  | .nils, v => v = .slice none 0 0
  | .lst sz xs, v => ∃ b o cap sp, v = .slice (some ⟨b, o, sp⟩) xs.length cap ∧ xs.length ≤ cap ∧ (sp = none ∨ xs = []) ∧ RG Φ sz xs b o
  | .agg cs, v => ∃ vs : List Value, v = .agg vs.toArray ∧ RPL Φ cs vs
  | .tup cs, v => ∃ vs : List Value, v = .tuple vs.toArray ∧ RPL Φ cs vs
  | .nilf, v => v = .nilFunc
  | .nilm, v => v = .map none
  | .undef, _ => False
  | .ptr _ _, _ => False
  | .arr _ _ _ _, _ => False
  | .fn _ _, _ => False
  | .map _, _ => False
def RPL (Φ : Phi) : List D → List Value → Prop
  | [], vs => vs = []
  | d :: ds, vs => ∃ u us, vs = u :: us ∧ RP Φ d u ∧ RPL Φ ds us
def RC (Φ : Phi) : List D → Nat → Nat → Prop
  | [], _, _ => True
  | d :: ds, b, o => (oneCell d = true ∧ ∃ u, Φ.cell b o = some u ∧ RP Φ d u) ∧ RC Φ ds b (o + 1)
def RG (Φ : Phi) (sz : Nat) : List (List D) → Nat → Nat → Prop
  | [], _, _ => True
  | g :: gs, b, o => g.length = sz ∧ RC Φ g b o ∧ RG Φ sz gs b (o + sz)
end

mutual
def R (μ : Mu) (Φ : Phi) : D → Value → Prop
  | .undef, _ => True
  | .ptr id off, v => ∃ b o z, μ id = some (b, o, z) ∧ v = .pointer (some ⟨b, o + off, none⟩)
  | .arr id off len sz, v => ∃ b o z cap, μ id = some (b, o, z) ∧ v = .slice (some ⟨b, o + off, none⟩) len cap ∧ len ≤ cap ∧ o + off + cap * sz ≤ z
  | .agg cs, v => ∃ vs : List Value, v = .agg vs.toArray ∧ RL μ Φ cs vs
  | .tup cs, v => ∃ vs : List Value, v = .tuple vs.toArray ∧ RL μ Φ cs vs
  | .fn f cs, v => ∃ vs : List Value, v = .func (.func f) #[] vs.toArray ∧ RL μ Φ cs vs
  | .map id, v => ∃ b o z, μ id = some (b, o, z) ∧ v = .map (some b)
  | .int k n, v => v = .int k n
  | .bool b, v => v = .bool b
  | .str s, v => v = .string s
  | .nilp, v => v = .pointer none
  | .fp cs off, v => RP Φ (.fp cs off) v
  | .nils, v => v = .slice none 0 0
  | .lst sz xs, v => RP Φ (.lst sz xs) v
  | .nilf, v => v = .nilFunc
  | .nilm, v => v = .map none
def RL (μ : Mu) (Φ : Phi) : List D → List Value → Prop
  | [], vs => vs = []
  | d :: ds, vs => ∃ u us, vs = u :: us ∧ R μ Φ d u ∧ RL μ Φ ds us
end

def Phi.le (Φ Φ' : Phi) : Prop := ∀ b ob, Φ b = some ob → Φ' b = some ob
def Mu.le (μ μ' : Mu) : Prop := ∀ id l, μ id = some l → μ' id = some l

theorem Phi.le_refl (Φ : Phi) : Φ.le Φ := fun _ _ h => h
theorem Phi.le_trans {a b c : Phi} (h : a.le b) (k : b.le c) : a.le c := fun _ _ e => k _ _ (h _ _ e)
theorem Mu.le_refl (μ : Mu) : μ.le μ := fun _ _ h => h
theorem Mu.le_trans {a b c : Mu} (h : a.le b) (k : b.le c) : a.le c := fun _ _ e => k _ _ (h _ _ e)

theorem Phi.cell_mono {Φ Φ' : Phi} (h : Φ.le Φ') {b o : Nat} {u : Value} (e : Φ.cell b o = some u) : Φ'.cell b o = some u := by
  unfold Phi.cell at *
  cases hb : Φ b with
  | none => simp [hb] at e
  | some ob => rw [h b ob hb]; rw [hb] at e; exact e

mutual
theorem RP_mono {Φ Φ' : Phi} (h : Φ.le Φ') : ∀ (d : D) (v : Value), RP Φ d v → RP Φ' d v
  | .int _ _, _, e => by simpa only [RP] using e
  | .bool _, _, e => by simpa only [RP] using e
  | .str _, _, e => by simpa only [RP] using e
  | .nilp, _, e => by simpa only [RP] using e
  | .fp cs off, v, e => by
    simp only [RP] at e ⊢
    obtain ⟨b, o, e1, e2⟩ := e
    exact ⟨b, o, e1, RC_mono h cs b o e2⟩
  | .nils, _, e => by simpa only [RP] using e
  | .lst sz xs, v, e => by
    simp only [RP] at e ⊢
    obtain ⟨b, o, cap, sp, e1, e2, e4, e3⟩ := e
    exact ⟨b, o, cap, sp, e1, e2, e4, RG_mono h sz xs b o e3⟩
  | .agg cs, v, e => by
    simp only [RP] at e ⊢
    obtain ⟨vs, e1, e2⟩ := e
    exact ⟨vs, e1, RPL_mono h cs vs e2⟩
  | .tup cs, v, e => by
    simp only [RP] at e ⊢
    obtain ⟨vs, e1, e2⟩ := e
    exact ⟨vs, e1, RPL_mono h cs vs e2⟩
  | .nilf, _, e => by simpa only [RP] using e
  | .nilm, _, e => by simpa only [RP] using e
  | .undef, _, e => by simp only [RP] at e
  | .ptr _ _, _, e => by simp only [RP] at e
  | .arr _ _ _ _, _, e => by simp only [RP] at e
  | .fn _ _, _, e => by simp only [RP] at e
  | .map _, _, e => by simp only [RP] at e
theorem RPL_mono {Φ Φ' : Phi} (h : Φ.le Φ') : ∀ (ds : List D) (vs : List Value), RPL Φ ds vs → RPL Φ' ds vs
  | [], _, e => by simpa only [RPL] using e
  | d :: ds, vs, e => by
    simp only [RPL] at e ⊢
    obtain ⟨u, us, e1, e2, e3⟩ := e
    exact ⟨u, us, e1, RP_mono h d u e2, RPL_mono h ds us e3⟩
theorem RC_mono {Φ Φ' : Phi} (h : Φ.le Φ') : ∀ (ds : List D) (b o : Nat), RC Φ ds b o → RC Φ' ds b o
  | [], _, _, _ => by simp only [RC]
  | d :: ds, b, o, e => by
    simp only [RC] at e ⊢
    obtain ⟨⟨e0, u, e1, e2⟩, e3⟩ := e
    exact ⟨⟨e0, u, Phi.cell_mono h e1, RP_mono h d u e2⟩, RC_mono h ds b (o + 1) e3⟩
theorem RG_mono {Φ Φ' : Phi} (h : Φ.le Φ') (sz : Nat) : ∀ (ds : List (List D)) (b o : Nat), RG Φ sz ds b o → RG Φ' sz ds b o
  | [], _, _, _ => by simp only [RG]
  | d :: ds, b, o, e => by
    simp only [RG] at e ⊢
    exact ⟨e.1, RC_mono h d b o e.2.1, RG_mono h sz ds b (o + sz) e.2.2⟩
end

mutual
theorem R_mono {μ μ' : Mu} {Φ Φ' : Phi} (hm : μ.le μ') (h : Φ.le Φ') : ∀ (d : D) (v : Value), R μ Φ d v → R μ' Φ' d v
  | .undef, _, _ => by simp only [R]
  | .ptr id off, v, e => by
    simp only [R] at e ⊢
    obtain ⟨b, o, z, e1, e2⟩ := e
    exact ⟨b, o, z, hm _ _ e1, e2⟩
  | .arr _ _ _ _, v, e => by
    simp only [R] at e ⊢
    obtain ⟨b, o, z, cap, e1, e2⟩ := e
    exact ⟨b, o, z, cap, hm _ _ e1, e2⟩
  | .agg cs, v, e => by
    simp only [R] at e ⊢
    obtain ⟨vs, e1, e2⟩ := e
    exact ⟨vs, e1, RL_mono hm h cs vs e2⟩
  | .tup cs, v, e => by
    simp only [R] at e ⊢
    obtain ⟨vs, e1, e2⟩ := e
    exact ⟨vs, e1, RL_mono hm h cs vs e2⟩
  | .fn f cs, v, e => by
    simp only [R] at e ⊢
    obtain ⟨vs, e1, e2⟩ := e
    exact ⟨vs, e1, RL_mono hm h cs vs e2⟩
  | .map id, v, e => by
    simp only [R] at e ⊢
    obtain ⟨b, o, z, e1, e2⟩ := e
    exact ⟨b, o, z, hm _ _ e1, e2⟩
  | .int _ _, _, e => by simpa only [R] using e
  | .bool _, _, e => by simpa only [R] using e
  | .str _, _, e => by simpa only [R] using e
  | .nilp, _, e => by simpa only [R] using e
  | .fp cs off, v, e => by simp only [R] at e ⊢; exact RP_mono h _ _ e
  | .nils, _, e => by simpa only [R] using e
  | .lst sz xs, v, e => by simp only [R] at e ⊢; exact RP_mono h _ _ e
  | .nilf, _, e => by simpa only [R] using e
  | .nilm, _, e => by simpa only [R] using e
theorem RL_mono {μ μ' : Mu} {Φ Φ' : Phi} (hm : μ.le μ') (h : Φ.le Φ') : ∀ (ds : List D) (vs : List Value), RL μ Φ ds vs → RL μ' Φ' ds vs
  | [], _, e => by simpa only [RL] using e
  | d :: ds, vs, e => by
    simp only [RL] at e ⊢
    obtain ⟨u, us, e1, e2, e3⟩ := e
    exact ⟨u, us, e1, R_mono hm h d u e2, RL_mono hm h ds us e3⟩
end

mutual
/-- What is related without a store's help is related. -/
theorem R_of_RP {μ : Mu} {Φ : Phi} : ∀ (d : D) (v : Value), RP Φ d v → R μ Φ d v
  | .int _ _, _, e => by simpa only [RP, R] using e
  | .bool _, _, e => by simpa only [RP, R] using e
  | .str _, _, e => by simpa only [RP, R] using e
  | .nilp, _, e => by simpa only [RP, R] using e
  | .fp cs off, v, e => by simp only [R]; exact e
  | .nils, _, e => by simpa only [RP, R] using e
  | .lst sz xs, v, e => by simp only [R]; exact e
  | .agg cs, v, e => by
    simp only [RP, R] at e ⊢
    obtain ⟨vs, e1, e2⟩ := e
    exact ⟨vs, e1, RL_of_RPL cs vs e2⟩
  | .tup cs, v, e => by
    simp only [RP, R] at e ⊢
    obtain ⟨vs, e1, e2⟩ := e
    exact ⟨vs, e1, RL_of_RPL cs vs e2⟩
  | .nilf, _, e => by simpa only [RP, R] using e
  | .nilm, _, e => by simpa only [RP, R] using e
  | .undef, _, e => by simp only [RP] at e
  | .ptr _ _, _, e => by simp only [RP] at e
  | .arr _ _ _ _, _, e => by simp only [RP] at e
  | .fn _ _, _, e => by simp only [RP] at e
  | .map _, _, e => by simp only [RP] at e
theorem RL_of_RPL {μ : Mu} {Φ : Phi} : ∀ (ds : List D) (vs : List Value), RPL Φ ds vs → RL μ Φ ds vs
  | [], _, e => by simpa only [RPL, RL] using e
  | d :: ds, vs, e => by
    simp only [RPL, RL] at e ⊢
    obtain ⟨u, us, e1, e2, e3⟩ := e
    exact ⟨u, us, e1, R_of_RP d u e2, RL_of_RPL ds us e3⟩
end

/-! Lists. -/
section
variable {μ : Mu} {Φ : Phi}
theorem RL_length : ∀ {ds : List D} {vs : List Value}, RL μ Φ ds vs → vs.length = ds.length
  | [], vs, e => by simp only [RL] at e; simp [e]
  | d :: ds, vs, e => by
    simp only [RL] at e
    obtain ⟨u, us, rfl, _, e3⟩ := e
    simp [RL_length e3]
theorem RL_get : ∀ {ds : List D} {vs : List Value}, RL μ Φ ds vs → ∀ {j : Nat} {d : D}, ds[j]? = some d → ∃ u, vs[j]? = some u ∧ R μ Φ d u
  | [], vs, e, j, d, h => by simp at h
  | d :: ds, vs, e, j, d', h => by
    simp only [RL] at e
    obtain ⟨u, us, rfl, e2, e3⟩ := e
    cases j with
    | zero => simp at h; subst h; exact ⟨u, by simp, e2⟩
    | succ j => simp at h; obtain ⟨x, hx, hr⟩ := RL_get e3 h; exact ⟨x, by simpa using hx, hr⟩
theorem RL_append : ∀ {ds : List D} {vs : List Value} {es : List D} {us : List Value}, RL μ Φ ds vs → RL μ Φ es us → RL μ Φ (ds ++ es) (vs ++ us)
  | [], vs, es, us, e, f => by simp only [RL] at e; subst e; simpa using f
  | d :: ds, vs, es, us, e, f => by
    simp only [RL] at e
    obtain ⟨u, ws, rfl, e2, e3⟩ := e
    simp only [List.cons_append, RL]
    exact ⟨u, ws ++ us, rfl, e2, RL_append e3 f⟩
theorem RL_take : ∀ {ds : List D} {vs : List Value} (n : Nat), RL μ Φ ds vs → RL μ Φ (ds.take n) (vs.take n)
  | [], vs, n, e => by simp only [RL] at e; subst e; simp [RL]
  | d :: ds, vs, n, e => by
    simp only [RL] at e
    obtain ⟨u, ws, rfl, e2, e3⟩ := e
    cases n with
    | zero => simp [RL]
    | succ n => simp only [List.take_succ_cons, RL]; exact ⟨u, _, rfl, e2, RL_take n e3⟩
theorem RL_drop : ∀ {ds : List D} {vs : List Value} (n : Nat), RL μ Φ ds vs → RL μ Φ (ds.drop n) (vs.drop n)
  | [], vs, n, e => by simp only [RL] at e; subst e; simp [RL]
  | d :: ds, vs, n, e => by
    cases n with
    | zero => simpa using e
    | succ n =>
      simp only [RL] at e
      obtain ⟨u, ws, rfl, e2, e3⟩ := e
      simpa using RL_drop n e3
theorem RL_nil_iff {vs : List Value} : RL μ Φ [] vs ↔ vs = [] := by simp only [RL]
theorem RL_one {d : D} {v : Value} (h : R μ Φ d v) : RL μ Φ [d] [v] := by simp only [RL]; exact ⟨v, [], rfl, h, rfl⟩
theorem RC_get : ∀ {ds : List D} {b o : Nat}, RC Φ ds b o → ∀ {j : Nat} {d : D}, ds[j]? = some d → ∃ u, Φ.cell b (o + j) = some u ∧ RP Φ d u
  | [], b, o, e, j, d, h => by simp at h
  | d :: ds, b, o, e, j, d', h => by
    simp only [RC] at e
    obtain ⟨⟨_, u, e1, e2⟩, e3⟩ := e
    cases j with
    | zero => simp at h; subst h; exact ⟨u, e1, e2⟩
    | succ j =>
      simp at h
      obtain ⟨x, hx, hr⟩ := RC_get e3 h
      exact ⟨x, by rw [← hx]; congr 1; omega, hr⟩
theorem RC_drop : ∀ {ds : List D} {b o : Nat} (n : Nat), RC Φ ds b o → RC Φ (ds.drop n) b (o + n)
  | [], b, o, n, _ => by simp [RC]
  | d :: ds, b, o, n, e => by
    cases n with
    | zero => simpa using e
    | succ n =>
      simp only [RC] at e
      have := RC_drop n e.2
      simpa [Nat.add_assoc, Nat.add_comm 1 n] using this
theorem RC_take : ∀ {ds : List D} {b o : Nat} (n : Nat), RC Φ ds b o → RC Φ (ds.take n) b o
  | [], b, o, n, _ => by simp [RC]
  | d :: ds, b, o, n, e => by
    cases n with
    | zero => simp [RC]
    | succ n =>
      simp only [RC] at e
      simp only [List.take_succ_cons, RC]
      exact ⟨e.1, RC_take n e.2⟩
theorem RC_append : ∀ {ds es : List D} {b o : Nat}, RC Φ ds b o → RC Φ es b (o + ds.length) → RC Φ (ds ++ es) b o
  | [], es, b, o, _, f => by simpa using f
  | d :: ds, es, b, o, e, f => by
    simp only [RC] at e
    simp only [List.cons_append, RC]
    exact ⟨e.1, RC_append e.2 (by simpa [Nat.add_assoc, Nat.add_comm 1 ds.length] using f)⟩
/-- Cells that are there, as a list of values. -/
theorem RC_one : ∀ {ds : List D} {b o : Nat}, RC Φ ds b o → ds.all oneCell = true
  | [], _, _, _ => rfl
  | d :: ds, b, o, e => by
    simp only [RC] at e
    simp only [List.all_cons, Bool.and_eq_true]
    exact ⟨e.1.1, RC_one e.2⟩
theorem RC_values : ∀ {ds : List D} {b o : Nat}, RC Φ ds b o → ∃ vs, RPL Φ ds vs ∧ ∀ j u, vs[j]? = some u → Φ.cell b (o + j) = some u
  | [], b, o, _ => ⟨[], by simp [RPL], by simp⟩
  | d :: ds, b, o, e => by
    simp only [RC] at e
    obtain ⟨⟨_, u, e1, e2⟩, e3⟩ := e
    obtain ⟨vs, h1, h2⟩ := RC_values e3
    refine ⟨u :: vs, by simp only [RPL]; exact ⟨u, vs, rfl, e2, h1⟩, ?_⟩
    intro j x hx
    cases j with
    | zero => simp at hx; subst hx; exact e1
    | succ j => simp at hx; have := h2 j x hx; rw [← this]; congr 1; omega
theorem RG_get {sz : Nat} : ∀ {xs : List (List D)} {b o : Nat}, RG Φ sz xs b o → ∀ {i : Nat} {g : List D}, xs[i]? = some g → g.length = sz ∧ RC Φ g b (o + i * sz)
  | [], b, o, e, j, d, h => by simp at h
  | x :: xs, b, o, e, i, g, h => by
    simp only [RG] at e
    cases i with
    | zero => simp at h; subst h; exact ⟨e.1, by simpa using e.2.1⟩
    | succ i =>
      simp at h
      have := RG_get e.2.2 h
      refine ⟨this.1, ?_⟩
      have h2 := this.2
      have ee : o + sz + i * sz = o + (i + 1) * sz := by rw [Nat.add_mul]; omega
      rwa [ee] at h2
theorem RG_drop {sz : Nat} : ∀ {xs : List (List D)} {b o : Nat} (n : Nat), n ≤ xs.length → RG Φ sz xs b o → RG Φ sz (xs.drop n) b (o + n * sz)
  | [], b, o, n, hn, _ => by simp [RG]
  | x :: xs, b, o, n, hn, e => by
    cases n with
    | zero => simpa using e
    | succ n =>
      simp only [RG] at e
      have h2 := RG_drop n (by simpa using hn) e.2.2
      have ee : o + sz + n * sz = o + (n + 1) * sz := by rw [Nat.add_mul]; omega
      rw [ee] at h2
      simpa using h2
theorem RG_take {sz : Nat} : ∀ {xs : List (List D)} {b o : Nat} (n : Nat), RG Φ sz xs b o → RG Φ sz (xs.take n) b o
  | [], b, o, n, _ => by simp [RG]
  | x :: xs, b, o, n, e => by
    cases n with
    | zero => simp [RG]
    | succ n =>
      simp only [RG] at e
      simp only [List.take_succ_cons, RG]
      exact ⟨e.1, e.2.1, RG_take n e.2.2⟩
theorem RG_flat {sz : Nat} : ∀ {xs : List (List D)} {b o : Nat}, RG Φ sz xs b o → RC Φ xs.flatten b o ∧ xs.flatten.length = xs.length * sz
  | [], b, o, _ => by simp [RC]
  | x :: xs, b, o, e => by
    simp only [RG] at e
    have := RG_flat e.2.2
    refine ⟨?_, ?_⟩
    · simp only [List.flatten_cons]
      exact RC_append e.2.1 (by rw [e.1]; exact this.1)
    · simp only [List.flatten_cons, List.length_append, this.2, e.1, List.length_cons, Nat.add_mul]
      omega
end

end Go.V
