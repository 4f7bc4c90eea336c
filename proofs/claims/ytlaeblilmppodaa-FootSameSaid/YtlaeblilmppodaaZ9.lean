/- Texts one behind the other. -/
import Derived.Test.YtlaeblilmppodaaZ8
import Derived.Test.YtlaeblilmppodaaVt
import Derived.Test.YtlaeblilmppodaaZ4
set_option linter.unusedSimpArgs false
set_option linter.unusedVariables false
namespace Go.V
def renV (σ : Nat → Nat) (v : Int) : Int := if 0 ≤ v then ((σ v.toNat : Nat) : Int) else v
def renE (σ : Nat → Nat) (e : Ed) : Ed := { e with var := renV σ e.var }
def ren (σ : Nat → Nat) (l : List Nat) (c : Nat) (p : Pr) : Pr := { p with copy := c, locals := l, vars := p.vars.map σ, edges := p.edges.map (renE σ) }
variable {σ : Nat → Nat} {l : List Nat} {c : Nat}
theorem renV_neg : renV σ (-1) = -1 := rfl
theorem renV_nat (v : Nat) : renV σ (v : Int) = ((σ v : Nat) : Int) := by unfold renV; rw [if_pos (by omega), Int.toNat_natCast]
theorem ren_put (p : Pr) (frm to act node : Nat) (expr v ch : Int) : (ren σ l c p).put frm to act node expr (renV σ v) ch = ren σ l c (p.put frm to act node expr v ch) := by
  simp [ren, Pr.put, renE]
theorem ren_put1 (p : Pr) (frm to act node : Nat) (expr ch : Int) : (ren σ l c p).put frm to act node expr (-1) ch = ren σ l c (p.put frm to act node expr (-1) ch) := ren_put p frm to act node expr (-1) ch
theorem ren_place (p : Pr) : (ren σ l c p).place = ren σ l c p.place := rfl
theorem ren_places (p : Pr) : (ren σ l c p).places = p.places := rfl
theorem ren_idle (p : Pr) (n : Nat) (is : Int) : (ren σ l c p).idle n is = ren σ l c (p.idle n is) := by
  unfold Pr.idle
  split <;> rfl
theorem ren_mark (n to : Nat) (es : List Ed) : markK n to (es.map (renE σ)) = (markK n to es).map (renE σ) := by
  unfold markK
  simp only [List.map_append, List.map_take, List.map_drop, List.map_map]
  rfl
def StC (σ : Nat → Nat) (l : List Nat) (c : Nat) (names : List ByteArray) (vars : List Nat) (st : Pr → Nat → Nat → Nat → Pr) (k : Nat) : Prop :=
  ∀ p frm to, p.names = names → p.vars = vars → st (ren σ l c p) k frm to = ren σ l c (st p k frm to) ∧ (st p k frm to).names = names ∧ (st p k frm to).vars = vars
theorem sev_ren {names : List ByteArray} {vars : List Nat} {st : Pr → Nat → Nat → Nat → Pr} {node : Nat} : ∀ {ks : List Nat} {p : Pr} {frm to : Nat}, (∀ k ∈ ks, StC σ l c names vars st k) → p.names = names → p.vars = vars →
    sevF st node (ren σ l c p) ks frm to = ren σ l c (sevF st node p ks frm to) ∧ (sevF st node p ks frm to).names = names ∧ (sevF st node p ks frm to).vars = vars
  | [], p, frm, to, _, hn, hv => ⟨ren_put1 _ _ _ _ _ _ _, hn, hv⟩
  | [k], p, frm, to, hs, hn, hv => hs k (by simp) p frm to hn hv
  | k :: k' :: ks, p, frm, to, hs, hn, hv => by
    obtain ⟨a1, a2, a3⟩ := hs k (by simp) p.place frm p.places hn hv
    obtain ⟨b1, b2, b3⟩ := sev_ren (node := node) (ks := k' :: ks) (p := st p.place k frm p.places) (frm := p.places) (to := to) (fun x hx => hs x (by simp only [List.mem_cons] at hx ⊢; right; exact hx)) a2 a3
    refine ⟨?_, b2, b3⟩
    show sevF st node (st (ren σ l c p).place k frm (ren σ l c p).places) (k' :: ks) (ren σ l c p).places to = _
    rw [ren_place, ren_places, a1, b1]
    rfl
theorem choose_ren {t : List Nd} {names : List ByteArray} {vars : List Nat} {st : Pr → Nat → Nat → Nat → Pr} {frm to : Nat} : ∀ {ks : List Nat} {p : Pr}, (∀ b ∈ ks, ∀ k ∈ (nd t b).ks, StC σ l c names vars st k) → p.names = names → p.vars = vars →
    chooseF t st frm to (ren σ l c p) ks = ren σ l c (chooseF t st frm to p ks) ∧ (chooseF t st frm to p ks).names = names ∧ (chooseF t st frm to p ks).vars = vars
  | [], p, _, hn, hv => ⟨rfl, hn, hv⟩
  | b :: ks, p, hs, hn, hv => by
    unfold chooseF
    split
    · obtain ⟨a1, a2, a3⟩ := sev_ren (node := b) (ks := (nd t b).ks) (p := p.place.put frm p.places 0 b (-1) (-1) (-1)) (frm := p.places) (to := to) (hs b (by simp)) hn hv
      obtain ⟨b1, b2, b3⟩ := choose_ren (ks := ks) (fun x hx => hs x (by simp [hx])) a2 a3
      refine ⟨?_, b2, b3⟩
      rw [ren_place, ren_places, ren_put1]
      unfold blkF
      rw [a1]
      exact b1
    · obtain ⟨a1, a2, a3⟩ := sev_ren (node := b) (ks := (nd t b).ks) (p := p) (frm := frm) (to := to) (hs b (by simp)) hn hv
      obtain ⟨b1, b2, b3⟩ := choose_ren (ks := ks) (fun x hx => hs x (by simp [hx])) a2 a3
      refine ⟨?_, b2, b3⟩
      unfold blkF
      rw [a1]
      exact b1
theorem getD_map {vs : List Nat} {i : Nat} (h : i < vs.length) : (vs.map σ).getD i 0 = σ (vs.getD i 0) := by simp [List.getD, h]
theorem stat_ren {t : List Nd} (ht : TreeOk t) {nch : Nat} {ch names : List ByteArray} {vars : List Nat} {P : Nat → Prop} (hc : ∀ j, j < t.length → P j → ∀ k ∈ (nd t j).ks, P k) (hs : ∀ k, P k → Sight t nch ch names vars k) : ∀ (f k : Nat), k < t.length → P k → statK (nd t k).kind → t.length - k < f → StC σ l c names vars (statF t ch f) k
  | 0, k, _, _, _, hf => by omega
  | f + 1, k, hk, hP, hst, hf => by
    intro p frm to hn hv
    have hno := ht.node k hk
    have hks := ht.ks hk
    have hS := hs k hP
    have bl : ∀ b ∈ (nd t k).ks, (nd t b).kind = 16 → ∀ x ∈ (nd t b).ks, StC σ l c names vars (statF t ch f) x := fun b hb hb16 x hx => by
      have h1 := hks b hb
      have h2 := ht.ks h1.2 x hx
      exact stat_ren ht hc hs f x h2.2 (hc b h1.2 (hc k hk hP b hb) x hx) ((ht.node b h1.2).block hb16 x hx) (by omega)
    have hvar : ∀ s, 0 < names.length → ((((ren σ l c p).vars.getD (findN (ren σ l c p).names s) 0 : Nat) : Int)) = renV σ ((p.vars.getD (findN p.names s) 0 : Nat) : Int) := fun s h0 => by
      rw [renV_nat]
      show (((p.vars.map σ).getD (findN p.names s) 0 : Nat) : Int) = _
      rw [getD_map (by rw [hv, hn, ← hS.same]; exact findN_lt h0)]
    have ip := idle_places p frm ((nd t k).num 0)
    unfold statF
    simp only
    by_cases c6 : (nd t k).kind = 6
    · rw [if_pos c6, if_pos c6, hvar _ (hS.v (.inl c6)), ren_put]
      exact ⟨rfl, hn, hv⟩
    rw [if_neg c6, if_neg c6]
    by_cases c7 : (nd t k).kind = 7
    · rw [if_pos c7, if_pos c7, ren_put1]
      exact ⟨rfl, hn, hv⟩
    rw [if_neg c7, if_neg c7]
    by_cases c8 : (nd t k).kind = 8
    · rw [if_pos c8, if_pos c8, hvar _ (hS.v (.inr c8)), ren_idle, ren_put]
      exact ⟨rfl, ip.2.2.2.trans hn, ip.2.2.1.trans hv⟩
    rw [if_neg c8, if_neg c8]
    by_cases c9 : (nd t k).kind = 9
    · rw [if_pos c9, if_pos c9, ren_idle, ren_put1]
      exact ⟨rfl, ip.2.2.2.trans hn, ip.2.2.1.trans hv⟩
    rw [if_neg c9, if_neg c9]
    by_cases c10 : (nd t k).kind = 10
    · rw [if_pos c10, if_pos c10, ren_idle]
      have h1 := hno.choose c10
      exact choose_ren (fun b hb => bl b hb (h1.2 b hb)) (ip.2.2.2.trans hn) (ip.2.2.1.trans hv)
    rw [if_neg c10, if_neg c10]
    by_cases c11 : (nd t k).kind = 11
    · rw [if_pos c11, if_pos c11]
      obtain ⟨l1, l2, l3, l4⟩ := hno.cond c11
      have m1 := kid_mem (x := nd t k) (i := 1) (by omega)
      obtain ⟨a1, a2, a3⟩ := sev_ren (node := (nd t k).kid 1) (ks := (nd t ((nd t k).kid 1)).ks) (p := p.place.put frm p.places 4 k ((nd t k).kid 0 : Nat) (-1) (-1)) (frm := p.places) (to := to) (bl _ m1 l3) hn hv
      rw [ren_place, ren_places, ren_put1]
      unfold blkF
      rw [a1]
      generalize sevF (statF t ch f) ((nd t k).kid 1) (p.place.put frm p.places 4 k ((nd t k).kid 0 : Nat) (-1) (-1)) (nd t ((nd t k).kid 1)).ks p.places to = q at *
      split
      · rw [ren_put1]
        exact ⟨rfl, a2, a3⟩
      · have m2 := kid_mem (x := nd t k) (i := 2) (by omega)
        obtain ⟨b1, b2, b3⟩ := sev_ren (node := (nd t k).kid 2) (ks := (nd t ((nd t k).kid 2)).ks) (p := q.place.put frm q.places 5 k ((nd t k).kid 0 : Nat) (-1) (-1)) (frm := q.places) (to := to) (bl _ m2 (l4 (by omega))) a2 a3
        rw [ren_place, ren_places, ren_put1, b1]
        exact ⟨rfl, b2, b3⟩
    rw [if_neg c11, if_neg c11]
    by_cases c12 : (nd t k).kind = 12
    · rw [if_pos c12, if_pos c12]
      obtain ⟨l1, l2, l3⟩ := hno.loop c12
      have m1 := kid_mem (x := nd t k) (i := 1) (by omega)
      obtain ⟨a1, a2, a3⟩ := sev_ren (node := (nd t k).kid 1) (ks := (nd t ((nd t k).kid 1)).ks) (p := (p.place.put frm p.places 4 k ((nd t k).kid 0 : Nat) (-1) (-1)).put frm to 5 k ((nd t k).kid 0 : Nat) (-1) (-1)) (frm := p.places) (to := frm) (bl _ m1 l3) hn hv
      rw [ren_place, ren_places, ren_put1, ren_put1]
      unfold blkF
      rw [a1]
      exact ⟨rfl, a2, a3⟩
    rw [if_neg c12, if_neg c12]
    by_cases c13 : (nd t k).kind = 13
    · rw [if_pos c13, if_pos c13]
      obtain ⟨l1, l2⟩ := hno.atom c13
      have m0 := kid_mem (x := nd t k) (i := 0) (by omega)
      obtain ⟨a1, a2, a3⟩ := sev_ren (node := (nd t k).kid 0) (ks := (nd t ((nd t k).kid 0)).ks) (p := p) (frm := frm) (to := to) (bl _ m0 l2) hn hv
      unfold blkF
      rw [a1]
      refine ⟨?_, a2, a3⟩
      have e : (ren σ l c p).edges.length = p.edges.length := by simp [ren]
      rw [e]
      generalize sevF (statF t ch f) ((nd t k).kid 0) p (nd t ((nd t k).kid 0)).ks frm to = q
      show ({ ren σ l c q with edges := markK p.edges.length to (q.edges.map (renE σ)) } : Pr) = _
      rw [ren_mark]
      rfl
    rw [if_neg c13, if_neg c13]
    by_cases c15 : (nd t k).kind = 15
    · rw [if_pos c15, if_pos c15, ren_put1]
      exact ⟨rfl, hn, hv⟩
    rw [if_neg c15, if_neg c15, ren_put1]
    exact ⟨rfl, hn, hv⟩
def shiftS (g d : Nat) (v : Nat) : Nat := if v < g then v else v + d
theorem proc_ren {t : List Nd} (h : RightT t) (hS : Scoped t) {o o' : Org} (ho : o ∈ orgs t) (hk : o'.k = o.k) (hs : o'.seen = o.seen) (hnv : o.nv ≤ o'.nv) : proc1 t o' = ren (shiftS (gat t).vs.length (o'.nv - o.nv)) (pr1 t o').locals o'.c (proc1 t o) := by
  obtain ⟨vs, v1, v2, v3, v4⟩ := pr1_pr0 ho
  have hok := org_ok ho
  have hlo := hok.lo
  obtain ⟨b, b1, hsub, k2, _, hsg⟩ := org_sight h hS ho
  have hpc := loc_proc ((h.ok.node o.k k2).proc hok.kind)
  have hclo : ∀ j, j < t.length → (o.k ≤ j ∧ j < b) → ∀ k ∈ (nd t j).ks, o.k ≤ k ∧ k < b := fun j _ hj k hk => by
    obtain ⟨z, hz, rfl⟩ := List.mem_map.1 hk
    have := hsub.down j hj.1 hj.2 z hz
    omega
  have e0 : pr1 t o' = ren (shiftS (gat t).vs.length (o'.nv - o.nv)) (pr1 t o').locals o'.c (pr1 t o) := by
    unfold ren
    simp only [pr1, hk, hs, List.map_nil, List.map_append, List.map_map]
    congr 1
    congr 1
    · symm
      rw [List.map_congr_left (g := id)]
      · simp
      · intro v hv
        rw [List.mem_range] at hv
        unfold shiftS
        rw [if_pos (by omega)]
        rfl
    · refine List.map_congr_left fun v _ => ?_
      simp only [Function.comp_apply, shiftS]
      rw [if_neg (by omega)]
      omega
  have e1 : ∀ k ∈ (nd t o.k).ks.drop (locN t (nd t o.k)), StC (shiftS (gat t).vs.length (o'.nv - o.nv)) (pr1 t o').locals o'.c (pr1 t o).names (pr1 t o).vars (statF t (chs t) (t.length + 1)) k := fun k hk => by
    have hst := hpc.1 k hk
    have hkm := List.mem_of_mem_drop hk
    have hkk := h.ok.ks k2 k hkm
    exact stat_ren h.ok hclo hsg (t.length + 1) k hkk.2 (hclo o.k k2 ⟨Nat.le_refl _, hsub.lt⟩ k hkm) hst (by omega)
  unfold proc1
  rw [hk]
  conv => lhs; rw [e0]
  exact (sev_ren e1 rfl rfl).1
def Prev (t : List Nd) (l : List Org) : Prop := ∀ j (hj : j < l.length), 0 < l[j].c → ∃ i, ∃ hi : i < l.length, j = i + 1 ∧ l[i].k = l[j].k ∧ l[i].seen = l[j].seen ∧ l[i].c + 1 = l[j].c ∧ l[i].nv + locN t (nd t l[j].k) = l[j].nv
theorem prev_app {t : List Nd} {l : List Org} {k seen nv n : Nat} (h : Prev t l) : Prev t (l ++ orgC t k seen nv n) := by
  intro j hj hc
  by_cases hl : j < l.length
  · rw [List.getElem_append_left hl] at hc
    obtain ⟨i, hi, rfl, h1, h2, h3, h4⟩ := h j hl hc
    refine ⟨i, by rw [List.length_append]; omega, rfl, ?_⟩
    rw [List.getElem_append_left hi, List.getElem_append_left hl]
    exact ⟨h1, h2, h3, h4⟩
  · rw [List.getElem_append_right (by omega)] at hc
    have hl2 : j - l.length < n := by rw [List.length_append] at hj; simp [orgC] at hj; omega
    simp only [orgC, List.getElem_map, List.getElem_range] at hc
    refine ⟨j - 1, by omega, by omega, ?_⟩
    rw [List.getElem_append_right (by omega), List.getElem_append_right (by omega)]
    simp only [orgC, List.getElem_map, List.getElem_range]
    refine ⟨trivial, trivial, by omega, ?_⟩
    have : j - l.length = (j - 1 - l.length) + 1 := by omega
    rw [this, Nat.succ_mul]
    omega
theorem orgs_prev (t : List Nd) : Prev t (orgs t) := by
  unfold orgs pass3
  refine foldl_inv (P := fun a : Gc => Prev t a.l) (fun j hj => by simp at hj) fun a k _ ha => ?_
  unfold one3
  split
  · exact prev_app ha
  · split <;> exact ha
theorem proc_copy (t : List Nd) (o : Org) (h : RightT t) (hS : Scoped t) (ho : o ∈ orgs t) : (proc1 t o).copy = o.c := (proc_inv h hS ho).2.copy
theorem copy_alike {t : List Nd} (h : RightT t) (hS : Scoped t) {p : Nat} (hp : p < (modelOf t).procs.length) (hc : 0 < (modelOf t).procs[p].copy) : ∃ q, ∃ hq : q < (modelOf t).procs.length, p = q + 1 ∧ ∃ d l, (modelOf t).procs[p] = ren (shiftS (modelOf t).globals d) l (modelOf t).procs[p].copy (modelOf t).procs[q] ∧ (modelOf t).procs[q].copy + 1 = (modelOf t).procs[p].copy ∧ ∀ v ∈ (modelOf t).procs[q].vars, v < (modelOf t).globals ∨ v ∈ (modelOf t).procs[q].locals := by
  have e : (modelOf t).procs = (orgs t).map (proc1 t) := (orgs_eq t).1
  have hpl : p < (orgs t).length := by rw [e, List.length_map] at hp; exact hp
  have ep : (modelOf t).procs[p] = proc1 t (orgs t)[p] := by simp [e]
  have hom := List.getElem_mem hpl
  have ec := proc_copy t _ h hS hom
  rw [ep, ec] at hc
  obtain ⟨q, hq, rfl, h1, h2, h3, h4⟩ := orgs_prev t p hpl hc
  have hoq := List.getElem_mem hq
  have eq : (modelOf t).procs[q]'(by omega) = proc1 t (orgs t)[q] := by simp [e]
  have ecq := proc_copy t _ h hS hoq
  refine ⟨q, by omega, rfl, (orgs t)[q + 1].nv - (orgs t)[q].nv, (pr1 t (orgs t)[q + 1]).locals, ?_, ?_, ?_⟩
  · rw [ep, eq, ec]
    exact proc_ren h hS hoq h1.symm h2.symm (by omega)
  · rw [ep, eq, ec, ecq]; exact h3
  · rw [eq]
    have g := (proc_inv h hS hoq).2
    have hok := org_ok hoq
    obtain ⟨vs, v1, v2, v3, v4⟩ := pr1_pr0 hoq
    rw [g.vars, g.locals]
    intro v hv
    simp only [pr1, List.mem_append, List.mem_range, List.mem_map] at hv ⊢
    rcases hv with hv | hv
    · exact .inl (by show v < (gat t).vs.length; omega)
    · exact .inr hv
end Go.V
namespace Go.V
theorem Ft.self (f : Ft) : f.apart f = decide ((f.writes ||| f.sends) ||| f.recvs = 0) := by
  unfold Ft.apart Ft.dist
  have e1 : f.writes &&& (f.reads ||| f.writes) = f.writes := by
    apply Nat.eq_of_testBit_eq
    intro i
    rw [Nat.testBit_and, Nat.testBit_or]
    cases f.writes.testBit i <;> simp
  have e2 : (f.sends ||| f.recvs) &&& ((f.sends ||| f.recvs) ||| f.sizes) = f.sends ||| f.recvs := by
    apply Nat.eq_of_testBit_eq
    intro i
    rw [Nat.testBit_and, Nat.testBit_or (x := f.sends ||| f.recvs) (y := f.sizes)]
    cases (f.sends ||| f.recvs).testBit i <;> simp
  rw [e1, e2, Bool.and_self, Nat.or_assoc]
  rw [Bool.eq_iff_iff]
  simp only [Bool.not_eq_true', Bool.or_eq_false_iff, decide_eq_false_iff_not, ne_eq, Decidable.not_not, decide_eq_true_eq, or_zero]
structure Like (b : Nat) (f g : Ft) : Prop where
  r : f.reads.testBit b = g.reads.testBit b
  z : f.sizes = g.sizes
  p : f.part = g.part
theorem read1_like {ch : List ByteArray} {vb vb' : ByteArray → Nat} {b : Nat} (hv : ∀ w, (vb w).testBit b = (vb' w).testBit b) {x : Nd} {f g : Ft} (h : Like b f g) : Like b (read1 ch vb x f) (read1 ch vb' x g) := by
  unfold read1
  split
  · exact ⟨by simp only [Nat.testBit_or, h.r, hv], h.z, h.p⟩
  · split
    · exact ⟨h.r, by simp only [h.z], h.p⟩
    · split
      · exact ⟨h.r, h.z, rfl⟩
      · exact h
theorem fold_like {α β γ : Type} {R : β → γ → Prop} {g : β → α → β} {g' : γ → α → γ} : ∀ {l : List α} {a : β} {b : γ}, R a b → (∀ a b x, x ∈ l → R a b → R (g a x) (g' b x)) → R (l.foldl g a) (l.foldl g' b)
  | [], a, b, h, _ => h
  | x :: l, a, b, h, hg => fold_like (l := l) (hg a b x (by simp) h) fun a b y hy => hg a b y (by simp [hy])
theorem readF_like {t : List Nd} {ch : List ByteArray} {vb vb' : ByteArray → Nat} {b : Nat} (hv : ∀ w, (vb w).testBit b = (vb' w).testBit b) : ∀ (n k : Nat) (f g : Ft), Like b f g → Like b (readF t ch vb n k f) (readF t ch vb' n k g)
  | 0, k, f, g, h => h
  | n + 1, k, f, g, h => by
    unfold readF
    exact fold_like (R := Like b) (read1_like hv h) fun a b x _ hab => readF_like hv n x a b hab
theorem shift_bit {g d v b : Nat} (hb : b < g) : decide (shiftS g d v = b) = decide (v = b) := by
  unfold shiftS
  rw [Bool.eq_iff_iff, decide_eq_true_eq, decide_eq_true_eq]
  split <;> omega
theorem varB_ren {names : List ByteArray} {vars : List Nat} {g d b : Nat} (hs : names.length = vars.length) (hb : b < g) (w : ByteArray) : (varB names (vars.map (shiftS g d)) w).testBit b = (varB names vars w).testBit b := by
  unfold varB
  split
  · rename_i hl
    rw [getD_map (by rw [← hs]; exact hl), Nat.testBit_two_pow, Nat.testBit_two_pow]
    exact shift_bit hb
  · rfl
theorem bitN_ren {v : Int} {g d b : Nat} (hb : b < g) : (bitN (renV (shiftS g d) v)).testBit b = (bitN v).testBit b := by
  unfold renV
  split
  · rename_i h
    obtain ⟨n, rfl⟩ := Int.eq_ofNat_of_zero_le h
    rw [bitN_nat, Int.toNat_natCast, bitN_nat, Nat.testBit_two_pow, Nat.testBit_two_pow]
    exact shift_bit hb
  · rfl
def exprF (mo : Mo) (p : Pr) (e : Ed) : Ft := if 0 ≤ e.expr then readF mo.tree (mo.chans.map Ch.name) (varB p.names p.vars) (mo.tree.length + 1) e.expr.toNat ⟨0, 0, 0, 0, 0, false⟩ else ⟨0, 0, 0, 0, 0, false⟩
def actF (e : Ed) (f : Ft) : Ft :=
  if e.act = 1 then { f with writes := bitN e.var }
  else if e.act = 2 then { f with sends := bitN e.chan }
  else if e.act = 3 then { f with writes := bitN e.var, recvs := bitN e.chan } else f
theorem edgeF_eq (mo : Mo) (p : Pr) (e : Ed) : edgeF mo p e = actF e (exprF mo p e) := rfl
theorem exprF_only (mo : Mo) (p : Pr) (e : Ed) : Only (exprF mo p e) := by
  unfold exprF
  split
  · exact readF_only _ _ _ ⟨rfl, rfl, rfl⟩
  · exact ⟨rfl, rfl, rfl⟩
structure LikeAll (g : Nat) (f h : Ft) : Prop where
  r : f.reads % 2 ^ g = h.reads % 2 ^ g
  w : f.writes % 2 ^ g = h.writes % 2 ^ g
  s : f.sends = h.sends
  v : f.recvs = h.recvs
  z : f.sizes = h.sizes
  p : f.part = h.part
theorem mod_bits {g x y : Nat} (h : ∀ b, b < g → x.testBit b = y.testBit b) : x % 2 ^ g = y % 2 ^ g := by
  apply Nat.eq_of_testBit_eq
  intro i
  rw [Nat.testBit_mod_two_pow, Nat.testBit_mod_two_pow]
  by_cases hi : i < g
  · simp [hi, h i hi]
  · simp [hi]
theorem like_all {g : Nat} {f h : Ft} (hb : ∀ b, b < g → Like b f h) (h0 : f.sizes = h.sizes ∧ f.part = h.part) (hf : Only f) (hh : Only h) : LikeAll g f h :=
  ⟨mod_bits fun b hg => (hb b hg).r, by rw [hf.w, hh.w], by rw [hf.s, hh.s], by rw [hf.v, hh.v], h0.1, h0.2⟩
theorem actF_all {g d : Nat} {f h : Ft} {e : Ed} (k : LikeAll g f h) : LikeAll g (actF (renE (shiftS g d) e) f) (actF e h) := by
  have hv : bitN (renV (shiftS g d) e.var) % 2 ^ g = bitN e.var % 2 ^ g := mod_bits fun b hb => bitN_ren hb
  unfold actF
  by_cases a1 : e.act = 1
  · rw [if_pos a1, if_pos (show (renE (shiftS g d) e).act = 1 from a1)]
    exact ⟨k.r, hv, k.s, k.v, k.z, k.p⟩
  rw [if_neg a1, if_neg (show ¬ (renE (shiftS g d) e).act = 1 from a1)]
  by_cases a2 : e.act = 2
  · rw [if_pos a2, if_pos (show (renE (shiftS g d) e).act = 2 from a2)]
    exact ⟨k.r, k.w, rfl, k.v, k.z, k.p⟩
  rw [if_neg a2, if_neg (show ¬ (renE (shiftS g d) e).act = 2 from a2)]
  by_cases a3 : e.act = 3
  · rw [if_pos a3, if_pos (show (renE (shiftS g d) e).act = 3 from a3)]
    exact ⟨k.r, hv, k.s, rfl, k.z, k.p⟩
  rw [if_neg a3, if_neg (show ¬ (renE (shiftS g d) e).act = 3 from a3)]
  exact k
def LikeZ (f g : Ft) : Prop := f.sizes = g.sizes ∧ f.part = g.part
theorem read1_likeZ {ch : List ByteArray} {vb vb' : ByteArray → Nat} {x : Nd} {f g : Ft} (h : LikeZ f g) : LikeZ (read1 ch vb x f) (read1 ch vb' x g) := by
  unfold read1
  split
  · exact h
  · split
    · exact ⟨by simp only [h.1], h.2⟩
    · split
      · exact ⟨h.1, rfl⟩
      · exact h
theorem readF_likeZ {t : List Nd} {ch : List ByteArray} {vb vb' : ByteArray → Nat} : ∀ (n k : Nat) (f g : Ft), LikeZ f g → LikeZ (readF t ch vb n k f) (readF t ch vb' n k g)
  | 0, k, f, g, h => h
  | n + 1, k, f, g, h => by
    unfold readF
    exact fold_like (R := LikeZ) (read1_likeZ h) fun a b x _ hab => readF_likeZ n x a b hab
theorem edge_same {mo : Mo} {q : Pr} {d c : Nat} {l : List Nat} (hs : q.names.length = q.vars.length) (e : Ed) : LikeAll mo.globals (edgeF mo (ren (shiftS mo.globals d) l c q) (renE (shiftS mo.globals d) e)) (edgeF mo q e) := by
  rw [edgeF_eq, edgeF_eq]
  refine actF_all (like_all (fun b hb => ?_) ?_ (exprF_only _ _ _) (exprF_only _ _ _))
  · unfold exprF
    show Like b (if 0 ≤ e.expr then _ else _) _
    split
    · exact readF_like (fun w => varB_ren hs hb w) _ _ _ _ ⟨rfl, rfl, rfl⟩
    · exact ⟨rfl, rfl, rfl⟩
  · unfold exprF
    show LikeZ (if 0 ≤ e.expr then _ else _) _
    split
    · exact readF_likeZ _ _ _ _ ⟨rfl, rfl⟩
    · exact ⟨rfl, rfl⟩
theorem low_and {x g : Nat} (hx : x < 4294967296) (hg : g < 32) : IntKind.u32.wrap (andI .u32 (x : Int) ((2 ^ g - 1 : Nat) : Int)) = ((x % 2 ^ g : Nat) : Int) := by
  have := pow32 hg
  have h0 : 0 < 2 ^ g := Nat.two_pow_pos g
  rw [s32_and hx (by omega), Nat.and_two_pow_sub_one_eq_mod]
theorem low_sub {g : Nat} (hg : g < 32) : IntKind.u32.wrap (((2 ^ g : Nat) : Int) - 1) = ((2 ^ g - 1 : Nat) : Int) := by
  have := pow32 hg
  have h0 : 0 < 2 ^ g := Nat.two_pow_pos g
  rw [show ((2 ^ g : Nat) : Int) - 1 = ((2 ^ g - 1 : Nat) : Int) by omega, s32_id (by omega)]
end Go.V
namespace Go.Proofs.Ytlaeblilmppodaa
open Go.V
set_option maxRecDepth 100000
theorem awake18 : ∃ s', Ev vfs 11 [] Store.empty (.bool true) s' := ev_of_fst (n := 400) (by kernel_rfl)
end Go.Proofs.Ytlaeblilmppodaa
namespace Go.Proofs.Ytlaeblilmppodaa
open Go.V
set_option maxRecDepth 100000
set_option maxHeartbeats 4000000
set_option linter.unusedSimpArgs false
set_option linter.unusedVariables false
theorem footSame_v {d : D} {t : List Nd} (hT : TreeAt d t) : EvP vfs 6 [d] Store.empty fun r _ => r = .bool true := by
  have haw : Iso 11 [] (.bool true) := awake18
  have hpu : pureL [d] = true := by simp only [pureL, hT.fl.pure, Bool.and_self]
  obtain ⟨r, s1, d', h1, h2, h3⟩ := made18 hT
  rcases h3 with rfl | ⟨m, ps, rfl, hR, hS, hY, hm⟩
  · refine evp_of (vf := vf6) rfl ?_
    simp only [vf6, xq, xg, xm, xmg, xc, xl, xlg, xf, xfg, xw, xa, xk, xi, xig, xo, xr, xrp, xn, List.map, List.getD, List.getElem?_cons_zero, List.getElem?_cons_succ, List.getElem?_nil, Option.getD]
    repeat first
     |(apply vq_isoI haw rfl rfl rfl)
     |(refine vq_iso' (l := [d]) rfl (fz1 hT.fz) h1 h2 (by rw [hpu, Bool.or_true]) ?_)
     |with_reducible first|apply vA|apply vB|apply vC
     |((with_reducible apply vD); (focus rfl))
     |((with_reducible first|apply vE|apply vF|apply vG|apply vH); simp only [Env.keep, Env.get, Env.ev, List.map, Nat.reduceEqDiff, ↓reduceIte, Then, Out'])
     |((with_reducible first|apply vI|apply vJ|apply vK|apply vL|apply vM|apply vN); (focus (simp (disch := (first|with_reducible assumption|omega|((repeat (first|rw [nP]|rw [nS]))<;>omega)|fail)) only [go_sem, ↓reduceIte] <;> rfl)); (first|(with_reducible (first|apply vO|apply vP|apply vQ|apply vR|apply vS|apply vT|apply vU); try simp only [Env.put])|with_reducible refine (?_ : WQ _ _ _ _ _ _)))
     |fail
    exact ⟨.inr trivial, _, (by simp only [resOf, resAll, resOne, Env.get, Nat.reduceEqDiff, ↓reduceIte] <;> rfl), rfl⟩
  have ho := model_ok hR hS hY
  have hal := fun (p : Nat) (hp : p < (modelOf t).procs.length) => copy_alike hR hS hp
  generalize modelOf t = mo at *
  have om := hm.ones
  have hfz := hm.fz
  have hlp := hm.lenP
  have hnp := ho.np
  have hgl := ho.gl
  have hnv := ho.nv
  have hmg := hm.g
  unfold mdRow at h2 hfz
  rw [hmg] at h2 hfz
  refine evp_of (vf := vf6) rfl ?_
  simp only [vf6, xq, xg, xm, xmg, xc, xl, xlg, xf, xfg, xw, xa, xk, xi, xig, xo, xr, xrp, xn, List.map, List.getD, List.getElem?_cons_zero, List.getElem?_cons_succ, List.getElem?_nil, Option.getD]
  repeat first
   |(apply vq_isoI haw rfl rfl rfl)
   |(refine vq_iso' (l := [d]) rfl (fz1 hT.fz) h1 h2 (by rw [hpu, Bool.or_true]) ?_)
   |with_reducible first|apply vA|apply vB|apply vC
   |((with_reducible apply vD); (focus rfl))
   |((with_reducible first|apply vE|apply vF|apply vG|apply vH); simp only [Env.keep, Env.get, Env.ev, List.map, Nat.reduceEqDiff, ↓reduceIte, Then, Out'])
   |((with_reducible first|apply vI|apply vJ|apply vK|apply vL|apply vM|apply vN); (focus (simp (disch := (first|with_reducible assumption|omega|((repeat (first|rw [nP]|rw [nS]))<;>omega)|fail)) only [go_sem, ↓reduceIte, om] <;> rfl)); (first|(with_reducible (first|apply vO|apply vP|apply vQ|apply vR|apply vS|apply vT|apply vU); try simp only [Env.put])|with_reducible refine (?_ : WQ _ _ _ _ _ _)))
   |fail
  refine vw_loop_inv (Q := Out' 0 _) (fun n env s => ∃ p : Nat, p ≤ mo.procs.length ∧ n = mo.procs.length - p ∧ s.get 0 = some (.cells [m.dt, .int .i64 (mo.globals : Int), m.dc, m.dv, m.dp, m.ds, .bool m.b]) ∧ (env.get 3 = .ptr 0 0 ∧ env.get 5 = .int .i64 (p : Int))) ?_ mo.procs.length _ _ ⟨0, by omega, rfl, rfl, by simp [Env.get, Made.at]; rfl⟩
  rintro n env s ⟨p, hp, rfl, hg, hE⟩
  have hgl := get_lts hg
  by_cases c1 : p < mo.procs.length
  rotate_left
  · have c1' : ((p : Int) < (mo.procs.length : Int)) = False := eq_false (by omega)
    repeat first
     |with_reducible first|apply vA|apply vB|apply vC
     |((with_reducible apply vD); (focus rfl))
     |((with_reducible first|apply vE|apply vF|apply vG|apply vH); simp only [Env.keep, Env.get, Env.ev, List.map, Nat.reduceEqDiff, ↓reduceIte, Then, Out'])
     |((with_reducible first|apply vI|apply vJ|apply vK|apply vL|apply vM|apply vN); (focus (simp (disch := (first|with_reducible assumption|omega|((repeat (first|rw [nP]|rw [nS]))<;>omega)|fail)) only [go_sem, ↓reduceIte, hE, hg, om, hlp, c1'] <;> rfl)); (first|(with_reducible (first|apply vO|apply vP|apply vQ|apply vR|apply vS|apply vT|apply vU); try simp only [Env.put])|with_reducible refine (?_ : WQ _ _ _ _ _ _)))
     |fail
    exact ⟨.inr trivial, _, (by simp only [resOf, resAll, resOne, Env.get, Nat.reduceEqDiff, ↓reduceIte] <;> rfl), rfl⟩
  have c1' : ((p : Int) < (mo.procs.length : Int)) = True := eq_true (by omega)
  have hs : IntKind.i64.wrap ((p : Int) + 1) = ((p + 1 : Nat) : Int) := by rw [i64_id (by omega) (by omega)]; omega
  have hpo := ho.pr _ (List.getElem_mem c1)
  obtain ⟨x, hx, hxi⟩ := hm.proc c1
  have hxi := hxi .i64
  have ox := hx.ones
  have hle := hx.lenE
  have hel := hpo.el
  unfold prRow at hxi
  repeat first
   |with_reducible first|apply vA|apply vB|apply vC
   |((with_reducible apply vD); (focus rfl))
   |((with_reducible first|apply vE|apply vF|apply vG|apply vH); simp only [Env.keep, Env.get, Env.ev, List.map, Nat.reduceEqDiff, ↓reduceIte, Then, Out'])
   |((with_reducible first|apply vI|apply vJ|apply vK|apply vL|apply vM|apply vN); (focus (simp (disch := (first|with_reducible assumption|omega|((repeat (first|rw [nP]|rw [nS]))<;>omega)|fail)) only [go_sem, ↓reduceIte, hE, hg, om, hlp, c1'] <;> rfl)); (first|(with_reducible (first|apply vO|apply vP|apply vQ|apply vR|apply vS|apply vT|apply vU); try simp only [Env.put])|with_reducible refine (?_ : WQ _ _ _ _ _ _)))
   |fail
  refine loop_cut (P := fun env s' => s'.get 0 = some (.cells [m.dt, .int .i64 (mo.globals : Int), m.dc, m.dv, m.dp, m.ds, .bool m.b]) ∧ (env.get 3 = .ptr 0 0 ∧ env.get 5 = .int .i64 (p : Int))) ?_ ?_
  rotate_left
  · clear hE hg
    rintro env s ⟨hg, hE⟩
    simp only [Then, Out']
    repeat first
     |with_reducible first|apply vA|apply vB|apply vC
     |((with_reducible apply vD); (focus rfl))
     |((with_reducible first|apply vE|apply vF|apply vG|apply vH); simp only [Env.keep, Env.get, Env.ev, List.map, Nat.reduceEqDiff, ↓reduceIte, Then, Out'])
     |((with_reducible first|apply vI|apply vJ|apply vK|apply vL|apply vM|apply vN); (focus (simp (disch := (first|with_reducible assumption|omega|((repeat (first|rw [nP]|rw [nS]))<;>omega)|fail)) only [go_sem, ↓reduceIte, hE, hs] <;> rfl)); (first|(with_reducible (first|apply vO|apply vP|apply vQ|apply vR|apply vS|apply vT|apply vU); try simp only [Env.put])|with_reducible refine (?_ : WQ _ _ _ _ _ _)))
     |fail
    exact ⟨mo.procs.length - (p + 1), by omega, p + 1, by omega, rfl, hg, (by simp only [Env.get, Nat.reduceEqDiff, ↓reduceIte, hE, and_self])⟩
  refine vw_loop_inv (Q := Out' 2 _) (fun n env s => ∃ i : Nat, i ≤ mo.procs[p].edges.length ∧ n = mo.procs[p].edges.length - i ∧ s.get 0 = some (.cells [m.dt, .int .i64 (mo.globals : Int), m.dc, m.dv, m.dp, m.ds, .bool m.b]) ∧ (env.get 3 = .ptr 0 0 ∧ env.get 5 = .int .i64 (p : Int) ∧ env.get 6 = .int .i64 (i : Int))) ?_ mo.procs[p].edges.length _ _ ⟨0, by omega, rfl, hg, by simp [Env.get, hE]⟩
  clear hE hg hgl
  rintro n env s ⟨i, hi, rfl, hg, hE⟩
  have hgl := get_lts hg
  by_cases c3 : i < mo.procs[p].edges.length
  rotate_left
  · have c3' : ((i : Int) < (mo.procs[p].edges.length : Int)) = False := eq_false (by omega)
    repeat first
     |with_reducible first|apply vA|apply vB|apply vC
     |((with_reducible apply vD); (focus rfl))
     |((with_reducible first|apply vE|apply vF|apply vG|apply vH); simp only [Env.keep, Env.get, Env.ev, List.map, Nat.reduceEqDiff, ↓reduceIte, Then, Out'])
     |((with_reducible first|apply vI|apply vJ|apply vK|apply vL|apply vM|apply vN); (focus (simp (disch := (first|with_reducible assumption|omega|((repeat (first|rw [nP]|rw [nS]))<;>omega)|fail)) only [go_sem, ↓reduceIte, hE, hg, om, hxi, ox, hle, c3'] <;> rfl)); (first|(with_reducible (first|apply vO|apply vP|apply vQ|apply vR|apply vS|apply vT|apply vU); try simp only [Env.put])|with_reducible refine (?_ : WQ _ _ _ _ _ _)))
     |fail
    exact ⟨trivial, hg, (by simp only [Env.get, Nat.reduceEqDiff, ↓reduceIte, hE, and_self])⟩
  have c3' : ((i : Int) < (mo.procs[p].edges.length : Int)) = True := eq_true (by omega)
  have hs3 : IntKind.i64.wrap ((i : Int) + 1) = ((i + 1 : Nat) : Int) := by rw [i64_id (by omega) (by omega)]; omega
  obtain ⟨⟨s9, he⟩, hok⟩ := edge_ok hm ho c1 c3
  have hap := apart_ok hok hok
  rw [Ft.self] at hap
  have o1 := s32_or hok.w hok.s
  have o2 := s32_or (or_lt hok.w hok.s) hok.v
  have heq : ∀ f : Ft, (decide ((f.writes ||| f.sends) ||| f.recvs = 0) == decide ((f.writes ||| f.sends) ||| f.recvs ≠ 0)) = false := fun f => by
    by_cases c : (f.writes ||| f.sends) ||| f.recvs = 0 <;> simp [c]
  by_cases cc : 0 < mo.procs[p].copy
  rotate_left
  · have cc' : ((0 : Int) < (mo.procs[p].copy : Int)) = False := eq_false (by omega)
    generalize edgeF mo mo.procs[p] mo.procs[p].edges[i] = f at *
    have heq := heq f
    unfold mdRow Ft.row at he
    rw [hmg] at he
    unfold Ft.row at hap
    repeat first
     |(refine vq_iso' (l := [.agg [m.dt, .int .i64 (mo.globals : Int), m.dc, m.dv, m.dp, m.ds, .bool m.b], .int .i64 (p : Int), .int .i64 (i : Int)]) ?_ (fz3 hfz fz_int fz_int) he rfl rfl ?_; (focus (simp only [Env.evL, Env.ev, Env.get, Nat.reduceEqDiff, ↓reduceIte, hE]; done)))
     |(apply vq_isoI hap rfl; (focus (simp only [Env.evL, Env.ev, Env.get, Nat.reduceEqDiff, ↓reduceIte, hE])); (focus rfl))
     |with_reducible first|apply vA|apply vB|apply vC
     |((with_reducible apply vD); (focus rfl))
     |((with_reducible first|apply vE|apply vF|apply vG|apply vH); simp only [Env.keep, Env.get, Env.ev, List.map, Nat.reduceEqDiff, ↓reduceIte, Then, Out'])
     |((with_reducible first|apply vI|apply vJ|apply vK|apply vL|apply vM|apply vN); (focus (simp (disch := (first|with_reducible assumption|omega|((repeat (first|rw [nP]|rw [nS]))<;>omega)|fail)) only [go_sem, ↓reduceIte, hE, hg, om, hxi, ox, hle, c3', o1, o2, bne0, heq, cc', hs3] <;> rfl)); (first|(with_reducible (first|apply vO|apply vP|apply vQ|apply vR|apply vS|apply vT|apply vU); try simp only [Env.put])|with_reducible refine (?_ : WQ _ _ _ _ _ _)))
     |fail
    refine ⟨mo.procs[p].edges.length - (i + 1), by omega, i + 1, by omega, rfl, ?_, (by simp only [Env.get, Nat.reduceEqDiff, ↓reduceIte, hE, and_self])⟩
    rw [get_set_ne (by omega), get_push_old hgl, hg]
  have cc' : ((0 : Int) < (mo.procs[p].copy : Int)) = True := eq_true (by omega)
  obtain ⟨q, hq, rfl, dd, ll, hren, -, -⟩ := hal p c1 cc
  have hqe : i < mo.procs[q].edges.length := by
    rw [hren] at c3
    simpa [ren] using c3
  have hei : mo.procs[q + 1].edges[i] = renE (shiftS mo.globals dd) mo.procs[q].edges[i] := by
    have : mo.procs[q + 1].edges = mo.procs[q].edges.map (renE (shiftS mo.globals dd)) := by rw [hren]; rfl
    simp [this]
  obtain ⟨⟨s8, he2⟩, hok2⟩ := edge_ok hm ho hq hqe
  have hqo := ho.pr _ (List.getElem_mem hq)
  have hsame := edge_same (mo := mo) (d := dd) (c := mo.procs[q + 1].copy) (l := ll) hqo.same mo.procs[q].edges[i]
  rw [← hren, ← hei] at hsame
  generalize edgeF mo mo.procs[q + 1] mo.procs[q + 1].edges[i] = f at *
  generalize edgeF mo mo.procs[q] mo.procs[q].edges[i] = g at *
  have heq := heq f
  unfold mdRow Ft.row at he he2
  rw [hmg] at he he2
  unfold Ft.row at hap
  have hg32 : mo.globals < 32 := by omega
  have w1 := shl32 hg32
  have w2 := low_sub hg32
  have l1 := low_and hok.r hg32
  have l2 := low_and hok.w hg32
  have l3 := low_and hok2.r hg32
  have l4 := low_and hok2.w hg32
  rw [← hsame.r] at l3
  rw [← hsame.w] at l4
  have x1 : ∀ n : Int, (n != n) = false := fun n => by simp
  have x2 : ((f.sends : Int) != (g.sends : Int)) = false := by rw [hsame.s]; simp
  have x3 : ((f.recvs : Int) != (g.recvs : Int)) = false := by rw [hsame.v]; simp
  have x4 : ((f.sizes : Int) != (g.sizes : Int)) = false := by rw [hsame.z]; simp
  have x5 : (f.part == g.part) = true := by rw [hsame.p]; simp
  have hsub : IntKind.i64.wrap (((q + 1 : Nat) : Int) - 1) = (q : Int) := by rw [i64_id (by omega) (by omega)]; omega
  repeat first
   |(refine vq_iso' (l := [.agg [m.dt, .int .i64 (mo.globals : Int), m.dc, m.dv, m.dp, m.ds, .bool m.b], .int .i64 ((q + 1 : Nat) : Int), .int .i64 (i : Int)]) ?_ (fz3 hfz fz_int fz_int) he rfl rfl ?_; (focus (simp only [Env.evL, Env.ev, Env.get, Nat.reduceEqDiff, ↓reduceIte, hE]; done)))
   |(apply vq_isoI hap rfl; (focus (simp only [Env.evL, Env.ev, Env.get, Nat.reduceEqDiff, ↓reduceIte, hE])); (focus rfl))
   |(refine vq_iso' (l := [.agg [m.dt, .int .i64 (mo.globals : Int), m.dc, m.dv, m.dp, m.ds, .bool m.b], .int .i64 (q : Int), .int .i64 (i : Int)]) ?_ (fz3 hfz fz_int fz_int) he2 rfl rfl ?_; (focus (simp only [Env.evL, Env.ev, Env.get, Nat.reduceEqDiff, ↓reduceIte, hE]; done)))
   |with_reducible first|apply vA|apply vB|apply vC
   |((with_reducible apply vD); (focus rfl))
   |((with_reducible first|apply vE|apply vF|apply vG|apply vH); simp only [Env.keep, Env.get, Env.ev, List.map, Nat.reduceEqDiff, ↓reduceIte, Then, Out'])
   |((with_reducible first|apply vI|apply vJ|apply vK|apply vL|apply vM|apply vN); (focus (simp (disch := (first|with_reducible assumption|omega|((repeat (first|rw [nP]|rw [nS]))<;>omega)|fail)) only [go_sem, ↓reduceIte, hE, hg, om, hxi, ox, hle, c3', o1, o2, bne0, heq, cc', hs3, hsub, w1, w2, l1, l2, l3, l4, x1, x2, x3, x4, x5] <;> rfl)); (first|(with_reducible (first|apply vO|apply vP|apply vQ|apply vR|apply vS|apply vT|apply vU); try simp only [Env.put])|with_reducible refine (?_ : WQ _ _ _ _ _ _)))
   |fail
  refine ⟨mo.procs[q + 1].edges.length - (i + 1), by omega, i + 1, by omega, rfl, ?_, (by simp only [Env.get, Nat.reduceEqDiff, ↓reduceIte, hE, and_self])⟩
  (simp (disch := (first|with_reducible assumption|omega|((repeat (first|rw [nP]|rw [nS]))<;>omega)|fail)) only [get_push_old, get_push_new, get_set_ne, get_set_eq, Store.next_push, Store.next_set])
  exact hg
theorem footSame18 {d : D} (h : ArgT Ty.tree d) : EvP vfs 6 [d] Store.empty fun r _ => r = .bool true := by
  obtain ⟨t, hT⟩ := tree_of h
  exact footSame_v hT
end Go.Proofs.Ytlaeblilmppodaa
