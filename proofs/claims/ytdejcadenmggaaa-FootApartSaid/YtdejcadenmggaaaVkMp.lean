/- Right trees, and what processes made of them are like, plain. -/
import Derived.Test.YtdejcadenmggaaaVkMk
namespace Go.V

def exprK (k : Int) : Prop := 17 ≤ k ∧ k ≤ 22
def statK (k : Int) : Prop := 6 ≤ k ∧ k ≤ 15
def wcount (k : Int) : Nat := if k = 8 then 2 else if k = 1 ∨ k = 2 ∨ k = 3 ∨ k = 6 ∨ k = 7 ∨ k = 18 ∨ k = 19 then 1 else 0
def ncount (k : Int) : Nat := if k = 1 then 4 else if k = 2 then 2 else if k = 3 ∨ k = 8 ∨ k = 9 ∨ k = 10 ∨ k = 17 ∨ k = 22 then 1 else 0
/-- What a node is. -/
structure NodeOk (t : List Nd) (x : Nd) : Prop where
  kr : 0 ≤ x.kind ∧ x.kind ≤ 22
  wl : x.words.length = wcount x.kind
  nl : x.nums.length = ncount x.kind
  prog : x.kind = 0 → ∀ k ∈ x.ks, 1 ≤ (nd t k).kind ∧ (nd t k).kind ≤ 5
  chan : x.kind = 1 → 0 ≤ x.num 0 ∧ 0 ≤ x.num 1 ∧ 0 ≤ x.num 2 ∧ x.num 2 ≤ 1 ∧ 0 ≤ x.num 3 ∧ x.num 3 ≤ 1
  var : x.kind = 2 → -999999 ≤ x.num 1 ∧ x.num 1 ≤ 999999
  proc : x.kind = 3 → ∃ v, v ≤ x.ks.length ∧ (∀ k ∈ x.ks.take v, (nd t k).kind = 2) ∧ ∀ k ∈ x.ks.drop v, statK (nd t k).kind
  copies : x.kind = 3 → 0 ≤ x.num 0 ∧ x.num 0 ≤ 999999
  one : x.kind = 4 ∨ x.kind = 6 ∨ x.kind = 7 ∨ x.kind = 9 ∨ x.kind = 20 ∨ x.kind = 21 → x.kids.length = 1 ∧ exprK (nd t (x.kid 0)).kind
  none : x.kind = 1 ∨ x.kind = 2 ∨ x.kind = 5 ∨ x.kind = 8 ∨ x.kind = 14 ∨ x.kind = 15 ∨ x.kind = 17 ∨ x.kind = 18 ∨ x.kind = 19 → x.kids = []
  choose : x.kind = 10 → 1 ≤ x.kids.length ∧ ∀ k ∈ x.ks, (nd t k).kind = 16
  cond : x.kind = 11 → (x.kids.length = 2 ∨ x.kids.length = 3) ∧ exprK (nd t (x.kid 0)).kind ∧ (nd t (x.kid 1)).kind = 16 ∧ (x.kids.length = 3 → (nd t (x.kid 2)).kind = 16)
  loop : x.kind = 12 → x.kids.length = 2 ∧ exprK (nd t (x.kid 0)).kind ∧ (nd t (x.kid 1)).kind = 16
  atom : x.kind = 13 → x.kids.length = 1 ∧ (nd t (x.kid 0)).kind = 16
  block : x.kind = 16 → ∀ k ∈ x.ks, statK (nd t k).kind
  bin : x.kind = 22 → x.kids.length = 2 ∧ exprK (nd t (x.kid 0)).kind ∧ exprK (nd t (x.kid 1)).kind ∧ 0 ≤ x.num 0 ∧ x.num 0 ≤ 8
  flag : x.kind = 8 ∨ x.kind = 9 ∨ x.kind = 10 → 0 ≤ x.num 0 ∧ x.num 0 ≤ 1
  lit : x.kind = 17 → 0 ≤ x.num 0 ∧ x.num 0 ≤ 999999
structure TreeOk (t : List Nd) : Prop where
  pos : 0 < t.length
  le : t.length ≤ 800
  root : (nd t 0).kind = 0
  kids : ∀ i, i < t.length → ∀ k ∈ (nd t i).kids, (i : Int) < k ∧ k < (t.length : Int)
  node : ∀ i, i < t.length → NodeOk t (nd t i)
theorem nd_get {t : List Nd} {i : Nat} (h : i < t.length) : nd t i = t[i] := by simp [nd, List.getD, h]
theorem TreeOk.ks {t : List Nd} (h : TreeOk t) {i : Nat} (hi : i < t.length) : ∀ k ∈ (nd t i).ks, i < k ∧ k < t.length := by
  intro k hk
  obtain ⟨z, hz, rfl⟩ := List.mem_map.1 hk
  have := h.kids i hi z hz
  omega
theorem kid_mem {x : Nd} {i : Nat} (h : i < x.kids.length) : x.kid i ∈ x.ks := by
  unfold Nd.kid Nd.ks
  simp only [List.getD, List.getElem?_eq_getElem h, Option.getD_some]
  exact List.mem_map_of_mem (List.getElem_mem h)
theorem ks_len (x : Nd) : x.ks.length = x.kids.length := by simp [Nd.ks]

/-- An edge of a process. -/
structure EdOk (t : List Nd) (nch pl : Nat) (vars : List Nat) (e : Ed) : Prop where
  f : e.frm < pl
  to : e.to < pl
  act : e.act ≤ 5
  ex0 : e.act = 0 ∨ e.act = 3 → e.expr = -1
  ex1 : e.act = 1 ∨ e.act = 2 ∨ e.act = 4 ∨ e.act = 5 → ∃ n : Nat, e.expr = (n : Int) ∧ n < t.length ∧ exprK (nd t n).kind
  v1 : e.act = 1 ∨ e.act = 3 → ∃ n ∈ vars, e.var = ((n : Nat) : Int)
  v0 : e.act = 0 ∨ e.act = 2 ∨ e.act = 4 ∨ e.act = 5 → e.var = -1
  c1 : e.act = 2 ∨ e.act = 3 → ∃ n : Nat, e.chan = (n : Int) ∧ n < nch
  c0 : e.act = 0 ∨ e.act = 1 ∨ e.act = 4 ∨ e.act = 5 → e.chan = -1
theorem EdOk.mono {t : List Nd} {nch pl pl' : Nat} {vars : List Nat} {e : Ed} (h : EdOk t nch pl vars e) (hp : pl ≤ pl') : EdOk t nch pl' vars e :=
  ⟨by have := h.f; omega, by have := h.to; omega, h.act, h.ex0, h.ex1, h.v1, h.v0, h.c1, h.c0⟩
structure PInv (t : List Nd) (nch : Nat) (p : Pr) : Prop where
  two : 2 ≤ p.places
  rest : p.rest.length = p.places
  ed : ∀ e ∈ p.edges, EdOk t nch p.places p.vars e
/-- What stays, and what grows. -/
structure PGrow (p q : Pr) : Prop where
  name : q.name = p.name
  copy : q.copy = p.copy
  locals : q.locals = p.locals
  names : q.names = p.names
  vars : q.vars = p.vars
  places : p.places ≤ q.places
  edges : ∃ l, q.edges = p.edges ++ l
theorem PGrow.refl (p : Pr) : PGrow p p := ⟨rfl, rfl, rfl, rfl, rfl, Nat.le_refl _, [], by simp⟩
theorem PGrow.trans {p q r : Pr} (h : PGrow p q) (k : PGrow q r) : PGrow p r := by
  obtain ⟨l, hl⟩ := h.edges
  obtain ⟨m, hm⟩ := k.edges
  exact ⟨k.name.trans h.name, k.copy.trans h.copy, k.locals.trans h.locals, k.names.trans h.names, k.vars.trans h.vars, Nat.le_trans h.places k.places, l ++ m, by rw [hm, hl, List.append_assoc]⟩
theorem grow_put (p : Pr) (frm to act node : Nat) (expr v c : Int) : PGrow p (p.put frm to act node expr v c) := ⟨rfl, rfl, rfl, rfl, rfl, Nat.le_refl _, _, rfl⟩
theorem grow_place (p : Pr) : PGrow p p.place := ⟨rfl, rfl, rfl, rfl, rfl, Nat.le_succ _, [], by simp [Pr.place]⟩
theorem grow_idle (p : Pr) (n : Nat) (is : Int) : PGrow p (p.idle n is) := by
  unfold Pr.idle
  split
  · exact ⟨rfl, rfl, rfl, rfl, rfl, Nat.le_refl _, [], by simp⟩
  · exact PGrow.refl p
theorem idle_places (p : Pr) (n : Nat) (is : Int) : (p.idle n is).places = p.places ∧ (p.idle n is).edges = p.edges ∧ (p.idle n is).vars = p.vars ∧ (p.idle n is).names = p.names := by
  unfold Pr.idle; split <;> exact ⟨rfl, rfl, rfl, rfl⟩
theorem inv_put {t : List Nd} {nch : Nat} {p : Pr} {frm to act node : Nat} {expr v c : Int} (h : PInv t nch p) (he : EdOk t nch p.places p.vars ⟨frm, to, act, expr, v, c, false, node⟩) : PInv t nch (p.put frm to act node expr v c) := by
  refine ⟨h.two, h.rest, fun e hm => ?_⟩
  rcases List.mem_append.1 hm with hm | hm
  · exact h.ed e hm
  · simp at hm; subst hm; exact he
theorem inv_place {t : List Nd} {nch : Nat} {p : Pr} (h : PInv t nch p) : PInv t nch p.place :=
  ⟨by have := h.two; simp [Pr.place]; omega, by simp [Pr.place, h.rest], fun e hm => (h.ed e hm).mono (Nat.le_succ _)⟩
theorem inv_idle {t : List Nd} {nch : Nat} {p : Pr} {n : Nat} {is : Int} (h : PInv t nch p) : PInv t nch (p.idle n is) := by
  unfold Pr.idle
  split
  · exact ⟨h.two, by simp [h.rest], h.ed⟩
  · exact h
theorem skip_ok {t : List Nd} {nch pl : Nat} {vars : List Nat} {frm to node : Nat} (hf : frm < pl) (ht : to < pl) : EdOk t nch pl vars ⟨frm, to, 0, -1, -1, -1, false, node⟩ :=
  ⟨hf, ht, by simp, by simp, by simp, by simp, by simp, by simp, by simp⟩
theorem when_ok {t : List Nd} {nch pl : Nat} {vars : List Nat} {frm to node n : Nat} {a : Nat} (ha : a = 4 ∨ a = 5) (hf : frm < pl) (ht : to < pl) (hn : n < t.length) (hk : exprK (nd t n).kind) : EdOk t nch pl vars ⟨frm, to, a, (n : Int), -1, -1, false, node⟩ := by
  refine ⟨hf, ht, ?_, ?_, fun _ => ⟨n, rfl, hn, hk⟩, ?_, fun _ => rfl, ?_, fun _ => rfl⟩ <;> simp <;> omega

/-- What a statement's maker keeps. -/
def StOk (t : List Nd) (nch : Nat) (names : List ByteArray) (vars : List Nat) (st : Pr → Nat → Nat → Nat → Pr) (k : Nat) : Prop :=
  ∀ p frm to, PInv t nch p → p.names = names → p.vars = vars → frm < p.places → to < p.places → PInv t nch (st p k frm to) ∧ PGrow p (st p k frm to)
theorem sev_ok {t : List Nd} {nch : Nat} {names : List ByteArray} {vars : List Nat} {st : Pr → Nat → Nat → Nat → Pr} {node : Nat} : ∀ {ks : List Nat} {p : Pr} {frm to : Nat}, (∀ k ∈ ks, StOk t nch names vars st k) →
    PInv t nch p → p.names = names → p.vars = vars → frm < p.places → to < p.places → PInv t nch (sevF st node p ks frm to) ∧ PGrow p (sevF st node p ks frm to)
  | [], p, frm, to, _, h, hn, hv, hf, ht => ⟨inv_put h (skip_ok hf ht), grow_put _ _ _ _ _ _ _ _⟩
  | [k], p, frm, to, hs, h, hn, hv, hf, ht => hs k (by simp) p frm to h hn hv hf ht
  | k :: k' :: ks, p, frm, to, hs, h, hn, hv, hf, ht => by
    have h1 := hs k (by simp) p.place frm p.places (inv_place h) hn hv (Nat.lt_succ_of_lt hf) (Nat.lt_succ_self _)
    have g1 := (grow_place p).trans h1.2
    have := h1.2.places
    have : p.place.places = p.places + 1 := rfl
    have h2 := sev_ok (node := node) (ks := k' :: ks) (p := st p.place k frm p.places) (frm := p.places) (to := to) (fun x hx => hs x (by simp only [List.mem_cons] at hx ⊢; right; exact hx)) h1.1 (g1.names.trans hn) (g1.vars.trans hv) (by omega) (by omega)
    exact ⟨h2.1, g1.trans h2.2⟩
theorem choose_ok {t : List Nd} {nch : Nat} {names : List ByteArray} {vars : List Nat} {st : Pr → Nat → Nat → Nat → Pr} {frm to : Nat} : ∀ {ks : List Nat} {p : Pr}, (∀ b ∈ ks, ∀ k ∈ (nd t b).ks, StOk t nch names vars st k) →
    PInv t nch p → p.names = names → p.vars = vars → frm < p.places → to < p.places → PInv t nch (chooseF t st frm to p ks) ∧ PGrow p (chooseF t st frm to p ks)
  | [], p, _, h, _, _, _, _ => ⟨h, PGrow.refl p⟩
  | k :: ks, p, hs, h, hn, hv, hf, ht => by
    have key : ∀ q, PInv t nch q → PGrow p q → PInv t nch (chooseF t st frm to q ks) ∧ PGrow p (chooseF t st frm to q ks) := fun q hq gq => by
      have := gq.places
      have := choose_ok (ks := ks) (p := q) (frm := frm) (to := to) (fun b hb => hs b (by simp [hb])) hq (gq.names.trans hn) (gq.vars.trans hv) (by omega) (by omega)
      exact ⟨this.1, gq.trans this.2⟩
    have hk := hs k (by simp)
    unfold chooseF
    split
    · have h1 := inv_put (node := k) (inv_place h) (skip_ok (frm := frm) (to := p.places) (Nat.lt_succ_of_lt hf) (Nat.lt_succ_self _))
      have g1 := (grow_place p).trans (grow_put p.place frm p.places 0 k (-1) (-1) (-1))
      have := sev_ok (node := k) (frm := p.places) (to := to) hk h1 hn hv (Nat.lt_succ_self _) (Nat.lt_succ_of_lt ht)
      exact key _ this.1 (g1.trans this.2)
    · have := sev_ok (node := k) (frm := frm) (to := to) hk h hn hv hf ht
      exact key _ this.1 this.2
theorem blk_ok {t : List Nd} {nch : Nat} {names : List ByteArray} {vars : List Nat} {st : Pr → Nat → Nat → Nat → Pr} {b : Nat} {p : Pr} {frm to : Nat} (hs : ∀ k ∈ (nd t b).ks, StOk t nch names vars st k)
    (h : PInv t nch p) (hn : p.names = names) (hv : p.vars = vars) (hf : frm < p.places) (ht : to < p.places) : PInv t nch (blkF t st p b frm to) ∧ PGrow p (blkF t st p b frm to) := sev_ok hs h hn hv hf ht
/-- The names in sight suffice. -/
structure Sight (t : List Nd) (nch : Nat) (ch names : List ByteArray) (vars : List Nat) (k : Nat) : Prop where
  same : names.length = vars.length
  chs : ch.length = nch
  v : (nd t k).kind = 6 ∨ (nd t k).kind = 8 → 0 < names.length
  c : (nd t k).kind = 7 ∨ (nd t k).kind = 8 → 0 < ch.length
theorem findN_lt {l : List ByteArray} {s : ByteArray} (h : 0 < l.length) : findN l s < l.length := by
  unfold findN; split <;> assumption
theorem getD_mem {l : List Nat} {i : Nat} (h : i < l.length) : l.getD i 0 ∈ l := by simp [List.getD, h]
theorem mark_mem {n to : Nat} {l : List Ed} {e : Ed} (h : e ∈ markK n to l) : ∃ e' ∈ l, ∃ b, e = { e' with keep := b } := by
  rcases List.mem_append.1 h with h | h
  · exact ⟨e, List.mem_of_mem_take h, e.keep, rfl⟩
  · obtain ⟨e', h', rfl⟩ := List.mem_map.1 h
    exact ⟨e', List.mem_of_mem_drop h', _, rfl⟩
theorem stat_ok {t : List Nd} (ht : TreeOk t) {nch : Nat} {ch names : List ByteArray} {vars : List Nat} (hs : ∀ k, k < t.length → Sight t nch ch names vars k) : ∀ (f k : Nat), k < t.length → statK (nd t k).kind → t.length - k < f → StOk t nch names vars (statF t ch f) k
  | 0, k, _, _, hf => by omega
  | f + 1, k, hk, hst, hf => by
    intro p frm to h hn hv hfr hto
    have hno := ht.node k hk
    have hks := ht.ks hk
    have hS := hs k hk
    have bl : ∀ b ∈ (nd t k).ks, (nd t b).kind = 16 → ∀ x ∈ (nd t b).ks, StOk t nch names vars (statF t ch f) x := fun b hb hb16 x hx => by
      have h1 := hks b hb
      have h2 := ht.ks h1.2 x hx
      exact stat_ok ht hs f x h2.2 ((ht.node b h1.2).block hb16 x hx) (by omega)
    have hvar : 0 < names.length → ∀ s, ∃ n ∈ p.vars, ((p.vars.getD (findN p.names s) 0 : Nat) : Int) = ((n : Nat) : Int) := fun hp s => by
      refine ⟨_, getD_mem ?_, rfl⟩
      rw [hv, hn, ← hS.same]
      exact findN_lt hp
    have hch : 0 < ch.length → ∀ s, ∃ n : Nat, ((findN ch s : Nat) : Int) = (n : Int) ∧ n < nch := fun hp s => ⟨_, rfl, by rw [← hS.chs]; exact findN_lt hp⟩
    have hex : 1 ≤ (nd t k).kids.length → exprK (nd t ((nd t k).kid 0)).kind → ∃ n : Nat, (((nd t k).kid 0 : Nat) : Int) = (n : Int) ∧ n < t.length ∧ exprK (nd t n).kind := fun h1 h2 => ⟨_, rfl, (hks _ (kid_mem h1)).2, h2⟩
    have ip := idle_places p frm ((nd t k).num 0)
    have gi := grow_idle p frm ((nd t k).num 0)
    have ii := inv_idle (n := frm) (is := (nd t k).num 0) h
    unfold statF
    simp only
    have hp2 := h.two
    by_cases c6 : (nd t k).kind = 6
    · rw [if_pos c6]
      have h1 := hno.one (by omega)
      refine ⟨inv_put h ⟨hfr, hto, by simp, by simp, fun _ => hex (by omega) h1.2, fun _ => hvar (hS.v (by omega)) _, by simp, by simp, fun _ => rfl⟩, grow_put _ _ _ _ _ _ _ _⟩
    rw [if_neg c6]
    by_cases c7 : (nd t k).kind = 7
    · rw [if_pos c7]
      have h1 := hno.one (by omega)
      refine ⟨inv_put h ⟨hfr, hto, by simp, by simp, fun _ => hex (by omega) h1.2, by simp, fun _ => rfl, fun _ => hch (hS.c (by omega)) _, by simp⟩, grow_put _ _ _ _ _ _ _ _⟩
    rw [if_neg c7]
    by_cases c8 : (nd t k).kind = 8
    · rw [if_pos c8]
      refine ⟨inv_put ii ⟨by rw [ip.1]; exact hfr, by rw [ip.1]; exact hto, by simp, fun _ => rfl, by simp, fun _ => by rw [ip.2.2.1]; exact hvar (hS.v (by omega)) _, by simp, fun _ => hch (hS.c (by omega)) _, by simp⟩, gi.trans (grow_put _ _ _ _ _ _ _ _)⟩
    rw [if_neg c8]
    by_cases c9 : (nd t k).kind = 9
    · rw [if_pos c9]
      have h1 := hno.one (by omega)
      exact ⟨inv_put ii (when_ok (.inl rfl) (by rw [ip.1]; exact hfr) (by rw [ip.1]; exact hto) (hks _ (kid_mem (by omega))).2 h1.2), gi.trans (grow_put _ _ _ _ _ _ _ _)⟩
    rw [if_neg c9]
    by_cases c10 : (nd t k).kind = 10
    · rw [if_pos c10]
      have h1 := hno.choose c10
      have := choose_ok (frm := frm) (to := to) (fun b hb => bl b hb (h1.2 b hb)) ii (ip.2.2.2.trans hn) (ip.2.2.1.trans hv) (by rw [ip.1]; exact hfr) (by rw [ip.1]; exact hto)
      exact ⟨this.1, gi.trans this.2⟩
    rw [if_neg c10]
    by_cases c11 : (nd t k).kind = 11
    · rw [if_pos c11]
      obtain ⟨l1, l2, l3, l4⟩ := hno.cond c11
      have k0 := (hks _ (kid_mem (i := 0) (by omega))).2
      have m1 := kid_mem (x := nd t k) (i := 1) (by omega)
      have i1 := inv_put (node := k) (inv_place h) (when_ok (.inl rfl) (frm := frm) (to := p.places) (Nat.lt_succ_of_lt hfr) (Nat.lt_succ_self _) k0 l2)
      have g1 := (grow_place p).trans (grow_put p.place frm p.places 4 k ((nd t k).kid 0 : Nat) (-1) (-1))
      have s1 := blk_ok (b := (nd t k).kid 1) (frm := p.places) (to := to) (bl _ m1 l3) i1 hn hv (Nat.lt_succ_self _) (Nat.lt_succ_of_lt hto)
      generalize blkF t (statF t ch f) (p.place.put frm p.places 4 k ((nd t k).kid 0 : Nat) (-1) (-1)) ((nd t k).kid 1) p.places to = q at *
      have g2 := g1.trans s1.2
      have := g2.places
      split
      · exact ⟨inv_put s1.1 (when_ok (.inr rfl) (by omega) (by omega) k0 l2), g2.trans (grow_put _ _ _ _ _ _ _ _)⟩
      · have l3' : (nd t k).kids.length = 3 := by omega
        have m2 := kid_mem (x := nd t k) (i := 2) (by omega)
        have hpl : q.place.places = q.places + 1 := rfl
        have i2 := inv_put (node := k) (inv_place s1.1) (when_ok (.inr rfl) (frm := frm) (to := q.places) (by omega) (Nat.lt_succ_self _) k0 l2)
        have g3 := (g2.trans (grow_place _)).trans (grow_put _ frm q.places 5 k ((nd t k).kid 0 : Nat) (-1) (-1))
        have s2 := blk_ok (b := (nd t k).kid 2) (frm := q.places) (to := to) (bl _ m2 (l4 l3')) i2 (g3.names.trans hn) (g3.vars.trans hv) (Nat.lt_succ_self _) (by show to < q.places + 1; omega)
        exact ⟨s2.1, g3.trans s2.2⟩
    rw [if_neg c11]
    by_cases c12 : (nd t k).kind = 12
    · rw [if_pos c12]
      obtain ⟨l1, l2, l3⟩ := hno.loop c12
      have k0 := (hks _ (kid_mem (i := 0) (by omega))).2
      have m1 := kid_mem (x := nd t k) (i := 1) (by omega)
      have i1 := inv_put (node := k) (inv_place h) (when_ok (.inl rfl) (frm := frm) (to := p.places) (Nat.lt_succ_of_lt hfr) (Nat.lt_succ_self _) k0 l2)
      have i2 := inv_put (node := k) i1 (when_ok (.inr rfl) (frm := frm) (to := to) (Nat.lt_succ_of_lt hfr) (Nat.lt_succ_of_lt hto) k0 l2)
      have g1 := ((grow_place p).trans (grow_put p.place frm p.places 4 k ((nd t k).kid 0 : Nat) (-1) (-1))).trans (grow_put _ frm to 5 k ((nd t k).kid 0 : Nat) (-1) (-1))
      have s1 := sev_ok (node := (nd t k).kid 1) (frm := p.places) (to := frm) (bl _ m1 l3) i2 hn hv (Nat.lt_succ_self _) (Nat.lt_succ_of_lt hfr)
      exact ⟨s1.1, g1.trans s1.2⟩
    rw [if_neg c12]
    by_cases c13 : (nd t k).kind = 13
    · rw [if_pos c13]
      obtain ⟨l1, l2⟩ := hno.atom c13
      have m0 := kid_mem (x := nd t k) (i := 0) (by omega)
      have s1 := sev_ok (node := (nd t k).kid 0) (frm := frm) (to := to) (bl _ m0 l2) h hn hv hfr hto
      obtain ⟨l, hl⟩ := s1.2.edges
      refine ⟨⟨s1.1.two, s1.1.rest, fun e he => ?_⟩, ⟨s1.2.name, s1.2.copy, s1.2.locals, s1.2.names, s1.2.vars, s1.2.places, l.map fun e => { e with keep := e.to != to && e.to != 1 }, ?_⟩⟩
      · obtain ⟨e', h', b, rfl⟩ := mark_mem he
        have := s1.1.ed e' h'
        exact ⟨this.f, this.to, this.act, this.ex0, this.ex1, this.v1, this.v0, this.c1, this.c0⟩
      · show markK _ _ (blkF t (statF t ch f) p ((nd t k).kid 0) frm to).edges = p.edges ++ l.map fun e => { e with keep := e.to != to && e.to != 1 }
        unfold markK blkF
        rw [hl, List.take_left, List.drop_left]
    rw [if_neg c13]
    by_cases c15 : (nd t k).kind = 15
    · rw [if_pos c15]
      exact ⟨inv_put h (skip_ok hfr (by omega)), grow_put _ _ _ _ _ _ _ _⟩
    rw [if_neg c15]
    exact ⟨inv_put h (skip_ok hfr hto), grow_put _ _ _ _ _ _ _ _⟩
end Go.V
