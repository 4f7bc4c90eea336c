/- Texts one behind the other. -/
import Derived.Test.YtlaeblilmppodaaZ5
set_option linter.unusedSimpArgs false
set_option linter.unusedVariables false
namespace Go.V
def RdB (s : Store) (d : D) (l : List Bool) : Prop := FL 1 d (rowsB l) ∨ ∃ id off cs, d = .arr id off l.length 1 /\ s.get id = some (.cells cs) /\ off + l.length <= cs.length /\ (cs.drop off).take l.length = cellsB l
theorem RdB.one {s : Store} {d : D} {l : List Bool} (h : RdB s d l) : oneCell d = true := by
 rcases h with h | ⟨id, off, cs, rfl, _⟩
 ·exact h.one
 ·rfl
theorem RdB.len {s : Store} {d : D} {l : List Bool} (h : RdB s d l) : lenV false d = some (.int .i64 (l.length : Int)) := by
 rcases h with h | ⟨id, off, cs, rfl, _⟩
 ·exact ln_b h
 ·rfl
theorem RdB.stay {s s' : Store} {d : D} {l : List Bool} (h : RdB s d l) (hs : ∀ id off len, d = .arr id off len 1 -> s'.get id = s.get id) : RdB s' d l := by
 rcases h with h | ⟨id, off, cs, rfl, h1, h2, h3⟩
 ·exact .inl h
 ·exact .inr ⟨id, off, cs, rfl, by rw [hs id off _ rfl, h1], h2, h3⟩
theorem RdB.take {s : Store} {d : D} {l : List Bool} (h : RdB s d l) {n : Nat} (hn : n <= l.length) {k : IntKind} : ∃ d', sliceV (some 1) d none (some (.int k (n : Int))) = some d' /\ RdB s d' (l.take n) := by
 rcases h with h | ⟨id, off, cs, rfl, h1, h2, h3⟩
 ·obtain ⟨d', e1, e2⟩ := FL.take h (n := n) (by simpa using hn) (k := k)
  exact ⟨d', e1, .inl (by rw [rowsB_tk]; exact e2)⟩
 ·by_cases h0 : 0 < l.length
  ·refine ⟨.arr id off n 1, by simp [sliceV, boundOf, hn]; intro h; subst h; simp at h0, .inr ⟨id, off, cs, by simp [Nat.min_eq_left hn], h1, by simp; omega, ?_⟩⟩
   have : (l.take n).length = n := by simp; omega
   rw [this]
   have e := congrArg (List.take n) h3
   rw [List.take_take, Nat.min_eq_left hn] at e
   rw [e]; simp [cellsB, List.map_take]
  ·have e : l = [] := List.eq_nil_of_length_eq_zero (by omega)
   subst e
   obtain rfl : n = 0 := by simpa using hn
   exact ⟨.lst 1 [], by simp [sliceV, boundOf], .inl (.inr rfl)⟩
theorem RdB.drop {s : Store} {d : D} {l : List Bool} (h : RdB s d l) {n : Nat} (hn : n <= l.length) {k : IntKind} : ∃ d', sliceV (some 1) d (some (.int k (n : Int))) none = some d' /\ RdB s d' (l.drop n) := by
 rcases h with h | ⟨id, off, cs, rfl, h1, h2, h3⟩
 ·obtain ⟨d', e1, e2⟩ := FL.drop h (n := n) (by simpa using hn) (k := k)
  exact ⟨d', e1, .inl (by rw [rowsB_dr]; exact e2)⟩
 ·by_cases h0 : n < l.length
  ·refine ⟨.arr id (off + n) (l.length - n) 1, by simp [sliceV, boundOf, h0, hn], .inr ⟨id, off + n, cs, by simp, h1, by simp; omega, ?_⟩⟩
   have e := congrArg (List.drop n) h3
   rw [List.drop_take, List.drop_drop] at e
   rw [List.length_drop, e]; simp [cellsB, List.map_drop]
  ·have e : l.drop n = [] := List.drop_eq_nil_of_le (by omega)
   rw [e]
   exact ⟨.lst 1 [], by simp [sliceV, boundOf, hn, h0], .inl (.inr rfl)⟩
theorem RdB.frz {s : Store} {d : D} {l : List Bool} (h : RdB s d l) (n : Nat) : ∃ d', ice s.get (n + 2) d = some d' /\ FL 1 d' (rowsB l) := by
 rcases h with h | ⟨id, off, cs, rfl, h1, h2, h3⟩
 ·rcases h with ⟨rfl, h⟩ | rfl
  ·exact ⟨.nils, rfl, .inl ⟨rfl, h⟩⟩
  ·exact ⟨_, rfl, .inr rfl⟩
 ·refine ⟨.lst 1 (rowsB l), ?_, .inr rfl⟩
  have e1 : rowOf s.get (.arr id off l.length 1) = some (cellsB l) := by
   simp only [rowOf, h1, Nat.mul_one, h3]
   rw [if_pos h2]
  have e2 : mapO (ice s.get (n + 1)) (cellsB l) = some (cellsB l) := mapO_ice (by simp [cellsB, scal1])
  simp only [ice, e1, e2, Option.map_some]
  have e3 := chunk_one (cellsB l)
  rw [cellsB_length] at e3
  rw [e3]
  simp [cellsB, rowsB]
theorem RdB.idx {s : Store} {d : D} {l : List Bool} (h : RdB s d l) {i : Nat} (hi : i < l.length) {k : IntKind} : ∃ p, idxAV 1 d (.int k (i : Int)) = some p /\ ldV s.get none p = some (.bool (aB l i)) := by
 rcases h with h | ⟨id, off, cs, rfl, h1, h2, h3⟩
 ·exact ⟨_, ix_bB h hi, rfl⟩
 ·refine ⟨.ptr id (off + i), ?_, ?_⟩
  ·have : (i : Int) < (l.length : Int) := by omega
   simp only [idxAV]
   rw [if_pos ⟨trivial, by omega, this⟩]
   simp
  ·have e : cs[off + i]? = some (.bool (aB l i)) := by
    have := congrArg (fun x => x[i]?) h3
    simp only [List.getElem?_take, hi, if_true, List.getElem?_drop] at this
    rw [this, cB_at hi]
   simp only [ldV, h1, pull, e]
   try rfl
theorem RdB.lt {s : Store} {d : D} {l : List Bool} (h : RdB s d l) : ∀ id off len, d = .arr id off len 1 -> id < s.next := by
 intro id off len e
 rcases h with h | ⟨id', off', cs, e', h1, _⟩
 ·subst e; rcases h with ⟨h, _⟩ | h <;> cases h
 ·rw [e] at e'; cases e'; exact get_lts h1
def Rdq (s : Store) (r : Nat) (l : List Bool) (src : Nat -> Prop) : Prop := ∃ d, s.get r = some (.cells [d]) /\ RdB s d l /\ ∀ id off len, d = .arr id off len 1 -> src id
theorem Rdq.fr {s s' : Store} {l : List Bool} {r : Nat} {src : Nat -> Prop} {ids : List Nat} (h : Rdq s r l src) (hf : Fr ids s s') (h1 : r ∉ ids) (h2 : ∀ i, src i -> i ∉ ids) : Rdq s' r l src := by
 obtain ⟨d, g, k, q⟩ := h
 refine ⟨d, by rw [hf.2 _ (get_lts g) h1, g], ?_, q⟩
 rcases k with k | ⟨id, off, cs, rfl, k1, k2, k3⟩
 ·exact .inl k
 ·exact .inr ⟨id, off, cs, rfl, by rw [hf.2 _ (get_lts k1) (h2 id (q id off _ rfl)), k1], k2, k3⟩
theorem RdB.take' {s : Store} {d : D} {l : List Bool} {src : Nat -> Prop} (h : RdB s d l) (hq : ∀ id off len, d = .arr id off len 1 -> src id) {n : Nat} (hn : n <= l.length) {k : IntKind} : ∃ d', sliceV (some 1) d none (some (.int k (n : Int))) = some d' /\ RdB s d' (l.take n) /\ ∀ id off len, d' = .arr id off len 1 -> src id := by
 obtain ⟨d', e1, e2⟩ := h.take hn (k := k)
 refine ⟨d', e1, e2, fun id off len he => ?_⟩
 subst he
 cases d with
 | arr id' off' len' sz =>
   simp only [sliceV, boundOf] at e1
   rcases h with h | ⟨a, b, c, e, _⟩
   ·rcases h with ⟨h, _⟩ | h <;> cases h
   ·cases e
    simp at e1
    obtain ⟨_, e1⟩ := e1
    split at e1
    ·cases e1; exact hq id _ _ rfl
    ·cases e1
 | _ => simp [sliceV, boundOf] at e1
theorem RdB.drop' {s : Store} {d : D} {l : List Bool} {src : Nat -> Prop} (h : RdB s d l) (hq : ∀ id off len, d = .arr id off len 1 -> src id) {n : Nat} (hn : n <= l.length) {k : IntKind} : ∃ d', sliceV (some 1) d (some (.int k (n : Int))) none = some d' /\ RdB s d' (l.drop n) /\ ∀ id off len, d' = .arr id off len 1 -> src id := by
 obtain ⟨d', e1, e2⟩ := h.drop hn (k := k)
 refine ⟨d', e1, e2, fun id off len he => ?_⟩
 subst he
 cases d with
 | arr id' off' len' sz =>
   simp only [sliceV, boundOf] at e1
   rcases h with h | ⟨a, b, c, e, _⟩
   ·rcases h with ⟨h, _⟩ | h <;> cases h
   ·cases e
    simp at e1
    obtain ⟨_, e1⟩ := e1
    split at e1
    ·cases e1; exact hq id _ _ rfl
    ·cases e1
 | _ => simp [sliceV, boundOf] at e1
structure UnN (n : Nat) (mcs : List D) (s0 s : Store) (dA dV dC : D) (W : Hs) : Prop where
 hp : Hp s ((n + 3, [dA, dV, dC, .int .i64 0]) :: (n + 1, [.nils, .nils, .nils, .int .i64 0]) :: W) [(n, mcs)]
 nw : ∀ e ∈ W, n + 4 <= e.1
 old : ∀ j, j < n -> s.get j = s0.get j
theorem UnN.lt {n : Nat} {mcs : List D} {s0 s : Store} {dA dV dC : D} {W : Hs} (h : UnN n mcs s0 s dA dV dC W) : n + 3 < s.next := get_lts (h.hp.w (n + 3, [dA, dV, dC, .int .i64 0]) (by simp))
theorem UnN.fr {n : Nat} {mcs : List D} {s0 s s' : Store} {dA dV dC : D} {W : Hs} {ids : List Nat} (h : UnN n mcs s0 s dA dV dC W) (hf : Fr ids s s') (hi : ∀ i ∈ ids, i = n + 2) : UnN n mcs s0 s' dA dV dC W :=
 ⟨h.hp.frI hf fun w hw hn => by
  have := hi _ hn
  simp only [List.cons_append, List.mem_cons, List.mem_append, List.not_mem_nil, or_false] at hw
  rcases hw with rfl | rfl | hw | rfl
  ·simp at this
  ·simp at this
  ·have := h.nw w hw; omega
  ·simp at this, h.nw, fun j hj => by rw [hf.2 j (by have := h.lt; omega) (fun hc => by have := hi j hc; omega), h.old j hj]⟩
theorem bm_unn {fs : FuncId -> Option VFunc} {t rest env K s0 s d bytes row A B E mcs dA dV dC} {n : Nat} {src : Nat -> Prop} {rows : List (List D)} {l : List Bool} (h : UnN n mcs s0 s dA dV dC (A ++ E ++ B)) (hr : Rdq s (n + 2) l src) (hsrc : ∀ i, src i -> i < n) (hd : Rp d 1 rows E) (h1 : row.length = 1) (hrs : ∀ r ∈ rows, r.length = 1) (hb : bytes <= 1000) (hl : rows.length <= 1000000)
 (k : ∀ d' s' E', Rp d' 1 (rows ++ [row]) E' -> UnN n mcs s0 s' dA dV dC (A ++ E' ++ B) -> Rdq s' (n + 2) l src -> (∀ dA' dV' dC', UnN n mcs s0 (s'.set (n + 3) (some (.cells [dA', dV', dC', .int .i64 0]))) dA' dV' dC' (A ++ E' ++ B) /\ Rdq (s'.set (n + 3) (some (.cells [dA', dV', dC', .int .i64 0]))) (n + 2) l src) -> XQ fs [] rest ((t, d') :: env) s' K) : BM (appendV 1 bytes d (.arr s.next 0 1 1) (s.push (.cells row))) fs t rest env K := by
 have hlt := h.lt
 refine bm_app2 (A := (n + 3, [dA, dV, dC, .int .i64 0]) :: (n + 1, [.nils, .nils, .nils, .int .i64 0]) :: A) (B := B) hd (by have := h.hp; simpa using this) h1 hrs hb (by omega) fun s' k1 k2 k3 k4 => ?_
 have hr' : Rdq s' (n + 2) l src := by
  obtain ⟨d0, g, f, q⟩ := hr
  refine ⟨d0, ?_, f.stay fun id off len e => ?_, q⟩
  ·rw [k4 (n + 2) (by omega) fun e he hc => by
    have := h.nw e (by simp [he])
    omega, g]
  ·have := hsrc id (q id off len e)
   exact k4 id (by omega) fun e he hc => by
    have := h.nw e (by simp [he])
    omega
 have hw : UnN n mcs s0 s' dA dV dC (A ++ [(s.next + 1, (rows ++ [row]).flatten)] ++ B) := ⟨by simpa using k2, fun e he => by
  simp only [List.mem_append, List.mem_singleton] at he
  rcases he with (he | rfl) | he
  ·exact h.nw e (by simp [he])
  ·simp only; omega
  ·exact h.nw e (by simp [he]), fun j hj => by rw [k4 j (by omega) fun e he hc => by
   have := h.nw e (by simp [he])
   omega, h.old j hj]⟩
 refine k _ s' _ k1 hw hr' fun dA' dV' dC' => ⟨⟨?_, hw.nw, fun j hj => by rw [get_set_ne (by omega), hw.old j hj]⟩, ?_⟩
 ·exact Hp.set (A := []) hw.hp [dA', dV', dC', .int .i64 0]
 ·obtain ⟨d0, g, f, q⟩ := hr'
  refine ⟨d0, by rw [get_set_ne (by omega), g], f.stay fun id off len e => get_set_ne ?_, q⟩
  have := hsrc id (q id off len e)
  omega
theorem mx_unn {pairs T i} {fs : FuncId -> Option VFunc} {t rest env K s0 s d bytes row A B E mcs dA dV dC} {n : Nat} {src : Nat -> Prop} {rows : List (List D)} {l : List Bool} (h : UnN n mcs s0 s dA dV dC (A ++ E ++ B)) (hr : Rdq s (n + 2) l src) (hsrc : ∀ i, src i -> i < n) (hd : Rp d 1 rows E) (h1 : row.length = 1) (hrs : ∀ r ∈ rows, r.length = 1) (hb : bytes <= 1000) (hl : rows.length <= 1000000) (he : EfOk pairs i ((s.next + 1) :: E.map Prod.fst) T)
 (k : ∀ d' s' E', Rp d' 1 (rows ++ [row]) E' -> UnN n mcs s0 s' dA dV dC (A ++ E' ++ B) -> Rdq s' (n + 2) l src -> (∀ dA' dV' dC', UnN n mcs s0 (s'.set (n + 3) (some (.cells [dA', dV', dC', .int .i64 0]))) dA' dV' dC' (A ++ E' ++ B) /\ Rdq (s'.set (n + 3) (some (.cells [dA', dV', dC', .int .i64 0]))) (n + 2) l src) -> XX fs pairs (⟨i, none, (s.next + 1) :: E.map Prod.fst⟩ :: T) rest ((t, d') :: env) s' K) : MX d (.arr s.next 0 1 1) 1 bytes i fs pairs T t rest env (s.push (.cells row)) K := by
 have hlt := h.lt
 refine mx_app (A := (n + 3, [dA, dV, dC, .int .i64 0]) :: (n + 1, [.nils, .nils, .nils, .int .i64 0]) :: A) (B := B) hd (by have := h.hp; simpa using this) h1 hrs hb (by omega) he fun s' k1 k2 k3 k4 => ?_
 have hr' : Rdq s' (n + 2) l src := by
  obtain ⟨d0, g, f, q⟩ := hr
  refine ⟨d0, ?_, f.stay fun id off len e => ?_, q⟩
  ·rw [k4 (n + 2) (by omega) fun e he hc => by
    have := h.nw e (by simp [he])
    omega, g]
  ·have := hsrc id (q id off len e)
   exact k4 id (by omega) fun e he hc => by
    have := h.nw e (by simp [he])
    omega
 have hw : UnN n mcs s0 s' dA dV dC (A ++ [(s.next + 1, (rows ++ [row]).flatten)] ++ B) := ⟨by simpa using k2, fun e he => by
  simp only [List.mem_append, List.mem_singleton] at he
  rcases he with (he | rfl) | he
  ·exact h.nw e (by simp [he])
  ·simp only; omega
  ·exact h.nw e (by simp [he]), fun j hj => by rw [k4 j (by omega) fun e he hc => by
   have := h.nw e (by simp [he])
   omega, h.old j hj]⟩
 refine k _ s' _ k1 hw hr' fun dA' dV' dC' => ⟨⟨?_, hw.nw, fun j hj => by rw [get_set_ne (by omega), hw.old j hj]⟩, ?_⟩
 ·exact Hp.set (A := []) hw.hp [dA', dV', dC', .int .i64 0]
 ·obtain ⟨d0, g, f, q⟩ := hr'
  refine ⟨d0, by rw [get_set_ne (by omega), g], f.stay fun id off len e => get_set_ne ?_, q⟩
  have := hsrc id (q id off len e)
  omega
theorem UnN.more {n : Nat} {mcs : List D} {s0 s : Store} {d dA dV dC : D} {A B E : Hs} {rows : List (List D)} (h : UnN n mcs s0 s dA dV dC (A ++ B)) (hE : Rp d 1 rows E) (hh : Has s E) (N : Nat) (hn : ∀ e ∈ E, N <= e.1) (h3 : n + 3 < N) (hw : ∀ w ∈ A ++ B, w.1 < N) : UnN n mcs s0 s dA dV dC (A ++ E ++ B) := by
 rcases hE with ⟨_, _, rfl⟩ | ⟨id, rfl, rfl, _⟩
 ·simpa using h
 ·have hid := hn _ (List.mem_singleton.2 rfl)
  simp only at hid
  have hp := h.hp.addW (id := id) (cs := rows.flatten) (hh (id, rows.flatten) (by simp)) (fun w hw' => by
   simp only [List.mem_cons] at hw'
   rcases hw' with rfl | rfl | hw'
   ·simp only; omega
   ·simp only; omega
   ·have := hw w hw'; omega) (fun r hr => by
   simp only [List.mem_singleton] at hr
   subst hr; simp only; omega)
  refine ⟨hp.perm ?_, fun e he => ?_, h.old⟩
  ·have e1 : (A ++ [(id, rows.flatten)] ++ B).Perm ((id, rows.flatten) :: (A ++ B)) := by
    rw [List.append_assoc]
    exact List.perm_middle
   exact ((e1.cons _).cons _).trans (((List.Perm.swap _ _ _).cons _).trans (List.Perm.swap _ _ _))
  ·simp only [List.mem_append, List.mem_singleton] at he
   rcases he with (he | rfl) | he
   ·exact h.nw e (by simp [he])
   ·simp only; omega
   ·exact h.nw e (by simp [he])
structure StU (s : Store) (x : StD) (st : Stt) : Prop where
 a : SN s 1 x.da (rowsN st.at')
 v : SN s 1 x.dv (rowsZ st.vars)
 c : ∃ qs : List D, SN s 1 x.dc (qs.map fun q => [q]) /\ qs.length = st.chans.length /\ ∀ j, j < qs.length -> ChR s (dAt qs j) (cAt st.chans j)
theorem FL.sn {s : Store} {n : Nat} {d : D} {rows : List (List D)} (h : FL n d rows) : SN s n d rows := by
 rcases h with ⟨rfl, h⟩ | rfl
 ·exact .inl ⟨rfl, h⟩
 ·exact .inr (.inr rfl)
theorem FL.chr {s : Store} {d : D} {l : List Int} (h : FI d l) : ChR s d l := by
 rcases h with ⟨rfl, h⟩ | rfl
 ·exact .inl ⟨rfl, by simpa [rowsZ] using h⟩
 ·exact .inr (.inl rfl)
theorem StF.u {s : Store} {x : StD} {st : Stt} (h : StF x st) : StU s x st := by
 obtain ⟨ds, h1, h2, h3⟩ := h.c
 refine ⟨h.a.sn, FL.sn h.v, ds, h1.sn, h2, fun j hj => ?_⟩
 rw [dAt_get hj, cAt_get (by omega)]
 exact FL.chr (h3 j hj (by omega))
theorem SttR.u {s : Store} {cs : List D} {st : Stt} (h : SttR s cs st) : ∃ x : StD, cs = [x.da, x.dv, x.dc, .int .i64 st.hold] /\ StU s x st := by
 obtain ⟨dA, dV, dC, qs, rfl, hA, hV, hC, hn, hl, hq⟩ := h
 exact ⟨⟨dA, dV, dC⟩, rfl, hA, hV, qs, hC, hl, fun j hj => by
  rw [dAt_get hj, cAt_get (by omega)]
  exact hq j hj (by omega)⟩
theorem ChR.stay {s s' : Store} {q : D} {l : List Int} (h : ChR s q l) (hf : Fr [] s s') : ChR s' q l := by
 rcases h with h | h | ⟨id, off, cs, rfl, h1, h2, h3⟩
 ·exact .inl h
 ·exact .inr (.inl h)
 ·exact .inr (.inr ⟨id, off, cs, rfl, by rw [hf.2 _ (get_lts h1) (by simp), h1], h2, h3⟩)
theorem StU.stay {s s' : Store} {x : StD} {st : Stt} (h : StU s x st) (hf : Fr [] s s') : StU s' x st := by
 obtain ⟨a, v, qs, h1, h2, h3⟩ := h
 exact ⟨a.stay hf, v.stay hf, qs, h1.stay hf, h2, fun j hj => (h3 j hj).stay hf⟩
theorem StU.ones {s : Store} {x : StD} {st : Stt} (h : StU s x st) : oneCell x.da = true /\ oneCell x.dv = true /\ oneCell x.dc = true := by
 obtain ⟨a, v, qs, h1, _⟩ := h
 exact ⟨a.one, v.one, h1.one⟩
theorem StU.lens {s : Store} {x : StD} {st : Stt} (h : StU s x st) : lenV false x.da = some (.int .i64 (st.at'.length : Int)) /\ lenV false x.dv = some (.int .i64 (st.vars.length : Int)) /\ lenV false x.dc = some (.int .i64 (st.chans.length : Int)) := by
 obtain ⟨a, v, qs, h1, h2, _⟩ := h
 exact ⟨by simpa [rowsN] using a.len, by simpa [rowsZ] using v.len, by simpa [h2] using h1.len⟩
theorem StU.ixA {s : Store} {x : StD} {st : Stt} (h : StU s x st) {i : Nat} (hi : i < st.at'.length) : ∃ p, idxAV 1 x.da (.int .i64 (i : Int)) = some p /\ ldV s.get none p = some (.int .i64 (nAt st.at' i : Int)) := by
 obtain ⟨p, h1, h2, _⟩ := h.a.get1 (rowsN_len _) (i := i) (by simpa [rowsN] using hi) (c := .int .i64 (nAt st.at' i : Int)) (by simp [rowsN, nAt_get hi]) rfl (by decide)
 exact ⟨p, h1, h2⟩
theorem StU.ixV {s : Store} {x : StD} {st : Stt} (h : StU s x st) {i : Nat} (hi : i < st.vars.length) : ∃ p, idxAV 1 x.dv (.int .i64 (i : Int)) = some p /\ ldV s.get none p = some (.int .i64 (zAt st.vars i)) := by
 obtain ⟨p, h1, h2, _⟩ := h.v.get1 (rowsZ_len _) (i := i) (by simpa [rowsZ] using hi) (c := .int .i64 (zAt st.vars i)) (by simp [rowsZ, zAt_get hi]) rfl (by decide)
 exact ⟨p, h1, h2⟩
theorem StU.ixC {s : Store} {x : StD} {st : Stt} (h : StU s x st) {i : Nat} (hi : i < st.chans.length) : ∃ p q, idxAV 1 x.dc (.int .i64 (i : Int)) = some p /\ ldV s.get none p = some q /\ ChR s q (cAt st.chans i) := by
 obtain ⟨a, v, qs, h1, h2, h3⟩ := h
 have hc := h3 i (by omega)
 obtain ⟨p, k1, k2, _⟩ := h1.get1 (fun r hr => by obtain ⟨x, _, rfl⟩ := List.mem_map.1 hr; rfl) (i := i) (by simp; omega) (c := dAt qs i) (by simp [dAt_get (show i < qs.length by omega)]) hc.one (by decide)
 exact ⟨p, _, k1, k2, hc⟩
theorem ChR.len {s : Store} {q : D} {l : List Int} (h : ChR s q l) : lenV false q = some (.int .i64 (l.length : Int)) := by
 rcases h with ⟨rfl, rfl⟩ | rfl | ⟨id, off, cs, rfl, _⟩
 ·rfl
 ·exact ln_i (.inr rfl)
 ·rfl
theorem ChR.ix {s : Store} {q : D} {l : List Int} (h : ChR s q l) {i : Nat} (hi : i < l.length) : ∃ p, idxAV 1 q (.int .i64 (i : Int)) = some p /\ ldV s.get none p = some (.int .i64 (zAt l i)) := by
 rcases h with ⟨rfl, rfl⟩ | rfl | ⟨id, off, cs, rfl, h1, h2, h3⟩
 ·simp at hi
 ·obtain ⟨p, k1, k2, _⟩ := SN.get1 (s := s) (.inr (.inr rfl)) (rowsZ_len l) (i := i) (by simpa [rowsZ] using hi) (c := .int .i64 (zAt l i)) (by simp [rowsZ, zAt_get hi]) rfl (by decide)
  exact ⟨p, k1, k2⟩
 ·refine ⟨.ptr id (off + i), ?_, ?_⟩
  ·have : (i : Int) < (l.length : Int) := by omega
   simp only [idxAV]
   rw [if_pos ⟨trivial, by omega, this⟩]
   simp
  ·have e : cs[off + i]? = some (.int .i64 (zAt l i)) := by
    have := congrArg (fun x => x[i]?) h3
    simp only [List.getElem?_take, hi, if_true, List.getElem?_drop] at this
    rw [this, zAt_get hi]; simp [cellsZ, hi]
   simp only [ldV, h1, pull, e]
   try rfl
theorem GrB.rdb {s0 s : Store} {ids : List Nat} {A B R E : Hs} {d : D} {l : List Bool} (h : GrB s0 s ids A B R d l E) : RdB s d l := by
 rcases h.rp with ⟨rfl, e, _⟩ | ⟨id, rfl, rfl, _⟩
 ·exact .inl (.inl ⟨rfl, e⟩)
 ·have : s.get id = some (.cells (rowsB l).flatten) := h.hp.w (id, (rowsB l).flatten) (by simp)
  rw [rowsB_flat] at this
  exact .inr ⟨id, 0, cellsB l, by simp, this, by simp, by rw [List.drop_zero, List.take_of_length_le (by simp)]⟩
theorem SttR.stay {s s' : Store} {cs : List D} {st : Stt} (h : SttR s cs st) (hf : Fr [] s s') : SttR s' cs st := by
 obtain ⟨dA, dV, dC, qs, rfl, hA, hV, hC, hn, hl, hq⟩ := h
 exact ⟨dA, dV, dC, qs, rfl, hA.stay hf, hV.stay hf, hC.stay hf, hn, hl, fun j a b => (hq j a b).stay hf⟩
end Go.V
namespace Go.Proofs.Ytlaeblilmppodaa
open Go.V
set_option maxRecDepth 100000
set_option maxHeartbeats 4000000
variable {m : MdX} {mo : Mo} {ps : List (Pr × PrD)} {x : StD} {st : Stt}
theorem bitsR_b {x : Int} {w : Nat} (hx : -65536 <= x /\ x <= 65536) (hw : w <= 16) : ∃ d, Eqc vfs 63 [.int .i64 x, .int .i64 (w : Int)] d /\ FL 1 d (rowsB (bL x w)) := by
 obtain ⟨d, h1, h2⟩ := bitsR_ok hx hw
 exact ⟨d, bc_of h1, h2⟩
theorem bitsR_c {x w : Int} (hx : -65536 <= x /\ x <= 65536) (h0 : 0 <= w) (hw : w <= 16) : ∃ d, Eqc vfs 63 [.int .i64 x, .int .i64 w] d /\ FL 1 d (rowsB (bL x w.toNat)) := by
 have := bitsR_b hx (w := w.toNat) (by omega)
 rwa [Int.toNat_of_nonneg h0] at this
theorem bd_q {q v : D} {n i} {pairs T t rest env s K} (h : ldV s.get n q = some v) (hp : ∀ id, LdOk pairs i id T /\ XX vfs pairs (⟨i, some id, []⟩ :: T) rest ((t, v) :: env) s K) (hf : XX vfs pairs T rest ((t, v) :: env) s K) : BD q n i vfs pairs T t rest env s K := by
 cases q
 all_goals first
  | (simp only [BD, h]; exact hf)
  | (simp only [BD, h]; exact hp _)
  | (simp [ldV] at h; done)
theorem packR_ok (hm : MoF m mo ps) (ho : MoOk mo) (hf : MoFi mo) {s0 : Store} (hu : StU s0 x st) (he : St8 st) (hfit : Fit mo st) : EvP vfs 32 [.agg [m.dt, .int .i64 m.g, m.dc, m.dv, m.dp, m.ds, .bool m.b], .agg [x.da, x.dv, x.dc, .int .i64 st.hold]] s0 fun r s => ∃ E R, GrL s0 s R r (mo.pack st) E := by
 have om := hm.ones
 have ox := hu.ones
 have xl := hu.lens
 have hmv := hm.v
 have hmc := hm.c
 have ea : st.at'.length = mo.procs.length := hfit.at'
 have ev : st.vars.length = mo.vars.length := hfit.vars
 have ec : st.chans.length = mo.chans.length := hfit.chans
 have hnp := ho.np
 have hnv := ho.nv
 have hnc := ho.nc
 have hhd := hfit.hold
 refine yevp (vf := vf32) rfl ?_
 unfold vf32; refine zF ?_
 refine zY (aN om ox) ?_
 have hp0 : Has ((s0.push (.cells [m.dt, .int .i64 m.g, m.dc, m.dv, m.dp, m.ds, .bool m.b])).push (.cells [x.da, x.dv, x.dc, .int .i64 st.hold])) [(s0.next, [m.dt, .int .i64 m.g, m.dc, m.dv, m.dp, m.ds, .bool m.b]), (s0.next + 1, [x.da, x.dv, x.dc, .int .i64 st.hold])] := by
  intro y hy
  simp only [List.mem_cons, List.not_mem_nil, or_false] at hy
  rcases hy with rfl | rfl
  ·exact zZ0
  ·exact zZ0
 have hgr0 := GrL.nil (s0 := s0) hp0 ((Fr.push (ids := []) _).trans (Fr.push (ids := []) _) (by simp))
 generalize (s0.push (.cells [m.dt, .int .i64 m.g, m.dc, m.dv, m.dp, m.ds, .bool m.b])).push (.cells [x.da, x.dv, x.dc, .int .i64 st.hold]) = s1 at *
 refine yw_up [0, 1, 2, 3, 4, 7, 8, 9, 10, 37, 58, 77, 87] 0 mo.procs.length (fun i f s => f 6 = .int .i64 (i : Int) /\ ∃ E, GrL s0 s [(s0.next, [m.dt, .int .i64 m.g, m.dc, m.dv, m.dp, m.ds, .bool m.b]), (s0.next + 1, [x.da, x.dv, x.dc, .int .i64 st.hold])] (f 5) (mo.pkA st i) E) (.mk rfl) (by omega) ⟨rfl, [], hgr0⟩ ?_
 rintro i f s hi ⟨hE, E, hg⟩
 have g0 := hg.hp.r (s0.next, [m.dt, .int .i64 m.g, m.dc, m.dv, m.dp, m.ds, .bool m.b]) (by simp)
 have g1 := hg.hp.r (s0.next + 1, [x.da, x.dv, x.dc, .int .i64 st.hold]) (by simp)
 have on := hg.rp.one
 by_cases ci : i < mo.procs.length
 ·have ci' : i < st.at'.length := by omega
  obtain ⟨q, q1, q2⟩ := (hu.stay hg.fr).ixA ci'
  have hpl := hfit.pl i ci' ci
  have hp4 := (ho.pr _ (pAt_mem ci)).pl
  have hin := wid_in ((pAt mo.procs i).places : Int)
  have hwd := widthR_bc (n := ((pAt mo.procs i).places : Int)) ⟨by omega, by omega⟩
  have e2 : nAt st.at' i < (pAt mo.procs i).places := by rw [nAt_get ci', pAt_get ci]; exact hpl
  obtain ⟨db, hb1, hb2⟩ := bitsR_b (x := (nAt st.at' i : Int)) (w := wid ((pAt mo.procs i).places : Int)) ⟨by omega, by omega⟩ hin.2
  refine zY (aN hE (aN ci (aN ci' (aN g0 (aN g1 (aN om (aN ox q1))))))) ?_
  refine bd_q q2 (fun id => ⟨?_, ?_⟩) ?_
  ·exact ⟨fun h => by simp [hasP] at h, trivial⟩
  all_goals
   refine zY (aN g0 (aN om (aN ox (aN hwd hb1)))) ?_
   refine mx_grBs hg hb2 (by have := (pk_le ho hf st i).1; omega) (by simp; omega) (bL_ne hin.1) (by simp only [EfOk]; refine ⟨fun h => ?_, fun h => ?_, ?_⟩ <;> first | trivial | (refine ⟨fun h => ?_, trivial⟩; simp [hasP] at h) | simp [hasP] at h) ?_
   intro d' s' E' T' hg'
   refine zY (aN hE ci) ?_
   exact ⟨E', by rw [pkA_succ ci ci']; exact hg'⟩
 obtain rfl : i = mo.procs.length := by omega
 refine zY (aN hE (aN ci (aN g0 (aN g1 (aN om ox))))) ?_
 have e0 : mo.pkV st 0 = mo.pkA st mo.procs.length := by unfold Mo.pkV; simp [encL]
 refine yw_up [0, 1, 2, 3, 4, 6, 8, 9, 10, 15, 58, 77, 87] 0 mo.vars.length (fun i f s => f 7 = .int .i64 (i : Int) /\ ∃ E, GrL s0 s [(s0.next, [m.dt, .int .i64 m.g, m.dc, m.dv, m.dp, m.ds, .bool m.b]), (s0.next + 1, [x.da, x.dv, x.dc, .int .i64 st.hold])] (f 5) (mo.pkV st i) E) (.mk rfl) (by omega) ⟨rfl, E, by rw [e0]; exact hg⟩ ?_
 clear hg g0 g1 on ci hE hi e0
 rintro i f s hi ⟨hE, E, hg⟩
 have g0 := hg.hp.r (s0.next, [m.dt, .int .i64 m.g, m.dc, m.dv, m.dp, m.ds, .bool m.b]) (by simp)
 have g1 := hg.hp.r (s0.next + 1, [x.da, x.dv, x.dc, .int .i64 st.hold]) (by simp)
 have on := hg.rp.one
 by_cases ci : i < mo.vars.length
 ·have ci' : i < st.vars.length := by omega
  obtain ⟨q, q1, q2⟩ := (hu.stay hg.fr).ixV ci'
  have h8 := he.v _ (zAt_mem ci')
  unfold I8 at h8
  have hw := hf.vr _ (vAt_mem ci)
  obtain ⟨db, hb1, hb2⟩ := bitsR_c (x := zAt st.vars i) (w := (vAt mo.vars i).width) ⟨by omega, by omega⟩ (by omega) (by omega)
  refine zY (aN hE (aN ci (aN ci' (aN g0 (aN g1 (aN om (aN ox (aN q1 (aN q2 hb1))))))))) ?_
  refine bm_grBs hg hb2 (by have := (pk_le ho hf st i).2.1; omega) (by simp; omega) (bL_ne (by omega)) ?_
  intro d' s' E' hg'
  refine zY (aN hE ci) ?_
  exact ⟨E', by rw [pkV_succ ci ci']; exact hg'⟩
 obtain rfl : i = mo.vars.length := by omega
 refine zY (aN hE (aN ci (aN g0 (aN g1 (aN om ox))))) ?_
 have e0 : mo.pkC st 0 = mo.pkV st mo.vars.length := by unfold Mo.pkC; simp [encL]
 refine yw_up [0, 1, 2, 3, 4, 6, 7, 15, 37] 0 mo.chans.length (fun i f s => f 8 = .int .i64 (i : Int) /\ ∃ E, GrL s0 s [(s0.next, [m.dt, .int .i64 m.g, m.dc, m.dv, m.dp, m.ds, .bool m.b]), (s0.next + 1, [x.da, x.dv, x.dc, .int .i64 st.hold])] (f 5) (mo.pkC st i) E) (.mk rfl) (by omega) ⟨rfl, E, by rw [e0]; exact hg⟩ ?_
 clear hg g0 g1 on ci hE hi e0
 rintro i f s hi ⟨hE, E, hg⟩
 have g0 := hg.hp.r (s0.next, [m.dt, .int .i64 m.g, m.dc, m.dv, m.dp, m.ds, .bool m.b]) (by simp)
 have g1 := hg.hp.r (s0.next + 1, [x.da, x.dv, x.dc, .int .i64 st.hold]) (by simp)
 have on := hg.rp.one
 by_cases ci : i < mo.chans.length
 rotate_left
 ·obtain rfl : i = mo.chans.length := by omega
  obtain ⟨db, hb1, hb2⟩ := bitsR_c (x := st.hold + 1) (w := 3) ⟨by omega, by omega⟩ (by omega) (by omega)
  have e1 : IntKind.i64.wrap (st.hold + 1) = st.hold + 1 := i64_id (by omega) (by omega)
  refine zY (aN hE (aN ci (aN g0 (aN g1 (aN om (aN ox (aN e1 hb1))))))) ?_
  refine bm_grBs hg hb2 (by have := (pk_le ho hf st mo.chans.length).2.2; omega) (by simp) (bL_ne (by decide)) ?_
  intro d' s' E' hg'
  have on' := hg'.rp.one
  refine zY0 ?_
  rw [show (3 : Int).toNat = 3 from rfl, pk_all ea ev ec] at hg'
  exact ⟨E', _, hg'⟩
 have ci' : i < st.chans.length := by omega
 obtain ⟨qp, q, q1, q2, hc⟩ := (hu.stay hg.fr).ixC ci'
 have ql := hc.len
 have qo := hc.one
 have h8 := he.c _ (cAt_mem ci')
 have hw := hf.ch _ (chAt_mem ci)
 obtain ⟨db, hb1, hb2⟩ := bitsR_c (x := ((cAt st.chans i).length : Int)) (w := 2) ⟨by omega, by omega⟩ (by omega) (by omega)
 refine zY (aN hE (aN ci (aN ci' (aN g0 (aN g1 (aN om (aN ox (aN q1 (aN q2 (aN ql (aN qo hb1))))))))))) ?_
 refine bm_grBs hg hb2 (by have := (pk_le ho hf st i).2.2; omega) (by simp) (bL_ne (by decide)) ?_
 intro d' s' E' hg'
 refine zY hE ?_
 have ekl : ∀ k, k <= (chAt mo.chans i).room.toNat -> (mo.pkC st i ++ bL ((cAt st.chans i).length : Int) 2 ++ encK (chAt mo.chans i).width.toNat (cAt st.chans i) k).length <= 2000 := fun k hk => by
  have h1 := (pk_le ho hf st i).2.2
  have h2 : k * (chAt mo.chans i).width.toNat <= 3 * 8 := Nat.mul_le_mul (by omega) (by omega)
  simp only [List.length_append, bL_len, encK_len]
  omega
 refine yw_up [0, 1, 2, 3, 4, 6, 7, 8, 15, 37, 58] 0 (chAt mo.chans i).room.toNat (fun k f s => f 9 = .int .i64 (k : Int) /\ ∃ E, GrL s0 s [(s0.next, [m.dt, .int .i64 m.g, m.dc, m.dv, m.dp, m.ds, .bool m.b]), (s0.next + 1, [x.da, x.dv, x.dc, .int .i64 st.hold])] (f 5) (mo.pkC st i ++ bL ((cAt st.chans i).length : Int) 2 ++ encK (chAt mo.chans i).width.toNat (cAt st.chans i) k) E) (.mk rfl) (by omega) ⟨rfl, E', by rw [show encK (chAt mo.chans i).width.toNat (cAt st.chans i) 0 = [] from rfl, List.append_nil]; exact hg'⟩ ?_
 clear hg' hg g0 g1 on hb1 hb2 q1 q2 ql qo hc
 rintro k f s hk ⟨hE, E, hg⟩
 have g0 := hg.hp.r (s0.next, [m.dt, .int .i64 m.g, m.dc, m.dv, m.dp, m.ds, .bool m.b]) (by simp)
 have g1 := hg.hp.r (s0.next + 1, [x.da, x.dv, x.dc, .int .i64 st.hold]) (by simp)
 have on := hg.rp.one
 have ekl := ekl k hk
 have er : ((k : Int) < (chAt mo.chans i).room) = (k < (chAt mo.chans i).room.toNat) := by apply propext; omega
 by_cases ck : k < (chAt mo.chans i).room.toNat
 rotate_left
 ·obtain rfl : k = (chAt mo.chans i).room.toNat := by omega
  refine zY (aN hE (aN ci (aN ci' (aN g0 (aN g1 (aN om (aN ox (aN er ck)))))))) ?_
  exact ⟨E, by rw [pkC_succ ci ci']; exact hg⟩
 obtain ⟨qp, q, q1, q2, hc⟩ := (hu.stay hg.fr).ixC ci'
 have ql := hc.len
 have qo := hc.one
 by_cases cl : k < (cAt st.chans i).length
 ·have h8k := h8.2 _ (zAt_mem cl)
  unfold I8 at h8k
  obtain ⟨r, r1, r2⟩ := hc.ix cl
  obtain ⟨db, hb1, hb2⟩ := bitsR_c (x := zAt (cAt st.chans i) k) (w := (chAt mo.chans i).width) ⟨by omega, by omega⟩ (by omega) (by omega)
  refine zY (aN hE (aN ci (aN ci' (aN g0 (aN g1 (aN om (aN ox (aN er (aN ck (aN cl (aN q1 (aN q2 (aN ql (aN qo (aN r1 (aN r2 hb1)))))))))))))))) ?_
  refine bm_grBs hg hb2 (by omega) (by simp; omega) (bL_ne (by omega)) ?_
  intro d' s' E' hg'
  refine zY (aN hE ck) ?_
  exact ⟨E', by rw [encK_succ, <- List.append_assoc]; exact hg'⟩
 ·obtain ⟨db, hb1, hb2⟩ := bitsR_c (x := 0) (w := (chAt mo.chans i).width) ⟨by omega, by omega⟩ (by omega) (by omega)
  refine zY (aN hE (aN ci (aN ci' (aN g0 (aN g1 (aN om (aN ox (aN er (aN ck (aN cl (aN q1 (aN q2 (aN ql (aN qo hb1)))))))))))))) ?_
  refine bm_grBs hg hb2 (by omega) (by simp; omega) (bL_ne (by omega)) ?_
  intro d' s' E' hg'
  refine zY (aN hE ck) ?_
  exact ⟨E', by rw [encK_succ, zAt_out cl, <- List.append_assoc]; exact hg'⟩
end Go.Proofs.Ytlaeblilmppodaa
namespace Go.Proofs.Ytlaeblilmppodaa
open Go.V
set_option maxRecDepth 100000
set_option maxHeartbeats 4000000
variable {m : MdX} {mo : Mo} {ps : List (Pr × PrD)} {x : StD} {st : Stt}
theorem sameB_bc {da db : D} {a b : List Bool} (ha : FL 1 da (rowsB a)) (hb : FL 1 db (rowsB b)) (hl : a.length <= 1000000) : Eqc vfs 31 [da, db] (.bool (decide (a = b))) := by
 refine bc_of ?_
 refine yiso (vf := vf31) rfl ?_
 unfold vf31; refine zF ?_
 by_cases hc : a.length = b.length
 rotate_left
 ·refine zY hc ?_
  exact (decide_eq_false fun h => hc (by rw [h])).symm
 refine zY hc ?_
 refine yw_up [0, 1, 10] 0 a.length (fun i f s => f 5 = .int .i64 (i : Int) /\ ∀ j, j < i -> aB a j = aB b j) (.mk rfl) (by omega) ⟨rfl, fun j h => by omega⟩ ?_
 rintro i f s hi ⟨hE, hall⟩
 by_cases ci : i < a.length
 ·have ci' : i < b.length := by omega
  by_cases e : aB a i = aB b i
  ·have e1 : (aB a i == aB b i) = true := by simp [e]
   refine zY (aN hE (aN ci (aN ci' e1))) ?_
   intro j hj
   by_cases ej : j = i
   ·subst ej; exact e
   ·exact hall j (by omega)
  ·have e1 : (aB a i == aB b i) = false := by simp [e]
   refine zY (aN hE (aN ci (aN ci' e1))) ?_
   exact (decide_eq_false fun h => e (by rw [h])).symm
 ·refine zY (aN hE ci) ?_
  exact (decide_eq_true (bB_ext hc fun j hj => hall j (by omega))).symm
theorem nbits_bc (hm : MoF m mo ps) (ho : MoOk mo) (hf : MoFi mo) : Eqc vfs 27 [.agg [m.dt, .int .i64 m.g, m.dc, m.dv, m.dp, m.ds, .bool m.b]] (.int .i64 (mo.nbits : Int)) := by
 have om := hm.ones
 have hmv := hm.v
 have hmc := hm.c
 have hnp := ho.np
 have hnv := ho.nv
 have hnc := ho.nc
 refine bc_of ?_
 refine yiso (vf := vf27) rfl ?_
 unfold vf27; refine zF ?_
 refine zY om ?_
 have g0 : (Store.empty.push (.cells [m.dt, .int .i64 m.g, m.dc, m.dv, m.dp, m.ds, .bool m.b])).get 0 = some (.cells [m.dt, .int .i64 m.g, m.dc, m.dv, m.dp, m.ds, .bool m.b]) := by simp (disch := (first|exact Rf.mk rfl|with_reducible assumption|omega|((repeat (first|rw [nP]|rw [nS]|rw [nx_empty]))<;>omega)|decide)) only [go_sem, ↓reduceIte]
 generalize Store.empty.push (.cells [m.dt, .int .i64 m.g, m.dc, m.dv, m.dp, m.ds, .bool m.b]) = s0 at *
 refine yw_up [0, 1, 2, 7, 9, 11, 12, 24, 25, 26, 27, 36, 37, 38, 39] 0 mo.procs.length (fun i f s => f 13 = .int .i64 (i : Int) /\ f 3 = .int .i64 ((3 + szL (fun p : Pr => wid (p.places : Int)) (mo.procs.take i) : Nat) : Int) /\ s.get 0 = some (.cells [m.dt, .int .i64 m.g, m.dc, m.dv, m.dp, m.ds, .bool m.b])) (.mk rfl) (by omega) ⟨rfl, rfl, g0⟩ ?_
 clear g0
 rintro i f s hi ⟨hE, hE3, g0⟩
 have l0 := get_lts g0
 have hb := szP_le ho i
 by_cases ci : i < mo.procs.length
 ·have hwd := width_bc (n := ((pAt mo.procs i).places : Int))
  have hin := wid_in ((pAt mo.procs i).places : Int)
  have hs := szP_succ ci
  refine zY (aN hE (aN hE3 (aN ci (aN g0 (aN om hwd))))) ?_
  rw [hs]; omega
 obtain rfl : i = mo.procs.length := by omega
 rw [List.take_length] at hE3 hb
 refine zY (aN hE (aN hE3 (aN ci (aN g0 om)))) ?_
 refine yw_up [0, 1, 2, 5, 9, 11, 12, 13, 14, 24, 25, 36, 37, 38, 39] 0 mo.vars.length (fun i f s => f 26 = .int .i64 (i : Int) /\ f 3 = .int .i64 ((3 + szL (fun p : Pr => wid (p.places : Int)) mo.procs + szL (fun v : Vr => v.width.toNat) (mo.vars.take i) : Nat) : Int) /\ s.get 0 = some (.cells [m.dt, .int .i64 m.g, m.dc, m.dv, m.dp, m.ds, .bool m.b])) (.mk rfl) (by omega) ⟨rfl, rfl, g0⟩ ?_
 clear g0 ci hE hE3 hi
 rintro i f s hi ⟨hE, hE3, g0⟩
 have l0 := get_lts g0
 have hbv := szV_le ho hf i
 by_cases ci : i < mo.vars.length
 ·have hs := szV_succ ci
  have hw := hf.vr _ (vAt_mem ci)
  have e1 : IntKind.i64.wrap (((3 + szL (fun p : Pr => wid (p.places : Int)) mo.procs + szL (fun v : Vr => v.width.toNat) (mo.vars.take i) : Nat) : Int) + (vAt mo.vars i).width) = ((3 + szL (fun p : Pr => wid (p.places : Int)) mo.procs + szL (fun v : Vr => v.width.toNat) (mo.vars.take (i + 1)) : Nat) : Int) := by
   rw [hs, i64_id (by omega) (by omega)]; omega
  exact zZ (aN hE (aN hE3 (aN ci (aN g0 (aN om e1)))))
 obtain rfl : i = mo.vars.length := by omega
 rw [List.take_length] at hE3 hbv
 refine zY (aN hE (aN hE3 (aN ci (aN g0 om)))) ?_
 refine yw_up [0, 1, 2, 5, 7, 11, 12, 13, 14, 24, 25, 26, 27, 36, 37] 0 mo.chans.length (fun i f s => f 38 = .int .i64 (i : Int) /\ f 3 = .int .i64 ((3 + szL (fun p : Pr => wid (p.places : Int)) mo.procs + szL (fun v : Vr => v.width.toNat) mo.vars + szL (fun c : Ch => 2 + c.room.toNat * c.width.toNat) (mo.chans.take i) : Nat) : Int) /\ s.get 0 = some (.cells [m.dt, .int .i64 m.g, m.dc, m.dv, m.dp, m.ds, .bool m.b])) (.mk rfl) (by omega) ⟨rfl, rfl, g0⟩ ?_
 clear g0 ci hE hE3 hi
 rintro i f s hi ⟨hE, hE3, g0⟩
 have l0 := get_lts g0
 have hbc := szC_le ho hf i
 by_cases ci : i < mo.chans.length
 ·have hs := szC_succ ci
  have hw := hf.ch _ (chAt_mem ci)
  have hmul : (chAt mo.chans i).room * (chAt mo.chans i).width = (((chAt mo.chans i).room.toNat * (chAt mo.chans i).width.toNat : Nat) : Int) := by
   rw [Int.natCast_mul, Int.toNat_of_nonneg (by omega), Int.toNat_of_nonneg (by omega)]
  have hml : (chAt mo.chans i).room.toNat * (chAt mo.chans i).width.toNat <= 3 * 8 := Nat.mul_le_mul (by omega) (by omega)
  generalize (chAt mo.chans i).room.toNat * (chAt mo.chans i).width.toNat = P at *
  have e0 : IntKind.i64.wrap ((chAt mo.chans i).room * (chAt mo.chans i).width) = (P : Int) := by rw [hmul, i64_id (by omega) (by omega)]
  have e2 : IntKind.i64.wrap (2 + (P : Int)) = ((2 + P : Nat) : Int) := by rw [i64_id (by omega) (by omega)]; omega
  refine zY (aN hE (aN hE3 (aN ci (aN g0 (aN om (aN e0 e2)))))) ?_
  rw [hs]; omega
 ·obtain rfl : i = mo.chans.length := by omega
  rw [List.take_length] at hE3
  refine zY (aN hE (aN hE3 (aN ci (aN g0 om)))) ?_
  unfold Mo.nbits
  omega
end Go.Proofs.Ytlaeblilmppodaa
namespace Go.Proofs.Ytlaeblilmppodaa
open Go.V
set_option maxRecDepth 100000
set_option maxHeartbeats 4000000
variable {m : MdX} {mo : Mo} {ps : List (Pr × PrD)} {x : StD} {st : Stt}
theorem take_ok {s : Store} {r : Nat} {l : List Bool} {w : Nat} {src : Nat -> Prop} (hr : Rdq s r l src) (hsr : ¬ src r) (hw : w <= l.length) :
 EvP vfs 61 [.ptr r 0, .int .i64 (w : Int)] s fun d s' => (RdB s' d (l.take w) /\ (∀ id off len, d = .arr id off len 1 -> src id) /\ Rdq s' r (l.drop w) src) /\ Fr [r] s s' := by
 obtain ⟨d, hg, hd, hq⟩ := hr
 have hl := get_lts hg
 obtain ⟨d1, h1, h2, h2q⟩ := hd.take' hq hw (k := .i64)
 obtain ⟨d2, h3, h4, h4q⟩ := hd.drop' hq hw (k := .i64)
 have o0 := hd.one
 have o1 := h2.one
 have o2 := h4.one
 simp (disch := (first|exact Rf.mk rfl|with_reducible assumption|omega|((repeat (first|rw [nP]|rw [nS]|rw [nx_empty]))<;>omega)|decide)) only [go_sem, ↓reduceIte] at h1
 simp (disch := (first|exact Rf.mk rfl|with_reducible assumption|omega|((repeat (first|rw [nP]|rw [nS]|rw [nx_empty]))<;>omega)|decide)) only [go_sem, ↓reduceIte] at h3
 refine yevp (vf := vf61) rfl ?_
 unfold vf61; refine zF ?_
 refine zY (aN hg (aN o0 (aN o1 (aN o2 (aN h1 h3))))) ?_
 have st : ∀ {d : D} {l' : List Bool}, RdB s d l' -> (∀ id off len, d = .arr id off len 1 -> src id) -> RdB (s.set r (some (.cells [d2]))) d l' := fun k q => k.stay fun id off len e => get_set_ne fun h => hsr (h ▸ q id off len e)
 exact ⟨⟨st h2 h2q, h2q, d2, get_set_eq hl, st h4 h4q, h4q⟩, Fr.set _ (by simp)⟩
theorem runs_ok {s : Store} {r : Nat} {l : List Bool} {w : Nat} {src : Nat -> Prop} (hr : Rdq s r l src) (hsr : ¬ src r) (hw : w <= l.length) (hw2 : w <= 16) :
 EvP vfs 59 [.ptr r 0, .int .i64 (w : Int)] s fun d s' => (d = .int .i64 (num (aB l) w : Int) /\ Rdq s' r (l.drop w) src) /\ Fr [r] s s' := by
 have ht := take_ok hr hsr hw
 refine yevp (vf := vf59) rfl ?_
 unfold vf59; refine zF ?_
 refine zY0 ?_
 refine xq_evp ht rfl ?_
 rintro d s1 ⟨⟨hd, hdq, hr1⟩, fr1⟩
 have hl : (l.take w).length = w := by simp; omega
 have hln := hd.len
 refine zY (aN hln hl) ?_
 refine yw_up [0, 1, 4, 10, 11] 0 w (fun i f s' => f 12 = .int .i64 (i : Int) /\ f 5 = .int .i64 (num (aB (l.take w)) i : Int) /\ s' = s1) (.mk rfl) (by omega) ⟨rfl, rfl, rfl⟩ ?_
 rintro i f s' hi ⟨hE, hE5, rfl⟩
 by_cases ci : i < w
 ·have ci' : i < (l.take w).length := by omega
  obtain ⟨q, q1, q2⟩ := hd.idx ci' (k := .i64)
  have hsh := shl_64 (w := i) (k := .u64) (by omega)
  have hu : IntKind.u64.wrap (i : Int) = (i : Int) := by rw [IntKind.wrap_u64]; omega
  have hor := orI_num (num_lt (aB (l.take w)) i) (by omega)
  have hnum : num (aB (l.take w)) (i + 1) = num (aB (l.take w)) i + b2n (aB (l.take w) i) * 2 ^ i := rfl
  cases hb : aB (l.take w) i
  ·rw [hb] at hnum
   refine zY (aN hE (aN hE5 (aN ci (aN q1 (aN q2 hb))))) ?_
   rw [hnum]; simp [b2n]
  ·rw [hb] at hnum
   refine zY (aN hE (aN hE5 (aN ci (aN q1 (aN q2 (aN hb (aN hsh (aN hu hor)))))))) ?_
   rw [hnum]; simp [b2n]
 ·obtain rfl : i = w := by omega
  refine zY (aN hE (aN hE5 ci)) ?_
  exact ⟨⟨by rw [num_take], hr1⟩, fr1⟩
theorem value_bc {d : D} {l : List Bool} {w : Nat} (hd : FL 1 d (rowsB l)) (hl : l.length = w) (h1 : 1 <= w) (h2 : w <= 16) : Eqc vfs 60 [d] (.int .i64 (valZ (aB l) w)) := by
 have hmin : min (w : Int) 16 = (w : Int) := by omega
 refine bc_of ?_
 refine yiso (vf := vf60) rfl ?_
 unfold vf60; refine zF ?_
 refine zY (aN hd (aN hl hmin)) ?_
 refine yw_up [0, 2, 3, 9, 30] 0 w (fun i f s' => f 10 = .int .i64 (i : Int) /\ f 4 = .int .i64 (num (aB l) i : Int)) (.mk rfl) (by omega) ⟨rfl, rfl⟩ ?_
 rintro i f s' hi ⟨hE, hE4⟩
 have hnl := num_lt (aB l) i
 have hp := pow_le16 (w := i) (by omega)
 have hpn := pow_nat i
 by_cases ci : i < w
 ·have ci' : i < l.length := by omega
  have hsh := shl_64 (w := i) (k := .i64) (by omega)
  have hnum : num (aB l) (i + 1) = num (aB l) i + b2n (aB l i) * 2 ^ i := rfl
  have hadd : IntKind.i64.wrap ((num (aB l) i : Int) + 2 ^ i) = ((num (aB l) i + 2 ^ i : Nat) : Int) := by rw [i64_id (by omega) (by omega)]; omega
  cases hb : aB l i
  ·rw [hb] at hnum
   refine zY (aN hE (aN hE4 (aN ci (aN ci' (aN hd hb))))) ?_
   rw [hnum]; simp [b2n]
  ·rw [hb] at hnum
   refine zY (aN hE (aN hE4 (aN ci (aN ci' (aN hd (aN hb (aN hsh hadd))))))) ?_
   rw [hnum]; simp [b2n]
 ·obtain rfl : i = w := by omega
  have ht : IntKind.i64.wrap ((i : Int) - 1) = ((i - 1 : Nat) : Int) := by rw [i64_id (by omega) (by omega)]; omega
  have c2 : i - 1 < l.length := by omega
  have c3 : 0 < i := by omega
  have hsh := shl_64 (w := i) (k := .i64) (by omega)
  have hv : valZ (aB l) i = (num (aB l) i : Int) - (b2n (aB l (i - 1)) : Int) * 2 ^ i := rfl
  have hsub : IntKind.i64.wrap ((num (aB l) i : Int) - 2 ^ i) = (num (aB l) i : Int) - 2 ^ i := i64_id (by omega) (by omega)
  cases hb : aB l (i - 1)
  ·rw [hb] at hv
   refine zY (aN hE (aN hE4 (aN ci (aN ht (aN c2 (aN c3 (aN hd hb))))))) ?_
   rw [hv]; simp [b2n]
  ·rw [hb] at hv
   refine zY (aN hE (aN hE4 (aN ci (aN ht (aN c2 (aN c3 (aN hd (aN hb (aN hsh hsub))))))))) ?_
   rw [hv]; simp [b2n]
theorem chan_ok {s : Store} {r : Nat} {l : List Bool} {c : Ch} {src : Nat -> Prop} (hr : Rdq s r l src) (hsr : ¬ src r) (hlt : ∀ i, src i -> i < s.next) (h1 : 1 <= c.room) (h2 : c.room <= 3) (h3 : 1 <= c.width) (h4 : c.width <= 8) (hl : 2 + c.room.toNat * c.width.toNat <= l.length) :
 EvP vfs 62 [.ptr r 0, .agg [.str c.name, .int .i64 c.room, .int .i64 c.width, .bool c.lossy, .bool c.copying]] s fun d s' => (∃ dl b E, d = .tup [dl, .bool b] /\ Rp dl 1 (rowsZ (decK c.width.toNat (num (aB l) 2) c.room.toNat (l.drop 2)).1) E /\ Has s' E /\ (∀ e ∈ E, s.next <= e.1) /\ b = ((decide ((num (aB l) 2 : Int) <= c.room)) && (decK c.width.toNat (num (aB l) 2) c.room.toNat (l.drop 2)).2.1) /\ Rdq s' r (decK c.width.toNat (num (aB l) 2) c.room.toNat (l.drop 2)).2.2 src) /\ Fr [r] s s' := by
 have hrl := get_lts hr.choose_spec.1
 refine yevp (vf := vf62) rfl ?_
 unfold vf62; refine zF ?_
 refine zY0 ?_
 have hr0 : Rdq (s.push (.cells [.str c.name, .int .i64 c.room, .int .i64 c.width, .bool c.lossy, .bool c.copying])) r l src := hr.fr (Fr.push (ids := []) _) (by simp) (by simp)
 have hru := runs_ok (w := 2) hr0 hsr (by omega) (by decide)
 refine xq_evp hru rfl ?_
 rintro d s1 ⟨⟨rfl, hr1⟩, fr1⟩
 have gc := fr1.2 s.next (by simp) (by simp; omega)
 rw [get_push_new rfl] at gc
 have fr1 : Fr [r] s s1 := (Fr.push _).trans fr1 (by simp)
 refine zY gc ?_
 generalize hn : num (aB l) 2 = n at *
 generalize hw : c.width.toNat = w at *
 have hwl : (c.width : Int) = (w : Int) := by omega
 refine yw_up [0, 1, 3, 4, 5, 6, 18] 0 c.room.toNat (fun k f s' => f 19 = .int .i64 (k : Int) /\ f 7 = .bool (decide ((n : Int) <= c.room) && (decK w n k (l.drop 2)).2.1) /\ s.next < s'.next /\ Fr [r] s s' /\ Rdq s' r (decK w n k (l.drop 2)).2.2 src /\ s'.get s.next = some (.cells [.str c.name, .int .i64 c.room, .int .i64 c.width, .bool c.lossy, .bool c.copying]) /\ ∃ E, GrZ (s.next + 1) s' [] (f 8) (decK w n k (l.drop 2)).1 E) (.mk rfl) (by omega) ⟨rfl, ?_, get_lts gc, fr1, hr1, gc, [], .inl ⟨rfl, rfl, rfl⟩, ⟨List.nodup_nil, by simp, by simp [Has], by simp [Has]⟩, by simp⟩ ?_
 ·show D.bool _ = D.bool _
  simp [decK]
 clear gc hr1 fr1 hr0 hru hr
 rintro k f s' hk ⟨hE, hE7, hnx, fr, hr, gc, E, hg⟩
 have er : ((k : Int) < c.room) = (k < c.room.toNat) := by apply propext; omega
 have on := hg.rp.one
 by_cases ck : k < c.room.toNat
 rotate_left
 ·obtain rfl : k = c.room.toNat := by omega
  refine zY (aN hE (aN hE7 (aN er (aN ck on)))) ?_
  exact ⟨⟨_, _, E, rfl, hg.rp, hg.hp.w, fun e he => by have := hg.nw e he; omega, rfl, hr⟩, fr⟩
 have hdl : w <= (decK w n k (l.drop 2)).2.2.length := by
  rw [decK_drop, List.length_drop, List.length_drop]
  have : (k + 1) * w <= c.room.toNat * w := Nat.mul_le_mul_right _ (by omega)
  rw [Nat.succ_mul] at this
  omega
 have ht := take_ok (w := w) hr hsr hdl
 rw [<- hwl] at ht
 have hl3 := decK_len w n k (l.drop 2)
 refine zY (aN hE (aN hE7 (aN er (aN ck gc)))) ?_
 refine xq_evp ht rfl ?_
 rintro d s2 ⟨⟨hd, hdq, hr2⟩, fr2⟩
 obtain ⟨db, f1, f2⟩ := hd.frz 18
 have hic : ∀ l, mapO (V.ice s2.get 20) (d :: l) = (mapO (V.ice s2.get 20) l).map (db :: ·) := fun l => ic_ice f1
 have hv := value_bc (w := w) f2 (by simp; omega) (by omega) (by omega)
 rw [val_take (by omega)] at hv
 have gc2 := fr2.2 s.next hnx (by simp; omega)
 rw [gc] at gc2
 have hg2 := hg.fr fr2 (by intro i hi; simp only [List.mem_singleton] at hi; omega) (by simp)
 have fr3 := fr.trans fr2 (by simp)
 have hn2 := fr2.1
 have hs := decK_succ w n k (l.drop 2)
 by_cases c1 : k < n
 ·rw [if_pos c1] at hs
  simp (disch := (first|exact Rf.mk rfl|with_reducible assumption|omega|((repeat (first|rw [nP]|rw [nS]|rw [nx_empty]))<;>omega)|decide)) only [go_sem, ↓reduceIte, hE, hv, hic, Bool.true_or, c1, ck]
  refine bm_grZ hg2 (by omega) (by omega) ?_
  intro d3 s3 E3 hg3 hn3 hk3
  have gc3 : s3.get s.next = some (.cells [.str c.name, .int .i64 c.room, .int .i64 c.width, .bool c.lossy, .bool c.copying]) := by rw [hk3 _ (by omega), gc2]
  have hr3 : Rdq s3 r ((decK w n k (l.drop 2)).2.2.drop w) src := by
   obtain ⟨d, g, k, q⟩ := hr2
   refine ⟨d, by rw [hk3 r (by omega), g], k.stay fun id off len e => hk3 id ?_, q⟩
   have := hlt id (q id off len e)
   omega
  have fr4 : Fr [r] s s3 := ⟨by omega, fun j hj hjn => by rw [hk3 j (by omega), fr3.2 j hj hjn]⟩
  refine zY (aN hE ck) ?_
  rw [hs]
  exact ⟨rfl, by omega, fr4, hr3, gc3, E3, hg3⟩
 ·rw [if_neg c1] at hs
  by_cases c2 : valZ (aB (decK w n k (l.drop 2)).2.2) w = 0
  ·simp (disch := (first|exact Rf.mk rfl|with_reducible assumption|omega|((repeat (first|rw [nP]|rw [nS]|rw [nx_empty]))<;>omega)|decide)) only [go_sem, ↓reduceIte, hE, hv, hic, Bool.true_or, c1, c2, ck]
   rw [hs]
   exact ⟨by simp [c2], by omega, fr3, hr2, gc2, E, hg2⟩
  ·simp (disch := (first|exact Rf.mk rfl|with_reducible assumption|omega|((repeat (first|rw [nP]|rw [nS]|rw [nx_empty]))<;>omega)|decide)) only [go_sem, ↓reduceIte, hE, hv, hic, Bool.true_or, c1, c2, ck]
   rw [hs]
   exact ⟨by simp [c2], by omega, fr3, hr2, gc2, E, hg2⟩
end Go.Proofs.Ytlaeblilmppodaa
namespace Go.Proofs.Ytlaeblilmppodaa
open Go.V
set_option maxRecDepth 100000
set_option maxHeartbeats 4000000
variable {m : MdX} {mo : Mo} {ps : List (Pr × PrD)} {x : StD} {st : Stt}
def UnS (mo : Mo) (bs : List Bool) (r : D) (s : Store) : Prop := (mo.unpack bs = none /\ r = .tup [.agg [.nils, .nils, .nils, .int .i64 0], .bool false]) ∨ ∃ st cs, mo.unpack bs = some st /\ r = .tup [.agg cs, .bool true] /\ SttR s cs st
theorem unpack_ok (hm : MoF m mo ps) (ho : MoOk mo) (hf : MoFi mo) {s0 : Store} {d : D} {bs : List Bool} (hd : RdB s0 d bs) : EvP vfs 30 [.agg [m.dt, .int .i64 m.g, m.dc, m.dv, m.dp, m.ds, .bool m.b], d] s0 fun r s' => ((bs.length ≠ mo.nbits /\ r = .tup [.agg [.nils, .nils, .nils, .int .i64 0], .bool false]) ∨ (bs.length = mo.nbits /\ UnS mo bs r s')) /\ Fr [] s0 s' := by
 have om := hm.ones
 have hmv := hm.v
 have hmc := hm.c
 have hnp := ho.np
 have hnv := ho.nv
 have hnc := ho.nc
 have fm := pz_mo hm
 have hnb := nbits_bc hm ho hf
 have od := hd.one
 have hln := hd.len
 by_cases hb : bs.length = mo.nbits
 rotate_left
 ·refine yevp (vf := vf30) rfl ?_
  unfold vf30; refine zF ?_
  refine zY (aN om (aN fm (aN hnb (aN hln (aN od hb))))) ?_
  exact ⟨.inl ⟨hb, rfl⟩, ((Fr.push (ids := []) _).trans (Fr.push (ids := []) _) (by simp)).thenSet _ (.inr (by simp))⟩
 have hbl := szP_le ho mo.procs.length
 have hbv := szV_le ho hf mo.vars.length
 have hbc := szC_le ho hf mo.chans.length
 rw [List.take_length] at hbl hbv hbc
 have hnbe : mo.nbits = szL (fun p : Pr => wid (p.places : Int)) mo.procs + szL (fun v : Vr => v.width.toNat) mo.vars + szL (fun c : Ch => 2 + c.room.toNat * c.width.toNat) mo.chans + 3 := rfl
 refine yevp (vf := vf30) rfl ?_
 unfold vf30; refine zF ?_
 refine zY (aN om (aN fm (aN hnb (aN hln (aN hb od))))) ?_
 have hu0 : UnN s0.next [m.dt, .int .i64 m.g, m.dc, m.dv, m.dp, m.ds, .bool m.b] s0 ((((s0.push (.cells [m.dt, .int .i64 m.g, m.dc, m.dv, m.dp, m.ds, .bool m.b])).push (.cells [.nils, .nils, .nils, .int .i64 0])).push (.cells [d])).push (.cells [.nils, .nils, .nils, .int .i64 0])) .nils .nils .nils [] := ⟨⟨by simp, by simp, by
  intro y hy
  simp only [List.mem_cons, List.not_mem_nil, or_false] at hy
  rcases hy with rfl | rfl
  ·exact zZ0
  ·simp (disch := (first|exact Rf.mk rfl|with_reducible assumption|omega|((repeat (first|rw [nP]|rw [nS]|rw [nx_empty]))<;>omega)|decide)) only [go_sem, ↓reduceIte], by
  intro y hy
  simp only [List.mem_cons, List.not_mem_nil, or_false] at hy
  subst hy
  simp (disch := (first|exact Rf.mk rfl|with_reducible assumption|omega|((repeat (first|rw [nP]|rw [nS]|rw [nx_empty]))<;>omega)|decide)) only [go_sem, ↓reduceIte]⟩, by simp, fun j hj => by rw [get_push_old (by first | omega | (simp; omega)), get_push_old (by first | omega | (simp; omega)), get_push_old (by first | omega | (simp; omega)), get_push_old (by first | omega | (simp; omega))]⟩
 have hr0 : Rdq ((((s0.push (.cells [m.dt, .int .i64 m.g, m.dc, m.dv, m.dp, m.ds, .bool m.b])).push (.cells [.nils, .nils, .nils, .int .i64 0])).push (.cells [d])).push (.cells [.nils, .nils, .nils, .int .i64 0])) (s0.next + 2) bs (fun i => i < s0.next) := ⟨d, by simp (disch := (first|exact Rf.mk rfl|with_reducible assumption|omega|((repeat (first|rw [nP]|rw [nS]|rw [nx_empty]))<;>omega)|decide)) only [go_sem, ↓reduceIte], hd.stay fun id off len e => by
  have := hd.lt id off len e
  rw [get_push_old (by first | omega | (simp; omega)), get_push_old (by first | omega | (simp; omega)), get_push_old (by first | omega | (simp; omega)), get_push_old (by first | omega | (simp; omega))], hd.lt⟩
 generalize (((s0.push (.cells [m.dt, .int .i64 m.g, m.dc, m.dv, m.dp, m.ds, .bool m.b])).push (.cells [.nils, .nils, .nils, .int .i64 0])).push (.cells [d])).push (.cells [.nils, .nils, .nils, .int .i64 0]) = s1 at *
 have hfr : ∀ {s' dA dV dC W}, UnN s0.next [m.dt, .int .i64 m.g, m.dc, m.dv, m.dp, m.ds, .bool m.b] s0 s' dA dV dC W -> Fr [] s0 s' := fun h => ⟨by have := h.lt; omega, fun j hj _ => h.old j hj⟩
 generalize hn : s0.next = n at *
 refine yw_up [0, 1, 2, 4, 6, 7, 12, 14, 15, 16, 21, 27, 28, 51, 52, 53, 54, 69, 70, 71, 72, 82, 100] 0 mo.procs.length (fun i f s => f 29 = .int .i64 (i : Int) /\ f 5 = .bool false /\ ∃ o rest dA EA, decL decP (mo.procs.take i) bs = some (o, rest) /\ rest.length + szL (fun p : Pr => wid (p.places : Int)) (mo.procs.take i) = mo.nbits /\ Rp dA 1 (rowsN o) EA /\ UnN n [m.dt, .int .i64 m.g, m.dc, m.dv, m.dp, m.ds, .bool m.b] s0 s dA .nils .nils EA /\ Rdq s (n + 2) rest (fun i => i < n) /\ o.length = i) (.mk rfl) (by omega) ⟨rfl, rfl, [], bs, .nils, [], rfl, by rw [hb]; rfl, .inl ⟨rfl, rfl, rfl⟩, hu0, hr0, rfl⟩ ?_
 clear hu0 hr0
 rintro i f s hi ⟨hE, hE5, o, rest, dA, EA, hdec, hlen, hrp, hu, hr, hol⟩
 have g0 := hu.hp.r (n, [m.dt, .int .i64 m.g, m.dc, m.dv, m.dp, m.ds, .bool m.b]) (by simp)
 have g3 := hu.hp.w (n + 3, [dA, .nils, .nils, .int .i64 0]) (by simp)
 have oA := hrp.one
 have hlt := hu.lt
 by_cases ci : i < mo.procs.length
 ·have hwd := width_bc (n := ((pAt mo.procs i).places : Int))
  have hin := wid_in ((pAt mo.procs i).places : Int)
  have hss := szP_succ ci
  have hsi := szL_mono (fun p : Pr => wid (p.places : Int)) mo.procs (i + 1)
  have hds := decL_step ci hdec
  rw [<- pAt_get ci] at hds
  refine zY (aN hE (aN ci (aN g0 (aN om hwd)))) ?_
  have hb2 := fr_box (s := s) (z := .cells [.str (V.bs []), .int .i64 0, .nils, .int .i64 0, .nils, .nils, .nils, .nils]) (o := .cells [.str (pAt mo.procs i).name, .int .i64 ((pAt mo.procs i).copy : Int), (prX ps i).dl, .int .i64 ((pAt mo.procs i).places : Int), (prX ps i).dr, (prX ps i).de, (prX ps i).dn, (prX ps i).dv])
  have hru := runs_ok (hr.fr hb2 (by simp) (by simp)) (by simp) (w := wid ((pAt mo.procs i).places : Int)) (by omega) hin.2
  refine xq_evp hru rfl ?_
  rintro r s2 ⟨⟨rfl, hr2⟩, fr2⟩
  have hu2 := (hu.fr hb2 (by simp)).fr fr2 (by simp)
  have k3 := hu2.hp.w (n + 3, [dA, .nils, .nils, .int .i64 0]) (by simp)
  have k1 := hu2.hp.w (n + 1, [.nils, .nils, .nils, .int .i64 0]) (by simp)
  have kb := fr2.2 s.next (by simp) (by simp; omega)
  rw [get_set_eq (by simp)] at kb
  have hl2 := hu2.lt
  by_cases cn : num (aB rest) (wid ((pAt mo.procs i).places : Int)) < (pAt mo.procs i).places
  ·have cn' : ¬ (pAt mo.procs i).places <= num (aB rest) (wid ((pAt mo.procs i).places : Int)) := by omega
   have hdp : decP (pAt mo.procs i) rest = some (num (aB rest) (wid ((pAt mo.procs i).places : Int)), rest.drop (wid ((pAt mo.procs i).places : Int))) := by unfold decP; rw [if_pos cn]
   rw [hdp] at hds
   refine zY (aN kb (aN k3 (aN oA cn'))) ?_
   refine bm_unn (A := []) (B := []) (E := EA) (by simpa using hu2) hr2 (fun _ h => h) hrp rfl (fun r hr => ?_) (by decide) (by simp; omega) ?_
   ·obtain ⟨x, _, rfl⟩ := List.mem_map.1 hr; rfl
   intro d' s3 E' hrp3 hu3 hr3 hset
   have q3 := hu3.hp.w (n + 3, [dA, .nils, .nils, .int .i64 0]) (by simp)
   have o3 := hrp3.one
   refine zY (aN q3 (aN o3 (aN hE ci))) ?_
   have hw := hset d' .nils .nils
   refine ⟨hE5, _, _, d', E', hds, ?_, ?_, ?_, hw.2, by simp [hol]⟩
   ·rw [List.length_drop, hss]; omega
   ·rw [show rowsN (o ++ [num (aB rest) (wid ((pAt mo.procs i).places : Int))]) = rowsN o ++ [[.int .i64 (num (aB rest) (wid ((pAt mo.procs i).places : Int)) : Int)]] by simp [rowsN]]; exact hrp3
   ·simpa using hw.1
  ·have cn' : (pAt mo.procs i).places <= num (aB rest) (wid ((pAt mo.procs i).places : Int)) := by omega
   have hdp : decP (pAt mo.procs i) rest = none := by unfold decP; rw [if_neg cn]
   rw [hdp] at hds
   have hnone : mo.unpack bs = none := by unfold Mo.unpack; rw [decL_none hds]
   refine zY (aN kb (aN k1 cn')) ?_
   exact ⟨.inr (.inl ⟨hnone, rfl⟩), (hfr hu2).thenSet _ (.inr (by omega))⟩
 obtain rfl : i = mo.procs.length := by omega
 rw [List.take_length] at hdec hlen
 refine zY (aN hE (aN ci (aN g0 om))) ?_
 have e0 : mo.unpack bs = match decL decV mo.vars rest with
  | some (v, r2) => (match decL decC mo.chans r2 with
    | some (c, r3) => if (num (aB r3) 3 : Int) - 1 < (mo.procs.length : Int) then some ⟨o, v, c, (num (aB r3) 3 : Int) - 1⟩ else none
    | none => none)
  | none => none := by unfold Mo.unpack; rw [hdec] <;> rfl
 clear hdec
 refine yw_up [0, 1, 2, 4, 5, 6, 7, 9, 10, 14, 15, 16, 21, 27, 28, 29, 30, 41, 51, 52, 69, 70, 71, 72, 82, 100] 0 mo.vars.length (fun i f s => f 53 = .int .i64 (i : Int) /\ True /\ ∃ v rest2 dV EV, decL decV (mo.vars.take i) rest = some (v, rest2) /\ rest2.length + szL (fun p : Pr => wid (p.places : Int)) mo.procs + szL (fun v : Vr => v.width.toNat) (mo.vars.take i) = mo.nbits /\ Rp dV 1 (rowsZ v) EV /\ UnN n [m.dt, .int .i64 m.g, m.dc, m.dv, m.dp, m.ds, .bool m.b] s0 s dA dV .nils (EA ++ EV) /\ Rdq s (n + 2) rest2 (fun i => i < n) /\ v.length = i) (.mk rfl) (by omega) ⟨rfl, trivial, [], rest, .nils, [], rfl, by rw [<- hlen]; rfl, .inl ⟨rfl, rfl, rfl⟩, by rw [List.append_nil]; exact hu, hr, rfl⟩ ?_
 clear hr hE ci hi hlt g0 g3 hlen hu
 rintro i f s hi ⟨hE, -, v, rest2, dV, EV, hdec, hlen, hrv, hu, hr, hvl⟩
 have g0 := hu.hp.r (n, [m.dt, .int .i64 m.g, m.dc, m.dv, m.dp, m.ds, .bool m.b]) (by simp)
 have g3 := hu.hp.w (n + 3, [dA, dV, .nils, .int .i64 0]) (by simp)
 have oV := hrv.one
 have hlt := hu.lt
 by_cases ci : i < mo.vars.length
 ·have hw := hf.vr _ (vAt_mem ci)
  have hss := szV_succ ci
  have hsi := szL_mono (fun v : Vr => v.width.toNat) mo.vars (i + 1)
  have hds := decL_step ci hdec
  rw [<- vAt_get ci] at hds
  unfold decV at hds
  simp only at hds
  have hb2 := fr_box (s := s) (z := .cells [.str (V.bs []), .int .i64 0, .int .i64 0]) (o := .cells [.str (vAt mo.vars i).name, .int .i64 (vAt mo.vars i).width, .int .i64 (vAt mo.vars i).value])
  have ht := take_ok (hr.fr hb2 (by simp) (by simp)) (by simp) (w := (vAt mo.vars i).width.toNat) (by omega)
  rw [Int.toNat_of_nonneg (by omega : 0 <= (vAt mo.vars i).width)] at ht
  refine zY (aN hE (aN ci (aN g0 (aN g3 (aN om oV))))) ?_
  refine wx_evpI [n + 2] rfl ht rfl ?_ ?_
  ·intro e he hpr id hid
   simp only [List.mem_cons, List.not_mem_nil, or_false] at he
   rw [Store.next_set, Store.next_push]
   rcases he with rfl | rfl <;> simp only [Option.some.injEq] at hid <;> subst hid
   ·exact ⟨by omega, by simp; omega⟩
   ·exact ⟨by omega, by simp⟩
  rintro dt s2 ⟨hdt, hdq, hr2⟩ fr2
  obtain ⟨db, f1, f2⟩ := hdt.frz 18
  have hic : ∀ l, mapO (V.ice s2.get 20) (dt :: l) = (mapO (V.ice s2.get 20) l).map (db :: ·) := fun l => ic_ice f1
  have hv := value_bc (w := (vAt mo.vars i).width.toNat) f2 (by simp; omega) (by omega) (by omega)
  rw [val_take (by omega)] at hv
  have hu2 := (hu.fr hb2 (by simp)).fr fr2 (by simp)
  simp (disch := (first|exact Rf.mk rfl|with_reducible assumption|omega|((repeat (first|rw [nP]|rw [nS]|rw [nx_empty]))<;>omega)|decide)) only [go_sem, ↓reduceIte, hv, hic, Bool.true_or]
  refine mx_unn (A := EA) (B := []) (E := EV) (by simpa using hu2) hr2 (fun _ h => h) hrv rfl (fun r hr => ?_) (by decide) (by simp; omega) ?_ ?_
  ·obtain ⟨x, _, rfl⟩ := List.mem_map.1 hr; rfl
  ·exact ⟨fun h => absurd (show hasP [(1, 5), (1, 6)] 7 8 = true from h) (by decide), fun h => absurd (show hasP [(1, 5), (1, 6)] 5 8 = true from h) (by decide), fun h => absurd (show hasP [(1, 5), (1, 6)] 4 8 = true from h) (by decide), fun h => absurd (show hasP [(1, 5), (1, 6)] 1 8 = true from h) (by decide), trivial⟩
  intro d' s3 E' hrp3 hu3 hr3 hset
  have q3 := hu3.hp.w (n + 3, [dA, dV, .nils, .int .i64 0]) (by simp)
  have o3 := hrp3.one
  refine zY (aN q3 (aN o3 (aN hE ci))) ?_
  have hww := hset dA d' .nils
  refine ⟨_, _, d', E', hds, ?_, ?_, by simpa using hww.1, hww.2, by simp [hvl]⟩
  ·rw [List.length_drop, hss]; omega
  ·rw [show rowsZ (v ++ [valZ (aB rest2) (vAt mo.vars i).width.toNat]) = rowsZ v ++ [[.int .i64 (valZ (aB rest2) (vAt mo.vars i).width.toNat)]] by simp [rowsZ]]; exact hrp3
 obtain rfl : i = mo.vars.length := by omega
 rw [List.take_length] at hdec hlen
 rw [hdec] at e0
 simp only at e0
 refine zY (aN hE (aN ci (aN g0 om))) ?_
 clear hdec
 refine yw_up [0, 1, 2, 4, 6, 7, 9, 10, 12, 21, 27, 28, 29, 30, 41, 51, 52, 53, 54, 69, 70, 100] 0 mo.chans.length (fun i f s => f 71 = .int .i64 (i : Int) /\ f 5 = .bool false /\ ∃ c rest3 dC EC qs W, decL decC (mo.chans.take i) rest2 = some (c, rest3) /\ rest3.length + szL (fun p : Pr => wid (p.places : Int)) mo.procs + szL (fun v : Vr => v.width.toNat) mo.vars + szL (fun c : Ch => 2 + c.room.toNat * c.width.toNat) (mo.chans.take i) = mo.nbits /\ Rp dC 1 (qs.map fun q => [q]) EC /\ UnN n [m.dt, .int .i64 m.g, m.dc, m.dv, m.dp, m.ds, .bool m.b] s0 s dA dV dC (EA ++ EV ++ W ++ EC) /\ Rdq s (n + 2) rest3 (fun i => i < n) /\ c.length = i /\ qs.length = i /\ ∀ j, j < i -> ∃ E, Rp (dAt qs j) 1 (rowsZ (cAt c j)) E /\ ∀ e ∈ E, e ∈ W) (.mk rfl) (by omega) ⟨rfl, hE5, [], rest2, .nils, [], [], [], rfl, by rw [<- hlen]; rfl, .inl ⟨rfl, rfl, rfl⟩, by simpa using hu, hr, rfl, rfl, fun j h => by omega⟩ ?_
 clear hr hE ci hi hlt g0 g3 hlen hu hE5
 rintro i f s hi ⟨hE, hE5, c, rest3, dC, EC, qs, W, hdec, hlen, hrc, hu, hr, hcl, hql, hq⟩
 have g0 := hu.hp.r (n, [m.dt, .int .i64 m.g, m.dc, m.dv, m.dp, m.ds, .bool m.b]) (by simp)
 have g3 := hu.hp.w (n + 3, [dA, dV, dC, .int .i64 0]) (by simp)
 have g1 := hu.hp.w (n + 1, [.nils, .nils, .nils, .int .i64 0]) (by simp)
 have oC := hrc.one
 have hlt := hu.lt
 by_cases ci : i < mo.chans.length
 ·have hw := hf.ch _ (chAt_mem ci)
  have hss := szC_succ ci
  have hsi := szL_mono (fun c : Ch => 2 + c.room.toNat * c.width.toNat) mo.chans (i + 1)
  have hds := decL_step ci hdec
  rw [<- chAt_get ci] at hds
  have hb2 := fr_box (s := s) (z := .cells [.str (V.bs []), .int .i64 0, .int .i64 0, .bool false, .bool false]) (o := .cells [.str (chAt mo.chans i).name, .int .i64 (chAt mo.chans i).room, .int .i64 (chAt mo.chans i).width, .bool (chAt mo.chans i).lossy, .bool (chAt mo.chans i).copying])
  have hch := chan_ok (hr.fr hb2 (by simp) (by simp)) (by simp) (fun i hi => by simp; omega) (c := chAt mo.chans i) hw.1 hw.2.1 hw.2.2.1 hw.2.2.2 (by omega)
  refine zY (aN hE (aN ci (aN g0 om))) ?_
  refine xq_evp hch rfl ?_
  rintro dr s2 ⟨⟨dl, b, E, rfl, hrl, hhe, hne, hbe, hr2⟩, fr2⟩
  have hu2 := (hu.fr hb2 (by simp)).fr fr2 (by simp)
  have k3 := hu2.hp.w (n + 3, [dA, dV, dC, .int .i64 0]) (by simp)
  have k1 := hu2.hp.w (n + 1, [.nils, .nils, .nils, .int .i64 0]) (by simp)
  have ol := hrl.one
  have l1 := get_lts k1
  by_cases cb : b = true
  ·subst cb
   have hdc : decC (chAt mo.chans i) rest3 = some ((decK (chAt mo.chans i).width.toNat (num (aB rest3) 2) (chAt mo.chans i).room.toNat (rest3.drop 2)).1, (decK (chAt mo.chans i).width.toNat (num (aB rest3) 2) (chAt mo.chans i).room.toNat (rest3.drop 2)).2.2) := by
    unfold decC
    simp only
    have := hbe.symm
    rw [Bool.and_eq_true, decide_eq_true_eq] at this
    rw [if_pos this]
   rw [hdc] at hds
   have hu3 := UnN.more (A := EA ++ EV ++ W) (B := EC) (by simpa using hu2) hrl hhe s.next (fun e he => by have := hne e he; simp at this; omega) hlt (fun w hw => get_lts (hu.hp.w w (by simp only [List.mem_cons]; exact .inr (.inr (by simpa using hw)))))
   refine zY (aN k3 (aN oC ol)) ?_
   refine bm_unn (A := EA ++ EV ++ (W ++ E)) (B := []) (E := EC) (by simpa using hu3) hr2 (fun _ h => h) hrc rfl (fun r hr => ?_) (by decide) (by simp; omega) ?_
   ·obtain ⟨x, _, rfl⟩ := List.mem_map.1 hr; rfl
   intro d' s3 E' hrp3 hu4 hr3 hset
   have q3 := hu4.hp.w (n + 3, [dA, dV, dC, .int .i64 0]) (by simp)
   have o3 := hrp3.one
   refine zY (aN q3 (aN o3 (aN hE ci))) ?_
   have hww := hset dA dV d'
   refine ⟨hE5, _, _, d', E', qs ++ [dl], W ++ E, hds, ?_, by simpa using hrp3, by simpa using hww.1, hww.2, by simp [hcl], by simp [hql], fun j hj => ?_⟩
   ·rw [decK_drop, List.length_drop, List.length_drop, hss]; omega
   ·rw [dAt_snoc, cAt_snoc, hql, hcl]
    by_cases ej : j = i
    ·rw [if_pos ej, if_pos ej]
     exact ⟨E, hrl, fun e he => by simp [he]⟩
    ·rw [if_neg ej, if_neg ej]
     obtain ⟨E0, z1, z2⟩ := hq j (by omega)
     exact ⟨E0, z1, fun e he => by simp [z2 e he]⟩
  ·have cb : b = false := by simpa using cb
   subst cb
   have hdc : decC (chAt mo.chans i) rest3 = none := by
    unfold decC
    simp only
    rw [if_neg]
    rintro ⟨q1, q2⟩
    rw [q2, Bool.and_true] at hbe
    exact absurd q1 (of_decide_eq_false hbe.symm)
   rw [hdc] at hds
   have hnone : mo.unpack bs = none := by rw [e0, decL_none hds]
   refine zY k1 ?_
   exact ⟨.inr (.inl ⟨hnone, rfl⟩), (hfr hu2).thenSet _ (.inr (by omega))⟩
 obtain rfl : i = mo.chans.length := by omega
 rw [List.take_length] at hdec hlen
 rw [hdec] at e0
 simp only at e0
 have hru := runs_ok hr (by simp) (w := 3) (by omega) (by decide)
 refine zY (aN hE (aN ci (aN g0 om))) ?_
 refine xq_evp hru rfl ?_
 rintro r s2 ⟨⟨rfl, hr2⟩, fr2⟩
 have hu2 := hu.fr fr2 (by simp)
 have k3 := hu2.hp.w (n + 3, [dA, dV, dC, .int .i64 0]) (by simp)
 have k1 := hu2.hp.w (n + 1, [.nils, .nils, .nils, .int .i64 0]) (by simp)
 have l1 := get_lts k1
 have l3 := get_lts k3
 have k0 := hu2.hp.r (n, [m.dt, .int .i64 m.g, m.dc, m.dv, m.dp, m.ds, .bool m.b]) (by simp)
 have hn8 := num_lt (aB rest3) 3
 have e8 : IntKind.i64.wrap ((num (aB rest3) 3 : Int) - 1) = (num (aB rest3) 3 : Int) - 1 := i64_id (by omega) (by omega)
 have hfS : Fr [] s0 ((s2.set (n + 3) (some (.cells [dA, dV, dC, .int .i64 ((num (aB rest3) 3 : Int) - 1)]))).set (n + 1) (some (.cells [dA, dV, dC, .int .i64 ((num (aB rest3) 3 : Int) - 1)]))) := ⟨(hfr hu2).1, fun j hj _ => by rw [get_set_ne (by omega), get_set_ne (by omega)]; exact (hfr hu2).2 j hj (by simp)⟩
 by_cases ch : (num (aB rest3) 3 : Int) - 1 < (mo.procs.length : Int)
 ·have ch' : ¬ (mo.procs.length : Int) <= (num (aB rest3) 3 : Int) - 1 := by omega
  rw [if_pos ch] at e0
  have hp3 := Hp.set (A := []) hu2.hp [dA, dV, dC, .int .i64 ((num (aB rest3) 3 : Int) - 1)]
  have hp4 := Hp.set (A := [(n + 3, [dA, dV, dC, .int .i64 ((num (aB rest3) 3 : Int) - 1)])]) hp3 [dA, dV, dC, .int .i64 ((num (aB rest3) 3 : Int) - 1)]
  simp (disch := (first|exact Rf.mk rfl|with_reducible assumption|omega|((repeat (first|rw [nP]|rw [nS]|rw [nx_empty]))<;>omega)|decide)) only [go_sem, ↓reduceIte, k3, k0, k1, om, e8, ch', oA, oV, oC]
  generalize (s2.set (n + 3) (some (.cells [dA, dV, dC, .int .i64 ((num (aB rest3) 3 : Int) - 1)]))).set (n + 1) (some (.cells [dA, dV, dC, .int .i64 ((num (aB rest3) 3 : Int) - 1)])) = S at *
  have hsR : SttR S [dA, dV, dC, .int .i64 ((num (aB rest3) 3 : Int) - 1)] ⟨o, v, c, (num (aB rest3) 3 : Int) - 1⟩ := SttR.mk (st := ⟨o, v, c, (num (aB rest3) 3 : Int) - 1⟩) qs (hrp.sn fun e he => hp4.w e (by simp [he])) (hrv.sn fun e he => hp4.w e (by simp [he])) (hrc.sn fun e he => hp4.w e (by simp [he])) (rp_nil_or hrc) (by rw [hql, hcl]) fun j hj => by
   obtain ⟨E0, z1, z2⟩ := hq j (by omega)
   exact z1.chr fun e he => hp4.w e (by simp [z2 e he])
  exact ⟨.inr (.inr ⟨_, _, e0, rfl, hsR⟩), hfS⟩
 ·have ch' : (mo.procs.length : Int) <= (num (aB rest3) 3 : Int) - 1 := by omega
  rw [if_neg ch] at e0
  simp (disch := (first|exact Rf.mk rfl|with_reducible assumption|omega|((repeat (first|rw [nP]|rw [nS]|rw [nx_empty]))<;>omega)|decide)) only [go_sem, ↓reduceIte, k3, k0, k1, om, e8, ch']
  exact ⟨.inr (.inl ⟨e0, rfl⟩), ((hfr hu2).thenSet _ (.inr (by omega))).thenSet _ (.inr (by omega))⟩
end Go.Proofs.Ytlaeblilmppodaa
namespace Go.Proofs.Ytlaeblilmppodaa
open Go.V
set_option maxRecDepth 100000
set_option maxHeartbeats 4000000
variable {m : MdX} {mo : Mo} {ps : List (Pr × PrD)} {x : StD} {st : Stt}
theorem ints_n {da db : D} {a b : List Nat} (ha : FL 1 da (rowsN a)) (hb : FL 1 db (rowsN b)) (hl : a.length <= 1000000) : Eqc vfs 49 [da, db] (.bool (decide (a = b))) := by
 have e : ∀ l : List Nat, rowsN l = (l.map fun (n : Nat) => (n : Int)).map fun n => [.int .i64 n] := fun l => by simp [rowsN]
 rw [e] at ha hb
 have h := ints_bc (a := a.map fun (n : Nat) => (n : Int)) (b := b.map fun (n : Nat) => (n : Int)) ha hb (by simpa using hl)
 have e2 : decide ((a.map fun (n : Nat) => (n : Int)) = b.map fun (n : Nat) => (n : Int)) = decide (a = b) := by
  congr 1
  apply propext
  constructor
  ·intro h
   exact List.map_inj_right (f := fun (n : Nat) => (n : Int)) (fun x y h => by omega) |>.1 h
  ·intro h; rw [h]
 rwa [e2] at h
theorem same_bc {x' : StD} {st' : Stt} (hx : StF x st) (hx' : StF x' st') (h1 : st.at'.length <= 1000) (h2 : st.vars.length <= 1000) (h3 : ∀ l ∈ st.chans, l.length <= 1000) (h4 : st.chans.length <= 1000) : Eqc vfs 22 [.agg [x.da, x.dv, x.dc, .int .i64 st.hold], .agg [x'.da, x'.dv, x'.dc, .int .i64 st'.hold]] (.bool (decide (st = st'))) := by
 refine bc_of ?_
 have ox := hx.ones
 have ox' := hx'.ones
 have p1 := hx.a.pz
 have p2 := hx'.a.pz
 have p3 := pz_i hx.v
 have p4 := pz_i hx'.v
 have i1 := ints_n hx.a hx'.a (by omega)
 have i2 := ints_bc hx.v hx'.v (by omega)
 refine yiso (vf := vf22) rfl ?_
 unfold vf22; refine zF ?_
 refine zY (aN ox (aN ox' (aN i1 i2))) ?_
 repeat' (first|(refine cw_sp (fun c => ?_) (fun c => ?_) <;> (try simp only [cnd_1, cnd_2, cnd_3, cnd_4] at c) <;> simp (disch := (first|exact Rf.mk rfl|with_reducible assumption|omega|((repeat (first|rw [nP]|rw [nS]|rw [nx_empty]))<;>omega)|decide)) only [go_sem, ↓reduceIte, ox, ox', i1, i2, c])|(refine gw_sp (fun c => ?_) (fun c => ?_) <;> (try simp only [cnd_1, cnd_2, cnd_3, cnd_4] at c) <;> simp (disch := (first|exact Rf.mk rfl|with_reducible assumption|omega|((repeat (first|rw [nP]|rw [nS]|rw [nx_empty]))<;>omega)|decide)) only [go_sem, ↓reduceIte, ox, ox', i1, i2, c]))
 ·exact (decide_eq_false fun h => c (by rw [h])).symm
 ·exact (decide_eq_false fun h => c (by rw [h])).symm
 ·exact (decide_eq_false fun h => c (by rw [h])).symm
 ·exact (decide_eq_false fun h => c (by rw [h])).symm
 rename_i ca cv cl
 refine yw_up [0, 1, 2, 3, 35] 0 st.chans.length (fun i f s => f 5 = .int .i64 (i : Int) /\ s = ((Store.empty.push (.cells [x.da, x.dv, x.dc, .int .i64 st'.hold])).push (.cells [x'.da, x'.dv, x'.dc, .int .i64 st'.hold])) /\ ∀ j, j < i -> cAt st.chans j = cAt st'.chans j) (.mk rfl) (by omega) ⟨rfl, rfl, fun j h => by omega⟩ ?_
 rintro i f s hi ⟨hE, rfl, hj⟩
 by_cases ci : i < st.chans.length
 ·have ci' : i < st'.chans.length := by omega
  have q1 := pz_i (st_cf hx ci)
  have q2 := pz_i (st_cf hx' ci')
  have i3 := ints_bc (st_cf hx ci) (st_cf hx' ci') (by have := h3 _ (cAt_mem ci); omega)
  refine zY (aN ox (aN ox' (aN hE (aN ci (aN ci' (aN i3 (aN q1 q2))))))) ?_
  repeat' (first|(refine cw_sp (fun c => ?_) (fun c => ?_) <;> (try simp only [cnd_1, cnd_2, cnd_3, cnd_4] at c) <;> simp (disch := (first|exact Rf.mk rfl|with_reducible assumption|omega|((repeat (first|rw [nP]|rw [nS]|rw [nx_empty]))<;>omega)|decide)) only [go_sem, ↓reduceIte, ox, ox', hE, ci, ci', i3, q1, q2, c])|(refine gw_sp (fun c => ?_) (fun c => ?_) <;> (try simp only [cnd_1, cnd_2, cnd_3, cnd_4] at c) <;> simp (disch := (first|exact Rf.mk rfl|with_reducible assumption|omega|((repeat (first|rw [nP]|rw [nS]|rw [nx_empty]))<;>omega)|decide)) only [go_sem, ↓reduceIte, ox, ox', hE, ci, ci', i3, q1, q2, c]))
  ·exact (decide_eq_false fun h => c (by rw [h])).symm
  ·intro j hj'
   by_cases e : j = i
   ·subst e; exact c
   ·exact hj j (by omega)
 ·have e : i = st.chans.length := by omega
  have hl : ¬ i < st.chans.length := by omega
  refine zY (aN ox (aN ox' (aN hE hl))) ?_
  symm
  rw [decide_eq_true_eq]
  have e1 : st.chans = st'.chans := List.ext_getElem cl fun j h1 h2 => by
   rw [<- cAt_get h1, <- cAt_get h2]; exact hj j (by omega)
  cases st; cases st'; simp_all
end Go.Proofs.Ytlaeblilmppodaa
namespace Go.Proofs.Ytlaeblilmppodaa
open Go.V
set_option maxRecDepth 100000
set_option maxHeartbeats 4000000
variable {m : MdX} {mo : Mo} {ps : List (Pr × PrD)} {x : StD} {st : Stt}
theorem made21_bc {d : D} {t : List Nd} (hT : TreeAt d t) : ∃ d', Eqc vfs 28 [d] d' /\ MadeR t d' := by
 have pT : PZ d := hT.fl.pz
 obtain ⟨b, hb, _⟩ := small_ok hT
 have hb := iso_bc hb rfl
 cases b
 ·refine ⟨.tup [.agg [.nils, .int .i64 0, .nils, .nils, .nils, .nils, .bool false], .bool false], bc_of ?_, .inl rfl⟩
  refine yiso (vf := vf28) rfl ?_
  unfold vf28; refine zF ?_
  refine zY (aN pT hb) ?_
  rfl
 obtain ⟨c, hc, hR⟩ := right_ok hT
 have hc := iso_bc hc rfl
 cases c
 ·refine ⟨.tup [.agg [.nils, .int .i64 0, .nils, .nils, .nils, .nils, .bool false], .bool false], bc_of ?_, .inl rfl⟩
  refine yiso (vf := vf28) rfl ?_
  unfold vf28; refine zF ?_
  refine zY (aN pT (aN hb hc)) ?_
  rfl
 obtain ⟨r, s1, d', h1, h2, h3⟩ := makeI hT (hR rfl)
 have hmk : Eqc vfs 26 [d] d' := bc_of ⟨_, _, h1, h2⟩
 refine ⟨d', bc_of ?_, h3⟩
 rcases h3 with rfl | ⟨m, ps, rfl, hR, hS, hY, hm⟩
 ·refine yiso (vf := vf28) rfl ?_
  unfold vf28; refine zF ?_
  refine zY (aN pT (aN hb (aN hc hmk))) ?_
  rfl
 ·have om := hm.ones
  have fm := pz_mo hm
  unfold mdRow at hmk ⊢
  refine yiso (vf := vf28) rfl ?_
  unfold vf28; refine zF ?_
  refine zY (aN pT (aN hb (aN hc (aN hmk om)))) ?_
  trivial
end Go.Proofs.Ytlaeblilmppodaa
namespace Go.Proofs.Ytlaeblilmppodaa
open Go.V
set_option maxRecDepth 100000
set_option maxHeartbeats 4000000
variable {m : MdX} {mo : Mo} {ps : List (Pr × PrD)} {x : StD} {st : Stt}
end Go.Proofs.Ytlaeblilmppodaa
namespace Go.Proofs.Ytlaeblilmppodaa
open Go.V
set_option maxRecDepth 100000
set_option maxHeartbeats 4000000
variable {m : MdX} {mo : Mo} {ps : List (Pr × PrD)} {x : StD} {st : Stt}
theorem fitsR_bc (hm : MoF m mo ps) (ho : MoOk mo) (hf : MoFi mo) (hx : StGood mo x st) : Eqc vfs 34 [.agg [m.dt, .int .i64 m.g, m.dc, m.dv, m.dp, m.ds, .bool m.b], .agg [x.da, x.dv, x.dc, .int .i64 st.hold]] (.bool true) := by
 have om := hm.ones
 have ox := hx.f.ones
 have hxa := hx.f.a
 have hxv := hx.f.v
 have hxf := hx.f
 have hmv := hm.v
 have hmc := hm.c
 have ea : st.at'.length = mo.procs.length := hx.fit.at'
 have ev : st.vars.length = mo.vars.length := hx.fit.vars
 have ec : st.chans.length = mo.chans.length := hx.fit.chans
 have hnp := ho.np
 have hnv := ho.nv
 have hnc := ho.nc
 have hh := hx.fit.hold
 have h1 : ¬ st.hold < -1 := by omega
 have h2 : ¬ (mo.procs.length : Int) <= st.hold := by omega
 refine bc_of ?_
 refine yiso (vf := vf34) rfl ?_
 unfold vf34; refine zF ?_
 refine zY (aN om (aN ox (aN ea (aN ev (aN ec (aN h1 h2)))))) ?_
 have g0 : ((Store.empty.push (.cells [m.dt, .int .i64 m.g, m.dc, m.dv, m.dp, m.ds, .bool m.b])).push (.cells [x.da, x.dv, x.dc, .int .i64 st.hold])).get 0 = some (.cells [m.dt, .int .i64 m.g, m.dc, m.dv, m.dp, m.ds, .bool m.b]) := by simp (disch := (first|exact Rf.mk rfl|with_reducible assumption|omega|((repeat (first|rw [nP]|rw [nS]|rw [nx_empty]))<;>omega)|decide)) only [go_sem, ↓reduceIte]
 have g1 : ((Store.empty.push (.cells [m.dt, .int .i64 m.g, m.dc, m.dv, m.dp, m.ds, .bool m.b])).push (.cells [x.da, x.dv, x.dc, .int .i64 st.hold])).get 1 = some (.cells [x.da, x.dv, x.dc, .int .i64 st.hold]) := by simp (disch := (first|exact Rf.mk rfl|with_reducible assumption|omega|((repeat (first|rw [nP]|rw [nS]|rw [nx_empty]))<;>omega)|decide)) only [go_sem, ↓reduceIte]
 generalize (Store.empty.push (.cells [m.dt, .int .i64 m.g, m.dc, m.dv, m.dp, m.ds, .bool m.b])).push (.cells [x.da, x.dv, x.dc, .int .i64 st.hold]) = s0 at *
 refine yw_up [0, 1, 2, 3, 6, 7, 8, 46, 78, 98, 103, 118, 126, 152] 0 mo.procs.length (fun i f s => f 5 = .int .i64 (i : Int) /\ s = s0) (.mk rfl) (by omega) ⟨rfl, rfl⟩ ?_
 rintro i f s hi ⟨hE, rfl⟩
 by_cases ci : i < mo.procs.length
 ·have ci' : i < st.at'.length := by omega
  have hpl := hx.fit.pl i ci' ci
  have e1 : ¬ ((nAt st.at' i : Nat) : Int) < 0 := by omega
  have e2 : nAt st.at' i < (pAt mo.procs i).places := by rw [nAt_get ci', pAt_get ci]; exact hpl
  have e3 : ¬ (pAt mo.procs i).places <= nAt st.at' i := by omega
  exact zZ (aN hE (aN ci (aN ci' (aN ea (aN g0 (aN g1 (aN om (aN ox (aN e1 (aN e2 e3))))))))))
 obtain rfl : i = mo.procs.length := by omega
 refine zY (aN hE (aN ci (aN ea (aN g0 (aN g1 (aN om ox)))))) ?_
 refine yw_up [0, 1, 2, 3, 5, 7, 8, 46, 51, 73, 103, 118, 126, 152] 0 mo.vars.length (fun i f s' => f 6 = .int .i64 (i : Int) /\ s' = s) (.mk rfl) (by omega) ⟨rfl, rfl⟩ ?_
 clear hi ci hE
 rintro i f s hi ⟨hE, rfl⟩
 by_cases ci : i < mo.vars.length
 ·have ci' : i < st.vars.length := by omega
  have hvr : trimZ st.vars[i] mo.vars[i].width.toNat = st.vars[i] := hx.fit.vr i ci' ci
  have h8 := hx.e.v _ (zAt_mem ci')
  unfold I8 at h8
  have hw := hf.vr _ (vAt_mem ci)
  have hb := trimw_bc' (x := zAt st.vars i) (w := (vAt mo.vars i).width) (by omega) (by omega) hw.1 hw.2.1
  rw [show trimZ (zAt st.vars i) (vAt mo.vars i).width.toNat = zAt st.vars i by rw [zAt_get ci', vAt_get ci]; exact hvr] at hb
  exact zZ (aN hE (aN ci (aN ci' (aN ev (aN g0 (aN g1 (aN om (aN ox hb))))))))
 obtain rfl : i = mo.vars.length := by omega
 refine zY (aN hE (aN ci (aN ev (aN g0 (aN g1 (aN om ox)))))) ?_
 refine yw_up [0, 1, 2, 3, 5, 6, 46, 51, 73, 78, 98] 0 mo.chans.length (fun i f s' => f 7 = .int .i64 (i : Int) /\ s' = s) (.mk rfl) (by omega) ⟨rfl, rfl⟩ ?_
 clear hi ci hE
 rintro i f s hi ⟨hE, rfl⟩
 by_cases ci : i < mo.chans.length
 rotate_left
 ·exact zZ (aN hE (aN ci (aN ec (aN g0 (aN g1 (aN om ox))))))
 have ci' : i < st.chans.length := by omega
 have hcl := hx.fit.cl i ci' ci
 have hcv := hx.fit.cv i ci' ci
 have h8 := hx.e.c _ (cAt_mem ci')
 have hw := hf.ch _ (chAt_mem ci)
 have e1 : ¬ (chAt mo.chans i).room < ((cAt st.chans i).length : Int) := by
  have : ((cAt st.chans i).length : Int) <= (chAt mo.chans i).room := by rw [cAt_get ci', chAt_get ci]; exact hcl
  omega
 refine zY (aN hE (aN ci (aN ci' (aN ec (aN g0 (aN g1 (aN om (aN ox e1)))))))) ?_
 refine yw_up [0, 1, 2, 3, 5, 6, 7, 46, 51, 73, 78, 98, 103, 118] 0 (cAt st.chans i).length (fun k f s' => f 8 = .int .i64 (k : Int) /\ s' = s) (.mk rfl) (by omega) ⟨rfl, rfl⟩ ?_
 rintro k f s hk ⟨hE, rfl⟩
 by_cases ck : k < (cAt st.chans i).length
 ·have h8k := h8.2 _ (zAt_mem ck)
  unfold I8 at h8k
  have hb := trimw_bc' (x := zAt (cAt st.chans i) k) (w := (chAt mo.chans i).width) (by omega) (by omega) hw.2.2.1 hw.2.2.2
  rw [show trimZ (zAt (cAt st.chans i) k) (chAt mo.chans i).width.toNat = zAt (cAt st.chans i) k by
   have hm := zAt_mem ck
   rw [chAt_get ci]
   refine hcv _ ?_
   rw [<- cAt_get ci']; exact hm] at hb
  exact zZ (aN hE (aN ci (aN ci' (aN ck (aN ec (aN g0 (aN g1 (aN om (aN ox hb)))))))))
 ·exact zZ (aN hE (aN ci (aN ci' (aN ck (aN ec (aN g0 (aN g1 (aN om ox))))))))
end Go.Proofs.Ytlaeblilmppodaa
namespace Go.Proofs.Ytlaeblilmppodaa
open Go.V
set_option maxRecDepth 100000
set_option maxHeartbeats 4000000
variable {m : MdX} {mo : Mo} {ps : List (Pr × PrD)} {x : StD} {st : Stt}
def zst : Stt := ⟨[], [], [], 0⟩
theorem zstF : StF ⟨.nils, .nils, .nils⟩ zst := ⟨.inl ⟨rfl, rfl⟩, .inl ⟨rfl, rfl⟩, [], .inl ⟨rfl, rfl⟩, rfl, fun i h => by simp at h⟩
theorem back_v {d0 d1 : D} {t : List Nd} {bs : List Bool} (hT : TreeAt d0 t) (hd : FL 1 d1 (rowsB bs)) : EvP vfs 9 [d0, d1] Store.empty fun r _ => r = .bool true := by
 have haw : Eqc vfs 23 [] (.bool true) := iso_bc awake21 rfl
 have pT : PZ d0 := hT.fl.pz
 have pd := hd.pz
 have oT := FL.one hT.fl
 have od := hd.one
 obtain ⟨d', h1, h2⟩ := made21_bc hT
 by_cases hl : (300 : Int) < (bs.length : Int)
 ·refine yevp (vf := vf9) rfl ?_
  unfold vf9; refine zF ?_
  refine zY (aN haw (aN hd hl)) ?_
  exact rfl
 rcases h2 with rfl | ⟨m, ps, rfl, hR, hS, hY, hm⟩
 ·refine yevp (vf := vf9) rfl ?_
  unfold vf9; refine zF ?_
  refine zY (aN haw (aN hd (aN hl (aN h1 pT)))) ?_
  exact rfl
 have ho := model_ok hR hS hY
 have hf := model_fi hR hY
 generalize modelOf t = mo at *
 have om := hm.ones
 have fm := pz_mo hm
 have hnp := ho.np
 have hnb := nbits_bc hm ho hf
 have hnl := nbits_le ho hf
 unfold mdRow at h1
 refine yevp (vf := vf9) rfl ?_
 unfold vf9; refine zF ?_
 refine zY (aN haw (aN hd (aN hl (aN h1 (aN pT (aN pd (aN om (aN fm hnb)))))))) ?_
 refine yw_up [0, 1, 5, 6, 7, 19, 27] 0 2 (fun i f s => f 8 = .int .i64 (i : Int) /\ s.get 0 = some (.cells [m.dt, .int .i64 m.g, m.dc, m.dv, m.dp, m.ds, .bool m.b])) (.mk rfl) (by omega) ⟨rfl, ?_⟩ ?_
 ·exact zZ0
 rintro i f s hi ⟨hE, g0⟩
 have l0 := get_lts g0
 have hz := same_bc zstF zstF (by decide) (by decide) (by simp [zst]) (by decide)
 rw [decide_eq_true rfl] at hz
 have pz := pz_st zstF
 have pz : PZ (.agg [.nils, .nils, .nils, .int .i64 0]) := pz
 have hz : Eqc vfs 22 [.agg [.nils, .nils, .nils, .int .i64 0], .agg [.nils, .nils, .nils, .int .i64 0]] (.bool true) := hz
 obtain rfl | rfl | rfl : i = 0 ∨ i = 1 ∨ i = 2 := by omega
 ·have hu := unpack_ok hm ho hf (s0 := s) (.inl hd)
  refine zY (aN hE (aN g0 (aN om (aN pd od)))) ?_
  refine xq_evp hu rfl ?_
  rintro r s1 ⟨h1, fr1⟩
  have g1 := fr1.2 0 l0 (by simp)
  rw [g0] at g1
  have l1 := get_lts g1
  rcases h1 with ⟨q, rfl⟩ | ⟨q0, ⟨q, rfl⟩ | ⟨st2, cs2, q, rfl, hs⟩⟩
  ·refine zY (aN hE (aN g1 (aN om (aN fm (aN hz pz))))) ?_
   trivial
  ·refine zY (aN hE (aN g1 (aN om (aN fm (aN hz pz))))) ?_
   trivial
  ·obtain ⟨hfit, hpk⟩ := pack_unpack (mo_la ho hf) q0 q
   have h8 := fit_8 hf hfit
   obtain ⟨x2, rfl, hu2⟩ := hs.u
   have ox2 := hu2.ones
   have hb := fr_box (s := s1) (z := .cells [.nils, .nils, .nils, .int .i64 0]) (o := .cells [x2.da, x2.dv, x2.dc, .int .i64 st2.hold])
   obtain ⟨y, y1, y2⟩ := (hs.stay hb).frz
   have hic : ∀ l, mapO (V.ice ((s1.push (.cells [.nils, .nils, .nils, .int .i64 0])).set s1.next (some (.cells [x2.da, x2.dv, x2.dc, .int .i64 st2.hold]))).get 20) (.agg [x2.da, x2.dv, x2.dc, .int .i64 st2.hold] :: l) = (mapO (V.ice ((s1.push (.cells [.nils, .nils, .nils, .int .i64 0])).set s1.next (some (.cells [x2.da, x2.dv, x2.dc, .int .i64 st2.hold]))).get 20) l).map (.agg [y.da, y.dv, y.dc, .int .i64 st2.hold] :: ·) := fun l => ic_ice y1
   have hff := fitsR_bc hm ho hf ⟨y2, h8, hfit⟩
   have hpR := packR_ok hm ho hf (hu2.stay hb) h8 hfit
   simp (disch := (first|exact Rf.mk rfl|with_reducible assumption|omega|((repeat (first|rw [nP]|rw [nS]|rw [nx_empty]))<;>omega)|decide)) only [go_sem, ↓reduceIte, hE, g1, om, fm, ox2, hff, hic, Bool.true_or]
   refine xq_evp hpR rfl ?_
   rintro r s3 ⟨E, R, hg⟩
   have g3 := hg.fr.2 0 (by simp) (by simp)
   simp (disch := (first|exact Rf.mk rfl|with_reducible assumption|omega|((repeat (first|rw [nP]|rw [nS]|rw [nx_empty]))<;>omega)|decide)) only [go_sem, ↓reduceIte, g1] at g3
   rw [hpk] at hg
   obtain ⟨dr, r1, r2⟩ := hg.rdb.frz 18
   have hic3 : ∀ l, mapO (V.ice s3.get 20) (r :: l) = (mapO (V.ice s3.get 20) l).map (dr :: ·) := fun l => ic_ice r1
   have hsB := sameB_bc r2 hd (by omega)
   rw [decide_eq_true rfl] at hsB
   simp (disch := (first|exact Rf.mk rfl|with_reducible assumption|omega|((repeat (first|rw [nP]|rw [nS]|rw [nx_empty]))<;>omega)|decide)) only [go_sem, ↓reduceIte, hE, hic3, Bool.true_or, pd, hsB]
   trivial
 ·refine zY (aN hE g0) ?_
  refine wp_cut [0, 1, 4, 5, 6, 7, 8, 11, 12, 19, 27, 31, 36, 87] (fun f' s' => ∃ E, GrL Store.empty s' [(0, [m.dt, .int .i64 m.g, m.dc, m.dv, m.dp, m.ds, .bool m.b])] (f' 9) (repB bs mo.nbits) E) ?_ ?_
  ·refine yw_up [0, 1, 4, 5, 6, 7, 8, 11, 12, 19, 27, 31, 36, 87] 0 mo.nbits (fun k f' s' => f' 10 = .int .i64 (k : Int) /\ ∃ E, GrL Store.empty s' [(0, [m.dt, .int .i64 m.g, m.dc, m.dv, m.dp, m.ds, .bool m.b])] (f' 9) (repB bs k) E) (.mk rfl) (by omega) ⟨rfl, [], GrL.nil (by intro y hy; simp only [List.mem_singleton] at hy; subst hy; exact g0) fr_e⟩ ?_
   rintro k f' s' hk ⟨hE', E, hg⟩
   have on := hg.rp.one
   by_cases ck : k < mo.nbits
   ·by_cases c0 : 0 < bs.length
    ·have hkm : (k : Int).tmod (bs.length : Int) = ((k % bs.length : Nat) : Int) := rfl
     have hkl : k % bs.length < bs.length := Nat.mod_lt _ (by omega)
     have n0 : ¬ bs.length = 0 := by omega
     refine zY (aN hE' (aN ck (aN hd (aN c0 (aN hkm (aN hkl (aN n0 on))))))) ?_
     refine bm_grB (b := aB bs (k % bs.length)) hg (by simp; omega) ?_
     intro d2 s2 E2 hg2
     refine zY (aN hE' ck) ?_
     exact ⟨E2, by rw [repB_succ, decide_eq_true c0, Bool.true_and]; exact hg2⟩
    ·refine zY (aN hE' (aN ck (aN hd (aN c0 on)))) ?_
     refine bm_grB (b := false) hg (by simp; omega) ?_
     intro d2 s2 E2 hg2
     refine zY (aN hE' ck) ?_
     exact ⟨E2, by rw [repB_succ, decide_eq_false c0, Bool.false_and]; exact hg2⟩
   ·obtain rfl : k = mo.nbits := by omega
    refine zY (aN hE' ck) ?_
    exact ⟨E, hg⟩
  rintro f' s' ⟨E, hg⟩
  have g0 := hg.hp.r (0, [m.dt, .int .i64 m.g, m.dc, m.dv, m.dp, m.ds, .bool m.b]) (by simp)
  have l0 := get_lts g0
  have on := hg.rp.one
  have hu := unpack_ok hm ho hf (s0 := s') hg.rdb
  have hrd := hg.rdb
  refine zY (aN g0 (aN om on)) ?_
  refine xq_evp hu rfl ?_
  rintro r s1 ⟨h1, fr1⟩
  have g1 := fr1.2 0 l0 (by simp)
  rw [g0] at g1
  have l1 := get_lts g1
  have hrd1 := hrd.stay (s' := s1) fun id off len e => fr1.2 id (hrd.lt id off len e) (by simp)
  rcases h1 with ⟨q, rfl⟩ | ⟨q0, ⟨q, rfl⟩ | ⟨st2, cs2, q, rfl, hs⟩⟩
  ·refine zY (aN g1 (aN om (aN fm (aN hz pz)))) ?_
   trivial
  ·refine zY (aN g1 (aN om (aN fm (aN hz pz)))) ?_
   trivial
  ·obtain ⟨hfit, hpk⟩ := pack_unpack (mo_la ho hf) q0 q
   have h8 := fit_8 hf hfit
   obtain ⟨x2, rfl, hu2⟩ := hs.u
   have ox2 := hu2.ones
   have hb := fr_box (s := s1) (z := .cells [.nils, .nils, .nils, .int .i64 0]) (o := .cells [x2.da, x2.dv, x2.dc, .int .i64 st2.hold])
   obtain ⟨y, y1, y2⟩ := (hs.stay hb).frz
   have hic : ∀ l, mapO (V.ice ((s1.push (.cells [.nils, .nils, .nils, .int .i64 0])).set s1.next (some (.cells [x2.da, x2.dv, x2.dc, .int .i64 st2.hold]))).get 20) (.agg [x2.da, x2.dv, x2.dc, .int .i64 st2.hold] :: l) = (mapO (V.ice ((s1.push (.cells [.nils, .nils, .nils, .int .i64 0])).set s1.next (some (.cells [x2.da, x2.dv, x2.dc, .int .i64 st2.hold]))).get 20) l).map (.agg [y.da, y.dv, y.dc, .int .i64 st2.hold] :: ·) := fun l => ic_ice y1
   have hff := fitsR_bc hm ho hf ⟨y2, h8, hfit⟩
   have hpR := packR_ok hm ho hf (hu2.stay hb) h8 hfit
   have hrd2 := hrd1.stay (s' := (s1.push (.cells [.nils, .nils, .nils, .int .i64 0])).set s1.next (some (.cells [x2.da, x2.dv, x2.dc, .int .i64 st2.hold]))) fun id off len e => hb.2 id (hrd1.lt id off len e) (by simp)
   simp (disch := (first|exact Rf.mk rfl|with_reducible assumption|omega|((repeat (first|rw [nP]|rw [nS]|rw [nx_empty]))<;>omega)|decide)) only [go_sem, ↓reduceIte, g1, om, fm, ox2, hff, hic, Bool.true_or]
   refine xq_evp hpR rfl ?_
   rintro r s3 ⟨E3, R3, hg3⟩
   have g3 := hg3.fr.2 0 (by simp) (by simp)
   simp (disch := (first|exact Rf.mk rfl|with_reducible assumption|omega|((repeat (first|rw [nP]|rw [nS]|rw [nx_empty]))<;>omega)|decide)) only [go_sem, ↓reduceIte, g1] at g3
   rw [hpk] at hg3
   have hrd3 := hrd2.stay (s' := s3) fun id off len e => hg3.fr.2 id (hrd2.lt id off len e) (by simp)
   obtain ⟨dr, r1, r2⟩ := hg3.rdb.frz 18
   obtain ⟨db, b1, b2⟩ := hrd3.frz 18
   have hic3 : ∀ l, mapO (V.ice s3.get 20) (r :: l) = (mapO (V.ice s3.get 20) l).map (dr :: ·) := fun l => ic_ice r1
   have hic4 : ∀ l, mapO (V.ice s3.get 20) (f' 9 :: l) = (mapO (V.ice s3.get 20) l).map (db :: ·) := fun l => ic_ice b1
   have hsB := sameB_bc r2 b2 (by simp; omega)
   rw [decide_eq_true rfl] at hsB
   simp (disch := (first|exact Rf.mk rfl|with_reducible assumption|omega|((repeat (first|rw [nP]|rw [nS]|rw [nx_empty]))<;>omega)|decide)) only [go_sem, ↓reduceIte, hic3, hic4, Bool.true_or, hsB]
   trivial
 ·refine zY hE ?_
  exact rfl
theorem boolsF_of {d : D} (h : ArgT (.slice 1 .bool) d) : ∃ bs : List Bool, FL 1 d (rowsB bs) := by
 have h : HasT (.slice 1 .bool) [d] := h
 simp only [HasT] at h
 rcases h with h | ⟨xs, h, _, hx⟩
 ·simp at h
  subst h
  exact ⟨[], .inl ⟨rfl, rfl⟩⟩
 ·simp at h
  subst h
  obtain ⟨bs, rfl, _⟩ := map_of (f := fun (b : Bool) => [D.bool b]) (P := fun _ => True) (xs := xs) (fun x hm => by
   obtain ⟨b, hb⟩ := hx x hm
   exact ⟨b, hb, trivial⟩)
  exact ⟨bs, .inr rfl⟩
theorem layoutBack21 {d0 d1 : D} (h0 : ArgT Ty.tree d0) (h1 : ArgT (.slice 1 .bool) d1) : EvP vfs 9 [d0, d1] Store.empty fun r _ => r = .bool true := by
 obtain ⟨t, hT⟩ := tree_of h0
 obtain ⟨bs, hb⟩ := boolsF_of h1
 exact back_v hT hb
end Go.Proofs.Ytlaeblilmppodaa
