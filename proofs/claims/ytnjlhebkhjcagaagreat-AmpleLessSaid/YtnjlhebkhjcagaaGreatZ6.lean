/- Texts one behind the other. -/
import Derived.Test.YtnjlhebkhjcagaaGreatZ5
set_option linter.unusedSimpArgs false
set_option linter.unusedVariables false
namespace Go.V
theorem a5R {n : Int} {w : Nat} (h1 : 1 <= w) : O2 (O2 n w) w = O2 n w := by
 have := a9c (n := n) (w := w) (by omega)
 exact a7M (by omega) this.1 this.2
theorem b0M {n : Int} {w : Nat} (h1 : 1 <= w) (h2 : w <= 8) : I8 (O2 n w) := by
 have h := a9c (n := n) (w := w) (by omega)
 have hc : w = 1 ∨ w = 2 ∨ w = 3 ∨ w = 4 ∨ w = 5 ∨ w = 6 ∨ w = 7 ∨ w = 8 := by omega
 unfold I8
 rcases hc with rfl | rfl | rfl | rfl | rfl | rfl | rfl | rfl <;> simp at h <;> omega
theorem a50 {l : List Nat} {k j : Nat} {d : Nat} (hk : k < l.length) : nAt (l.set k d) j = if j = k then d else nAt l j := by
 unfold nAt
 simp only [List.getD, List.getElem?_set]
 split
 ·rename_i h; subst h; simp [hk]
 ·rename_i h; rw [if_neg (Ne.symm h)]
theorem b1g {l : List Int} {k j : Nat} {d : Int} (hk : k < l.length) : zAt (l.set k d) j = if j = k then d else zAt l j := by
 unfold zAt
 simp only [List.getD, List.getElem?_set]
 split
 ·rename_i h; subst h; simp [hk]
 ·rename_i h; rw [if_neg (Ne.symm h)]
structure a0q (mo : Mo) (st : Stt) : Prop where
 at' : st.at'.length = mo.procs.length
 vars : st.vars.length = mo.vars.length
 chans : st.chans.length = mo.chans.length
 pl : ∀ i, i < mo.procs.length -> nAt st.at' i < (pAt mo.procs i).places
 vr : ∀ i, i < mo.vars.length -> O2 (zAt st.vars i) (vAt mo.vars i).width.toNat = zAt st.vars i
 cl : ∀ i, i < mo.chans.length -> ((cAt st.chans i).length : Int) <= (Q0 mo.chans i).room
 cv : ∀ i, i < mo.chans.length -> ∀ n ∈ cAt st.chans i, O2 n (Q0 mo.chans i).width.toNat = n
 hold : -1 <= st.hold /\ st.hold < (mo.procs.length : Int)
theorem a3i {mo : Mo} {st : Stt} : a0q mo st ↔ Fit mo st := by
 constructor
 ·rintro ⟨h1, h2, h3, h4, h5, h6, h7, h8⟩
  refine ⟨h1, h2, h3, fun i h h' => ?_, fun i h h' => ?_, fun i h h' => ?_, fun i h h' => ?_, h8⟩
  ·have := h4 i h'; rwa [a28 h, a2r h'] at this
  ·have := h5 i h'; rwa [a2A h, a3O h'] at this
  ·have := h6 i h'; rwa [a1E h, a1H h'] at this
  ·have := h7 i h'; rwa [a1E h, a1H h'] at this
 ·rintro ⟨h1, h2, h3, h4, h5, h6, h7, h8⟩
  refine ⟨h1, h2, h3, fun i h' => ?_, fun i h' => ?_, fun i h' => ?_, fun i h' => ?_, h8⟩
  ·have h : i < st.at'.length := by omega
   rw [a28 h, a2r h']; exact h4 i h h'
  ·have h : i < st.vars.length := by omega
   rw [a2A h, a3O h']; exact h5 i h h'
  ·have h : i < st.chans.length := by omega
   rw [a1E h, a1H h']; exact h6 i h h'
  ·have h : i < st.chans.length := by omega
   rw [a1E h, a1H h']; exact h7 i h h'
theorem b4t {mo : Mo} (hf : a0m mo) {st : Stt} (h : Fit mo st) : St8 st := by
 have h := a3i.2 h
 refine ⟨fun n hn => ?_, fun l hl => ?_⟩
 ·obtain ⟨i, hi, rfl⟩ := List.getElem_of_mem hn
  have hi' : i < mo.vars.length := by rw [<- h.vars]; exact hi
  have := h.vr i hi'
  rw [a2A hi] at this
  rw [<- this]
  have := hf.vr _ (a3R hi')
  exact b0M (by omega) (by omega)
 ·obtain ⟨i, hi, rfl⟩ := List.getElem_of_mem hl
  have hi' : i < mo.chans.length := by rw [<- h.chans]; exact hi
  have h1 := h.cl i hi'
  have h2 := h.cv i hi'
  rw [a1E hi] at h1 h2
  have h3 := hf.ch _ (a3X hi')
  refine ⟨by omega, fun n hn => ?_⟩
  rw [<- h2 n hn]
  exact b0M (by omega) (by omega)
theorem a0q.var {mo : Mo} (hf : a0m mo) {st : Stt} (h : a0q mo st) {k : Nat} (hk : k < mo.vars.length) (n : Int) : a0q mo { st with vars := st.vars.set k (O2 n (vAt mo.vars k).width.toNat) } := by
 refine ⟨h.at', by simp [h.vars], h.chans, h.pl, fun i hi => ?_, h.cl, h.cv, h.hold⟩
 rw [b1g (by rw [h.vars]; exact hk)]
 split
 ·rename_i e; subst e
  have := hf.vr _ (a3R hk)
  exact a5R (by omega)
 ·exact h.vr i hi
theorem a0q.chan {mo : Mo} {st : Stt} (h : a0q mo st) {k : Nat} (hk : k < mo.chans.length) {l : List Int} (hl : (l.length : Int) <= (Q0 mo.chans k).room) (hv : ∀ n ∈ l, O2 n (Q0 mo.chans k).width.toNat = n) : a0q mo { st with chans := st.chans.set k l } := by
 refine ⟨h.at', h.vars, by simp [h.chans], h.pl, h.vr, fun i hi => ?_, fun i hi => ?_, h.hold⟩
 ·simp only [a3E (by rw [h.chans]; exact hk)]
  split
  ·rename_i e; subst e; exact hl
  ·exact h.cl i hi
 ·simp only [a3E (by rw [h.chans]; exact hk)]
  split
  ·rename_i e; subst e; exact hv
  ·exact h.cv i hi
theorem a0q.go {mo : Mo} {st : Stt} (h : a0q mo st) {p to : Nat} (hp : p < mo.procs.length) (ht : to < (pAt mo.procs p).places) : a0q mo (st.go p to) := by
 refine ⟨by simp [Stt.go, h.at'], h.vars, h.chans, fun i hi => ?_, h.vr, h.cl, h.cv, h.hold⟩
 simp only [Stt.go, a50 (by rw [h.at']; exact hp)]
 split
 ·rename_i e; subst e; exact ht
 ·exact h.pl i hi
theorem a0q.hd {mo : Mo} {st : Stt} (h : a0q mo st) {z : Int} (hz : -1 <= z /\ z < (mo.procs.length : Int)) : a0q mo { st with hold := z } := ⟨h.at', h.vars, h.chans, h.pl, h.vr, h.cl, h.cv, hz⟩
theorem a0q.act {mo : Mo} (hf : a0m mo) {st : Stt} (h : a0q mo st) {pl : Nat} {vs : List Nat} {e : Ed} (he : a2d mo.tree mo.chans.length pl vs e) (hv : ∀ v ∈ vs, v < mo.vars.length) (h2 : e.act = 2 -> ((cAt st.chans e.chan.toNat).length : Int) < (Q0 mo.chans e.chan.toNat).room) (n : Int) : a0q mo (mo.actS st e n) := by
 unfold Mo.actS
 split
 ·rename_i h1
  obtain ⟨k, hk, e1⟩ := he.v1 (.inl h1)
  rw [e1, Int.toNat_natCast]
  exact h.var hf (hv k hk) n
 split
 ·rename_i _ h1
  obtain ⟨k, e1, hk⟩ := he.c1 (.inl h1)
  have h2 := h2 h1
  rw [e1, Int.toNat_natCast] at *
  refine h.chan hk (by simp; omega) fun z hz => ?_
  rcases List.mem_append.1 hz with hz | hz
  ·exact h.cv k hk z hz
  ·simp only [List.mem_singleton] at hz
   subst hz
   have := hf.ch _ (a3X hk)
   exact a5R (by omega)
 split
 ·rename_i _ _ h1
  obtain ⟨k, hk, e1⟩ := he.v1 (.inr h1)
  obtain ⟨q, e2, hq⟩ := he.c1 (.inr h1)
  rw [e1, e2, Int.toNat_natCast, Int.toNat_natCast]
  have h3 := h.var hf (hv k hk) (zAt (cAt st.chans q) 0)
  refine h3.chan hq ?_ fun z hz => ?_
  ·have := h.cl q hq
   rw [List.length_drop]; omega
  ·exact h.cv q hq z (List.mem_of_mem_drop hz)
 ·exact h
theorem c2H {mo : Mo} (ho : Q4 mo) (hf : a0m mo) {st : Stt} (h : a0q mo st) {p : Nat} (hp : p < mo.procs.length) {e : Ed} (he : e ∈ (pAt mo.procs p).edges) (hcan : mo.can st p (pAt mo.procs p) e = true) : a0q mo (mo.edgeS st p (pAt mo.procs p) e) := by
 have hpo := ho.pr _ (a0R hp)
 have heo := hpo.inv.ed e he
 unfold Mo.edgeS Stt.free
 refine a0q.hd ?_ ⟨by omega, by omega⟩
 refine (h.go hp heo.to).act hf heo hpo.var (fun h2 => ?_) _
 unfold Mo.can at hcan
 simp only [h2, if_true, Bool.and_eq_true, decide_eq_true_eq] at hcan
 exact hcan.2
theorem b8M {mo : Mo} (ho : Q4 mo) (hf : a0m mo) {st : Stt} (h : Fit mo st) {v : Mv} (hv : mo.mvOk st v) : Fit mo (mo.doS st v) := by
 have h := a3i.2 h
 refine a3i.1 ?_
 unfold Mo.doS
 rcases hv with ⟨hk, hp, he, hcan⟩ | ⟨hk, hc, hlen⟩ | ⟨hk, hc, hlen, hroom⟩
 ·rw [if_neg (by omega), if_neg (by omega)]
  unfold Mo.doE
  refine (c2H ho hf h hp (a4l he) hcan).hd ?_
  split <;> constructor <;> omega
 ·rw [if_pos hk]
  refine h.chan hc ?_ fun z hz => h.cv _ hc z (List.mem_of_mem_drop hz)
  have := h.cl _ hc
  rw [List.length_drop]; omega
 ·rw [if_neg (by omega), if_pos hk]
  refine h.chan hc (by simp; omega) fun z hz => ?_
  rcases List.mem_append.1 hz with hz | hz
  ·exact h.cv _ hc z hz
  ·simp only [List.mem_singleton] at hz
   subst hz
   exact h.cv _ hc _ (a6d hlen)
theorem b2c {α : Type} (n : Nat) (a : α) : List.replicate (n + 1) a = List.replicate n a ++ [a] := List.replicate_succ'
theorem c2U (n : Nat) : P3 (List.replicate n 0) ++ [[.int .i64 0]] = P3 (List.replicate (n + 1) 0) := by
 rw [b2c]; simp [P3]
theorem b5z {l : List Int} {i : Nat} (h : i < l.length) : V7 (l.take i) ++ [[.int .i64 (zAt l i)]] = V7 (l.take (i + 1)) := by
 rw [a2A h, List.take_add_one, List.getElem?_eq_getElem h]
 unfold V7
 rw [List.map_append]; rfl
def Mo.vals (mo : Mo) : List Int := mo.vars.map Vr.value
theorem a80 {mo : Mo} {i : Nat} (h : i < mo.vars.length) : zAt mo.vals i = (vAt mo.vars i).value := by
 rw [a2A (by simpa [Mo.vals] using h), a3O h]; simp [Mo.vals]
def a06 (n : Nat) : List (List D) := List.replicate n [.nils]
theorem b9R (n : Nat) : ∀ r ∈ a06 n, r.length = 1 := fun r h => by rw [List.eq_of_mem_replicate h]; rfl
theorem b7a (n : Nat) : a06 n ++ [[.nils]] = a06 (n + 1) := (b2c n _).symm
theorem Hp.addW {s : M1} {W R : Hs} (h : Hp s W R) {id : Nat} {cs : List D} (hg : s.get id = some (.cells cs)) (h1 : ∀ w ∈ W, w.1 ≠ id) (h2 : ∀ r ∈ R, r.1 ≠ id) : Hp s ((id, cs) :: W) R := by
 refine ⟨?_, ?_, ?_, h.r⟩
 ·rw [List.map_cons, List.nodup_cons]
  refine ⟨fun hm => ?_, h.nd⟩
  obtain ⟨w, hw, e⟩ := List.mem_map.1 hm
  exact h1 w hw e
 ·intro w hw r hr
  rcases List.mem_cons.1 hw with rfl | hw
  ·exact (h2 r hr).symm
  ·exact h.ap w hw r hr
 ·intro w hw
  rcases List.mem_cons.1 hw with rfl | hw
  ·exact hg
  ·exact h.w w hw
theorem Hp.addR1 {s : M1} {W R : Hs} (h : Hp s W R) {id : Nat} {cs : List D} (hg : s.get id = some (.cells cs)) (h1 : ∀ w ∈ W, w.1 ≠ id) : Hp s W ((id, cs) :: R) := by
 refine ⟨h.nd, ?_, h.w, ?_⟩
 ·intro w hw r hr
  rcases List.mem_cons.1 hr with rfl | hr
  ·exact h1 w hw
  ·exact h.ap w hw r hr
 ·intro r hr
  rcases List.mem_cons.1 hr with rfl | hr
  ·exact hg
  ·exact h.r r hr
theorem Hp.ne {s : M1} {A B C R : Hs} {a b : Nat × List D} (h : Hp s (A ++ a :: (B ++ b :: C)) R) : a.1 ≠ b.1 := by
 have := h.nd
 rw [List.map_append, List.map_cons, List.map_append, List.map_cons, List.nodup_append, List.nodup_cons] at this
 exact fun e => this.2.1.1 (by simp [e])
theorem Hp.neAll {s : M1} {a : Nat × List D} {W R : Hs} (h : Hp s (a :: W) R) : ∀ w ∈ W, w.1 ≠ a.1 := by
 have := h.nd
 rw [List.map_cons, List.nodup_cons] at this
 exact fun w hw e => this.1 (by rw [<- e]; exact List.mem_map_of_mem hw)
theorem a8s {d : D} {rows : List (List D)} {E : Hs} (h : Rp d 1 rows E) (hn : 0 < rows.length) : ∃ a, d = .arr a 0 rows.length 1 /\ E = [(a, rows.flatten)] := by
 rcases h with ⟨_, rfl, _⟩ | ⟨a, h1, h2, _⟩
 ·simp at hn
 ·exact ⟨a, h1, h2⟩
theorem b2v {a : Nat} {rows : List (List D)} (hn : 0 < rows.length) : Rp (.arr a 0 rows.length 1) 1 rows [(a, rows.flatten)] := .inr ⟨a, rfl, rfl, fun e => by subst e; simp at hn⟩
theorem c3n (n : Nat) : (a06 n).flatten = List.replicate n .nils := by
 induction n with
 | zero => rfl
 | succ n ih => rw [show a06 (n + 1) = [.nils] :: a06 n from rfl, List.flatten_cons, ih]; rfl
theorem Rp.chr {s : M1} {q : D} {l : List Int} {E : Hs} (h : Rp q 1 (V7 l) E) (he : Has s E) : ChR s q l := by
 rcases h with ⟨rfl, h2, _⟩ | ⟨id, h1, rfl, _⟩
 ·refine .inl ⟨rfl, ?_⟩
  cases l with
  | nil => rfl
  | cons a l => simp [V7] at h2
 ·rw [a5w] at h1
  subst h1
  have := he (id, (V7 l).flatten) (by simp)
  rw [a5k] at this
  exact a9d this
theorem b0h {n : Nat} {d : D} {j : Nat} (h : j < n) : dAt (List.replicate n d) j = d := by rw [a8g (by simpa using h), List.getElem_replicate]
theorem a5j {n : Nat} {j : Nat} : cAt (List.replicate n []) j = [] := by
 unfold cAt
 simp only [List.getD, List.getElem?_replicate]
 split <;> rfl
end Go.V
namespace Go.Proofs.YtnjlhebkhjcagaaGreat
open Go.V
set_option maxRecDepth 100000
set_option maxHeartbeats 4000000
variable {m : MdX} {mo : Mo} {ps : List (Pr × PrD)} {x : StD} {st : Stt}
theorem a6u {d : D} {raw : List Int} (hd : FI d raw) (hr : ∀ n ∈ raw, a0p n) {k n : Nat} (hn : 0 < n) (hn2 : n <= 1000000) (hk : k <= 1000000) : ∃ z : Nat, z < n /\ Eqc vfs 37 [d, .int .i64 (k : Int), .int .i64 (n : Int)] (.int .i64 (z : Int)) := by
 by_cases h0 : raw.length = 0
 ·refine ⟨0, hn, U0 ?_⟩
  refine P2 (vf := a3d) rfl ?_
  unfold a3d; refine zF ?_
  exact zZ h0
 ·have hkm : (k : Int).tmod (raw.length : Int) = ((k % raw.length : Nat) : Int) := rfl
  have hkl : k % raw.length < raw.length := Nat.mod_lt _ (by omega)
  have hz := hr _ (a6d hkl)
  have n0 : ¬ n = 0 := by omega
  have n1 : ¬ (n : Int) = 0 := by omega
  have n2 : ¬ (raw.length : Int) = 0 := by omega
  by_cases c : (zAt raw (k % raw.length)).tmod (n : Int) < 0
  ·have h1 : -(n : Int) < (zAt raw (k % raw.length)).tmod (n : Int) := Int.lt_tmod_of_pos _ (by omega)
   have e : (zAt raw (k % raw.length)).tmod (n : Int) + (n : Int) = (((zAt raw (k % raw.length)).tmod (n : Int) + (n : Int)).toNat : Int) := by omega
   refine ⟨((zAt raw (k % raw.length)).tmod (n : Int) + (n : Int)).toNat, by omega, U0 ?_⟩
   refine P2 (vf := a3d) rfl ?_
   unfold a3d; refine zF ?_
   refine zY (aN h0 (aN n0 (aN n1 (aN n2 (aN hkm c))))) ?_
   exact e
  ·have h1 : (zAt raw (k % raw.length)).tmod (n : Int) < (n : Int) := Int.tmod_lt_of_pos _ (by omega)
   refine ⟨((zAt raw (k % raw.length)).tmod (n : Int)).toNat, by omega, U0 ?_⟩
   refine P2 (vf := a3d) rfl ?_
   unfold a3d; refine zF ?_
   refine zY (aN h0 (aN n0 (aN n1 (aN n2 (aN hkm c))))) ?_
   omega
def b6q (mo : Mo) (s : M1) (n : Nat) (r : D) : Prop := ∃ dA dV dC EA EV EC, r = .agg [dA, dV, dC, .int .i64 (-1)] /\ Rp dA 1 (P3 (List.replicate mo.procs.length 0)) EA /\ Rp dV 1 (V7 mo.vals) EV /\ Rp dC 1 (a06 mo.chans.length) EC /\ Hp s (EA ++ EV ++ EC) [] /\ ∀ w ∈ EA ++ EV ++ EC, n <= w.1
theorem b8d (hm : MoF m mo ps) (ho : Q4 mo) {s : M1} : EvP vfs 31 [.agg [m.dt, .int .i64 m.g, m.dc, m.dv, m.dp, m.ds, .bool m.b]] s fun r s' => b6q mo s' s.next r /\ Fr [] s s' := by
 have om := hm.ones
 have hmv := hm.v
 have hmc := hm.c
 have hnp := ho.np
 have hnv := ho.nv
 have hnc := ho.nc
 have hvl : mo.vals.length = mo.vars.length := by simp [Mo.vals]
 refine Z0 (vf := a8b) rfl ?_
 unfold a8b; refine zF ?_
 refine zY om ?_
 have hp0 : Hp ((s.push (.cells [m.dt, .int .i64 m.g, m.dc, m.dv, m.dp, m.ds, .bool m.b])).push (.cells [.nils, .nils, .nils, .int .i64 0])) [(s.next + 1, [.nils, .nils, .nils, .int .i64 0])] [(s.next, [m.dt, .int .i64 m.g, m.dc, m.dv, m.dp, m.ds, .bool m.b])] := by
  have := Hp.pushW (s := s.push (.cells [m.dt, .int .i64 m.g, m.dc, m.dv, m.dp, m.ds, .bool m.b])) (W := []) (R := [(s.next, [m.dt, .int .i64 m.g, m.dc, m.dv, m.dp, m.ds, .bool m.b])]) ⟨List.nodup_nil, by simp, by simp [Has], by simp [Has, O5]⟩ [.nils, .nils, .nils, .int .i64 0]
  simpa using this
 have hp1 := hp0.newW (.cells [.nils, .nils, .nils, .int .i64 0]) [.nils, .nils, .nils, .int .i64 (-1)]
 simp only [M1.next_push] at hp1
 have fr1 : Fr [] s ((((s.push (.cells [m.dt, .int .i64 m.g, m.dc, m.dv, m.dp, m.ds, .bool m.b])).push (.cells [.nils, .nils, .nils, .int .i64 0])).push (.cells [.nils, .nils, .nils, .int .i64 0])).set (s.next + 1 + 1) (some (.cells [.nils, .nils, .nils, .int .i64 (-1)]))) := (((Fr.push _).thenPush _).thenPush _).thenSet _ (.inr (by omega))
 generalize (((s.push (.cells [m.dt, .int .i64 m.g, m.dc, m.dv, m.dp, m.ds, .bool m.b])).push (.cells [.nils, .nils, .nils, .int .i64 0])).push (.cells [.nils, .nils, .nils, .int .i64 0])).set (s.next + 1 + 1) (some (.cells [.nils, .nils, .nils, .int .i64 (-1)])) = s1 at *
 generalize hp : s.next + 1 + 1 = p at *
 generalize hq : s.next + 1 = q at *
 refine a1i [0, 1, 2, 3, 5, 6, 24, 42] (fun f s' => ∃ dA EA, Rp dA 1 (P3 (List.replicate mo.procs.length 0)) EA /\ Hp s' ((p, [dA, .nils, .nils, .int .i64 (-1)]) :: (q, [.nils, .nils, .nils, .int .i64 0]) :: EA) [(s.next, [m.dt, .int .i64 m.g, m.dc, m.dv, m.dp, m.ds, .bool m.b])] /\ (∀ w ∈ EA, s.next <= w.1) /\ Fr [] s s') ?_ ?_
 ·refine V8 [0, 1, 2, 3, 5, 6, 24, 42] 0 mo.procs.length (fun i f s' => f 4 = .int .i64 (i : Int) /\ ∃ dA EA, Rp dA 1 (P3 (List.replicate i 0)) EA /\ Hp s' ((p, [dA, .nils, .nils, .int .i64 (-1)]) :: (q, [.nils, .nils, .nils, .int .i64 0]) :: EA) [(s.next, [m.dt, .int .i64 m.g, m.dc, m.dv, m.dp, m.ds, .bool m.b])] /\ (∀ w ∈ EA, s.next <= w.1) /\ Fr [] s s') (.mk rfl) (by omega) ⟨rfl, .nils, [], .inl ⟨rfl, rfl, rfl⟩, hp1, by simp, fr1⟩ ?_
  rintro i f s2 hi ⟨hE, dA, EA, hr, hp2, hw, fr⟩
  have g0 := hp2.rh
  have gp := hp2.hd
  have o1 := hr.one
  have lp := M7 gp
  by_cases ci : i < mo.procs.length
  ·refine zY (aN hE (aN ci (aN g0 (aN gp (aN om o1))))) ?_
   refine a5T (A := [(p, [dA, .nils, .nils, .int .i64 (-1)]), (q, [.nils, .nils, .nils, .int .i64 0])]) (B := []) hr (by simpa using hp2) rfl (a2f _) (by decide) (by simp; omega) ?_
   rintro s3 hr3 hp3 l3 u3
   have gp := hp3.hd
   refine zY (aN hE gp) ?_
   refine ⟨ci, _, _, by rw [<- c2U]; exact hr3, Hp.set (A := []) hp3 _, by simp; omega, ?_⟩
   have f3 : Fr [] s s3 := ⟨by have := fr.1; omega, fun j hj hn => by
    have := fr.1
    rw [u3 j (by omega) fun e he hc => by have := hw e he; omega, fr.2 j hj hn]⟩
   exact f3.thenSet _ (.inr (by omega))
  ·obtain rfl : i = mo.procs.length := by omega
   refine zY (aN hE (aN ci (aN g0 (aN gp (aN om o1))))) ?_
   exact ⟨_, _, hr, hp2, hw, fr⟩
 ·rintro f s2 ⟨dA, EA, hrA, hp2, hwA, fr2⟩
  refine zY0 ?_
  refine a1i [0, 1, 2, 3, 4, 6, 12, 42] (fun f s' => ∃ dV EV, Rp dV 1 (V7 mo.vals) EV /\ Hp s' ((p, [dA, dV, .nils, .int .i64 (-1)]) :: (q, [.nils, .nils, .nils, .int .i64 0]) :: (EA ++ EV)) [(s.next, [m.dt, .int .i64 m.g, m.dc, m.dv, m.dp, m.ds, .bool m.b])] /\ (∀ w ∈ EA ++ EV, s.next <= w.1) /\ Fr [] s s') ?_ ?_
  ·refine V8 [0, 1, 2, 3, 4, 6, 12, 42] 0 mo.vars.length (fun i f s' => f 5 = .int .i64 (i : Int) /\ ∃ dV EV, Rp dV 1 (V7 (mo.vals.take i)) EV /\ Hp s' ((p, [dA, dV, .nils, .int .i64 (-1)]) :: (q, [.nils, .nils, .nils, .int .i64 0]) :: (EA ++ EV)) [(s.next, [m.dt, .int .i64 m.g, m.dc, m.dv, m.dp, m.ds, .bool m.b])] /\ (∀ w ∈ EA ++ EV, s.next <= w.1) /\ Fr [] s s') (.mk rfl) (by omega) ⟨rfl, .nils, [], .inl ⟨rfl, rfl, rfl⟩, by simpa using hp2, by simpa using hwA, fr2⟩ ?_
   rintro i f s2 hi ⟨hE, dV, EV, hr, hp2, hw, fr⟩
   have g0 := hp2.rh
   have gp := hp2.hd
   have o1 := hr.one
   have o2 := hrA.one
   have lp := M7 gp
   by_cases ci : i < mo.vars.length
   ·refine zY (aN hE (aN ci (aN g0 (aN gp (aN om (aN o1 o2)))))) ?_
    refine a5T (A := (p, [dA, dV, .nils, .int .i64 (-1)]) :: (q, [.nils, .nils, .nils, .int .i64 0]) :: EA) (B := []) hr (by simpa using hp2) rfl (a8n _) (by decide) (by simp; omega) ?_
    rintro s3 hr3 hp3 l3 u3
    have gp := hp3.hd
    refine zY (aN hE (aN gp o2)) ?_
    have f3 : Fr [] s s3 := ⟨by have := fr.1; omega, fun j hj hn => by
     have := fr.1
     rw [u3 j (by omega) fun e he hc => by have := hw e (by simp [he]); omega, fr.2 j hj hn]⟩
    refine ⟨ci, _, _, by rw [<- b5z (by omega), a80 ci]; exact hr3, by simpa using Hp.set (A := []) hp3 _, ?_, f3.thenSet _ (.inr (by omega))⟩
    intro w hw1
    rcases List.mem_append.1 hw1 with h | h
    ·exact hw w (by simp [h])
    ·simp only [List.mem_singleton] at h; subst h; have := fr.1; simp only; omega
   ·obtain rfl : i = mo.vars.length := by omega
    refine zY (aN hE (aN ci (aN g0 (aN gp (aN om (aN o1 o2)))))) ?_
    rw [<- hvl, List.take_length] at hr
    exact ⟨_, _, hr, hp2, hw, fr⟩
  ·rintro f s2 ⟨dV, EV, hrV, hp2, hwV, fr2⟩
   refine zY0 ?_
   refine a1i [0, 1, 2, 3, 4, 5, 12, 24] (fun f s' => ∃ dC EC, Rp dC 1 (a06 mo.chans.length) EC /\ Hp s' ((p, [dA, dV, dC, .int .i64 (-1)]) :: (q, [.nils, .nils, .nils, .int .i64 0]) :: (EA ++ EV ++ EC)) [(s.next, [m.dt, .int .i64 m.g, m.dc, m.dv, m.dp, m.ds, .bool m.b])] /\ (∀ w ∈ EA ++ EV ++ EC, s.next <= w.1) /\ Fr [] s s') ?_ ?_
   ·refine V8 [0, 1, 2, 3, 4, 5, 12, 24] 0 mo.chans.length (fun i f s' => f 6 = .int .i64 (i : Int) /\ ∃ dC EC, Rp dC 1 (a06 i) EC /\ Hp s' ((p, [dA, dV, dC, .int .i64 (-1)]) :: (q, [.nils, .nils, .nils, .int .i64 0]) :: (EA ++ EV ++ EC)) [(s.next, [m.dt, .int .i64 m.g, m.dc, m.dv, m.dp, m.ds, .bool m.b])] /\ (∀ w ∈ EA ++ EV ++ EC, s.next <= w.1) /\ Fr [] s s') (.mk rfl) (by omega) ⟨rfl, .nils, [], .inl ⟨rfl, rfl, rfl⟩, by simpa using hp2, by simpa using hwV, fr2⟩ ?_
    rintro i f s2 hi ⟨hE, dC, EC, hr, hp2, hw, fr⟩
    have g0 := hp2.rh
    have gp := hp2.hd
    have o1 := hr.one
    have o2 := hrA.one
    have o3 := hrV.one
    have lp := M7 gp
    by_cases ci : i < mo.chans.length
    ·refine zY (aN hE (aN ci (aN g0 (aN gp (aN om (aN o1 (aN o2 o3))))))) ?_
     refine a5T (A := (p, [dA, dV, dC, .int .i64 (-1)]) :: (q, [.nils, .nils, .nils, .int .i64 0]) :: (EA ++ EV)) (B := []) hr (by simpa using hp2) rfl (b9R _) (by decide) (by simp [a06]; omega) ?_
     rintro s3 hr3 hp3 l3 u3
     have gp := hp3.hd
     refine zY (aN hE (aN gp (aN o2 o3))) ?_
     have f3 : Fr [] s s3 := ⟨by have := fr.1; omega, fun j hj hn => by
      have := fr.1
      rw [u3 j (by omega) fun e he hc => by have := hw e (by simp [he]); omega, fr.2 j hj hn]⟩
     refine ⟨ci, _, _, by rw [<- b7a]; exact hr3, by simpa using Hp.set (A := []) hp3 _, ?_, f3.thenSet _ (.inr (by omega))⟩
     intro w hw1
     rcases List.mem_append.1 hw1 with h | h
     ·exact hw w (List.mem_append_left _ h)
     ·simp only [List.mem_singleton] at h; subst h; have := fr.1; simp only; omega
    ·obtain rfl : i = mo.chans.length := by omega
     refine zY (aN hE (aN ci (aN g0 (aN gp (aN om (aN o1 (aN o2 o3))))))) ?_
     exact ⟨_, _, hr, hp2, hw, fr⟩
   ·rintro f s2 ⟨dC, EC, hrC, hp2, hwC, fr2⟩
    have gp := hp2.hd
    have gq := hp2.tl.hd
    have o1 := hrC.one
    have o2 := hrA.one
    have o3 := hrV.one
    have lq := M7 gq
    have lp := M7 gp
    refine zY (aN gp (aN gq (aN o1 (aN o2 o3)))) ?_
    refine b1E ⟨⟨dA, dV, dC, EA, EV, EC, rfl, hrA, hrV, hrC, ?_, hwC⟩, fr2.thenSet _ (.inr (by omega))⟩
    exact (Hp.set (A := []) hp2.tl.rt _).tl
end Go.Proofs.YtnjlhebkhjcagaaGreat
namespace Go.Proofs.YtnjlhebkhjcagaaGreat
open Go.V
set_option maxRecDepth 100000
set_option maxHeartbeats 4000000
variable {m : MdX} {mo : Mo} {ps : List (Pr × PrD)} {x : StD} {st : Stt}
theorem b1a {x w : Int} (h1 : -4294967296 <= x) (h2 : x <= 4294967296) (h3 : 1 <= w) (h4 : w <= 8) : Eqc vfs 38 [.int .i64 x, .int .i64 w] (.int .i64 (O2 x w.toNat)) := a2F (a9z (x := x) (n := w) (w := w.toNat) (by omega) ⟨by omega, by omega⟩) rfl
theorem c2C (hm : MoF m mo ps) (ho : Q4 mo) (hf : a0m mo) {d : D} {raw : List Int} (hd : FI d raw) (hraw : ∀ n ∈ raw, a0p n) : EvP vfs 13 [.agg [m.dt, .int .i64 m.g, m.dc, m.dv, m.dp, m.ds, .bool m.b], d] M1.empty fun r s => ∃ cs st, r = .agg cs /\ a1d s cs st /\ Fit mo st /\ st.hold = -1 := by
 have om := hm.ones
 have hmv := hm.v
 have hmc := hm.c
 have hnp := ho.np
 have hnv := ho.nv
 have hnc := ho.nc
 have pd := b3n hd
 refine Z0 (vf := a8N) rfl ?_
 unfold a8N; refine zF ?_
 refine zY om ?_
 refine a1K (b8d hm ho) (by simp (disch := (first|exact Rf.mk rfl|with_reducible assumption|omega|((repeat (first|rw [nP]|rw [nS]|rw [N5]))<;>omega)|decide)) only [go_sem, ↓reduceIte]) ?_
 rintro r s1 ⟨⟨dA, dV, dC, EA, EV, EC, rfl, hrA, hrV, hrC, hp, hw⟩, fr⟩
 have l1 := fr.1
 simp only [M1.next_push, N5, Nat.reduceAdd] at l1 hw
 have g0 : s1.get 0 = some (.cells [m.dt, .int .i64 m.g, m.dc, m.dv, m.dp, m.ds, .bool m.b]) := by rw [fr.2 0 (by simp [N5]) (by simp)]; simp (disch := (first|exact Rf.mk rfl|with_reducible assumption|omega|((repeat (first|rw [nP]|rw [nS]|rw [N5]))<;>omega)|decide)) only [go_sem, ↓reduceIte]
 have g1 : s1.get 1 = some (.cells [.nils, .nils, .nils, .int .i64 0]) := by rw [fr.2 1 (by simp [N5]) (by simp)]; simp (disch := (first|exact Rf.mk rfl|with_reducible assumption|omega|((repeat (first|rw [nP]|rw [nS]|rw [N5]))<;>omega)|decide)) only [go_sem, ↓reduceIte]
 have hp1 := ((hp.addR1 g0 fun w h => by have := hw w h; omega).addW g1 (fun w h => by have := hw w h; omega) (by simp)).newW (.cells [.nils, .nils, .nils, .int .i64 0]) [dA, dV, dC, .int .i64 (-1)]
 have o1 := hrA.one
 have o2 := hrV.one
 have o3 := hrC.one
 refine zY (aN o1 (aN o2 o3)) ?_
 generalize hS : (s1.push (.cells [.nils, .nils, .nils, .int .i64 0])).set s1.next (some (.cells [dA, dV, dC, .int .i64 (-1)])) = s2 at *
 generalize s1.next = p at *
 clear hp hw g0 g1 hS fr
 refine a1i [0, 1, 2, 4, 5, 8, 9, 10, 11, 40, 63, 80] (fun f s' => f 6 = .int .i64 (mo.procs.length : Int) /\ ∃ A EA, A.length = mo.procs.length /\ (∀ j, j < mo.procs.length -> nAt A j < (pAt mo.procs j).places) /\ Rp dA 1 (P3 A) EA /\ Hp s' ((p, [dA, dV, dC, .int .i64 (-1)]) :: (1, [.nils, .nils, .nils, .int .i64 0]) :: (EA ++ EV ++ EC)) [(0, [m.dt, .int .i64 m.g, m.dc, m.dv, m.dp, m.ds, .bool m.b])]) ?_ ?_
 ·refine V8 [0, 1, 2, 4, 5, 8, 9, 10, 11, 40, 63, 80] 0 mo.procs.length (fun i f s' => f 7 = .int .i64 (i : Int) /\ f 6 = .int .i64 (i : Int) /\ ∃ A EA, A.length = mo.procs.length /\ (∀ j, j < mo.procs.length -> nAt A j < (pAt mo.procs j).places) /\ Rp dA 1 (P3 A) EA /\ Hp s' ((p, [dA, dV, dC, .int .i64 (-1)]) :: (1, [.nils, .nils, .nils, .int .i64 0]) :: (EA ++ EV ++ EC)) [(0, [m.dt, .int .i64 m.g, m.dc, m.dv, m.dp, m.ds, .bool m.b])]) (.mk rfl) (by omega) ⟨rfl, rfl, _, EA, by simp, fun j hj => ?_, hrA, hp1⟩ ?_
  ·have := (ho.pr _ (a0R hj)).inv.two
   rw [a28 (by simpa using hj), List.getElem_replicate]; omega
  rintro i f s3 hi ⟨hE7, hE6, A, EA, hA, hfit, hr, hp⟩
  have g0 := hp.rh
  have gp := hp.hd
  have lA := hr.len
  rw [a4c, hA] at lA
  by_cases ci : i < mo.procs.length
  ·obtain ⟨a, e1, e2⟩ := a8s hr (by rw [a4c]; omega)
   rw [a4c, hA] at e1
   rw [a6P] at e2
   subst e2
   have ga := hp.tl.tl.hd
   have pa : p ≠ a := Hp.ne (A := []) (B := [(1, [.nils, .nils, .nils, .int .i64 0])]) (b := (a, a0k A)) hp
   have hpl := (ho.pr _ (a0R ci)).inv.two
   have hpl2 := (ho.pr _ (a0R ci)).pl
   obtain ⟨z, hz, hzb⟩ := a6u hd hraw (k := i) (n := (pAt mo.procs i).places) (by omega) (by omega) (by omega)
   have iA : i < A.length := by omega
   rw [e1] at gp hp hr o1 ⊢
   refine zY (aN hE7 (aN hE6 (aN ci (aN g0 (aN gp (aN om (aN o2 (aN o3 (aN ga (aN hzb iA)))))))))) ?_
   have hn0 : 0 < (P3 (A.set i z)).length := by simp; omega
   have hrp := b2v (a := a) hn0
   rw [a4c, List.length_set, hA, a6P] at hrp
   refine ⟨A.set i z, _, by simp [hA], fun j hj => ?_, hrp, Hp.set (A := [(p, _), (1, [.nils, .nils, .nils, .int .i64 0])]) hp (a0k (A.set i z))⟩
   rw [a50 iA]
   split
   ·rename_i e; subst e; exact hz
   ·exact hfit j hj
  ·obtain rfl : i = mo.procs.length := by omega
   refine zY (aN hE7 (aN hE6 (aN ci (aN g0 (aN gp (aN om (aN o1 (aN o2 (aN o3 lA))))))))) ?_
   exact ⟨A, EA, hA, hfit, hr, hp⟩
 ·rintro f s3 ⟨hE6, A, EA, hA, hfit, hrA, hp⟩
  refine zY hE6 ?_
  refine a1i [0, 1, 2, 4, 5, 7, 9, 10, 11, 18, 63, 80] (fun f s' => f 6 = .int .i64 ((mo.procs.length + mo.vars.length : Nat) : Int) /\ ∃ V EV, V.length = mo.vars.length /\ (∀ j, j < mo.vars.length -> O2 (zAt V j) (vAt mo.vars j).width.toNat = zAt V j) /\ Rp dV 1 (V7 V) EV /\ Hp s' ((p, [dA, dV, dC, .int .i64 (-1)]) :: (1, [.nils, .nils, .nils, .int .i64 0]) :: (EA ++ EV ++ EC)) [(0, [m.dt, .int .i64 m.g, m.dc, m.dv, m.dp, m.ds, .bool m.b])]) ?_ ?_
  ·refine V8 [0, 1, 2, 4, 5, 7, 9, 10, 11, 18, 63, 80] 0 mo.vars.length (fun i f s' => f 8 = .int .i64 (i : Int) /\ f 6 = .int .i64 ((mo.procs.length + i : Nat) : Int) /\ ∃ V EV, V.length = mo.vars.length /\ (∀ j, j < mo.vars.length -> O2 (zAt V j) (vAt mo.vars j).width.toNat = zAt V j) /\ Rp dV 1 (V7 V) EV /\ Hp s' ((p, [dA, dV, dC, .int .i64 (-1)]) :: (1, [.nils, .nils, .nils, .int .i64 0]) :: (EA ++ EV ++ EC)) [(0, [m.dt, .int .i64 m.g, m.dc, m.dv, m.dp, m.ds, .bool m.b])]) (.mk rfl) (by omega) ⟨rfl, rfl, mo.vals, EV, by simp [Mo.vals], fun j hj => ?_, hrV, hp⟩ ?_
   ·rw [a80 hj]; exact (hf.vr _ (a3R hj)).2.2
   clear hrV hp
   rintro i f s4 hi ⟨hE8, hE6, V, EV, hV, hfitV, hr, hp⟩
   have g0 := hp.rh
   have gp := hp.hd
   have lV := hr.len
   rw [a5w, hV] at lV
   by_cases ci : i < mo.vars.length
   ·obtain ⟨a, e1, e2⟩ := a8s hr (by rw [a5w]; omega)
    rw [a5w, hV] at e1
    rw [a5k] at e2
    subst e2
    have hp' : Hp s4 ((p, [dA, dV, dC, .int .i64 (-1)]) :: ((1, [.nils, .nils, .nils, .int .i64 0]) :: EA) ++ (a, W1 V) :: EC) [(0, [m.dt, .int .i64 m.g, m.dc, m.dv, m.dp, m.ds, .bool m.b])] := by simpa using hp
    have ga := hp'.w (a, W1 V) (by simp)
    have pa : p ≠ a := Hp.ne (A := []) (B := (1, [.nils, .nils, .nils, .int .i64 0]) :: EA) (b := (a, W1 V)) hp'
    obtain ⟨z, hz, hzb⟩ := a6u hd hraw (k := mo.procs.length + i) (n := 256) (by omega) (by omega) (by omega)
    have hzb : Eqc vfs 37 [d, .int .i64 ((mo.procs.length + i : Nat) : Int), .int .i64 256] (.int .i64 (z : Int)) := hzb
    have iV : i < V.length := by omega
    have hw := hf.vr _ (a3R ci)
    have hwt := b1a (x := (z : Int)) (w := (vAt mo.vars i).width) (by omega) (by omega) hw.1 hw.2.1
    rw [e1] at gp hp hp' hr o2 ⊢
    refine zY (aN hE8 (aN hE6 (aN ci (aN g0 (aN gp (aN om (aN o1 (aN o3 (aN ga (aN hzb (aN iV hwt))))))))))) ?_
    have hn0 : 0 < (V7 (V.set i (O2 (z : Int) (vAt mo.vars i).width.toNat))).length := by simp; omega
    have hrp := b2v (a := a) hn0
    rw [a5w, List.length_set, hV, a5k] at hrp
    refine ⟨by rw [Nat.add_assoc], V.set i (O2 (z : Int) (vAt mo.vars i).width.toNat), _, by simp [hV], fun j hj => ?_, hrp, ?_⟩
    ·rw [b1g iV]
     split
     ·rename_i e; subst e; exact a5R (by omega)
     ·exact hfitV j hj
    ·have := Hp.set (A := (p, [dA, .arr a 0 mo.vars.length 1, dC, .int .i64 (-1)]) :: (1, [.nils, .nils, .nils, .int .i64 0]) :: EA) (B := EC) hp' (W1 (V.set i (O2 (z : Int) (vAt mo.vars i).width.toNat)))
     simpa using this
   ·obtain rfl : i = mo.vars.length := by omega
    refine zY (aN hE8 (aN hE6 (aN ci (aN g0 (aN gp (aN om (aN o1 (aN o2 (aN o3 lV))))))))) ?_
    exact ⟨V, EV, hV, hfitV, hr, hp⟩
  ·clear hrV hp
   rintro f s4 ⟨hE6, V, EV, hV, hfitV, hrV, hp⟩
   refine zY hE6 ?_
   refine a1i [0, 1, 2, 4, 5, 7, 8, 18, 40] (fun f s' => ∃ W st, Hp s' ((p, [dA, dV, dC, .int .i64 (-1)]) :: (1, [.nils, .nils, .nils, .int .i64 0]) :: W) [(0, [m.dt, .int .i64 m.g, m.dc, m.dv, m.dp, m.ds, .bool m.b])] /\ (∀ s, Has s W -> a1d s [dA, dV, dC, .int .i64 (-1)] st) /\ Fit mo st /\ st.hold = -1) ?_ ?_
   rotate_left
   ·rintro f s5 ⟨W, st, hp, hS, hF, hh⟩
    have gp := hp.hd
    have g1 := hp.tl.hd
    have l1 := M7 g1
    refine zY (aN gp (aN g1 (aN o1 (aN o2 o3)))) ?_
    refine b1E ⟨_, st, rfl, hS _ ?_, hF, hh⟩
    exact (Hp.set (A := []) hp.tl [dA, dV, dC, .int .i64 (-1)]).tl.w
   have hfit0 : ∀ L : List (List Int), L.length = mo.chans.length -> (∀ j, j < mo.chans.length -> ((cAt L j).length : Int) <= (Q0 mo.chans j).room /\ ∀ n ∈ cAt L j, O2 n (Q0 mo.chans j).width.toNat = n) -> Fit mo ⟨A, V, L, -1⟩ := fun L hL h => a3i.1 ⟨hA, hV, hL, hfit, hfitV, fun j hj => (h j hj).1, fun j hj => (h j hj).2, by simp only; omega⟩
   by_cases h0 : mo.chans.length = 0
   ·have g0 := hp.rh
    have gp := hp.hd
    have e1 : a06 mo.chans.length = [] := by rw [h0]; rfl
    rw [e1] at hrC
    have lC := hrC.len
    refine V8 [0, 1, 2, 4, 5, 7, 8, 18, 40] 0 0 (fun i f s' => f 9 = .int .i64 (i : Int) /\ s' = s4) (.mk rfl) (by omega) ⟨rfl, rfl⟩ ?_
    rintro i f s5 hi ⟨hE9, rfl⟩
    obtain rfl : i = 0 := by omega
    refine zY (aN hE9 (aN g0 (aN gp (aN om (aN o1 (aN o2 (aN o3 lC))))))) ?_
    refine ⟨EA ++ EV ++ EC, ⟨A, V, [], -1⟩, hp, fun s hs => ?_, hfit0 [] (by simp [h0]) fun j hj => by omega, rfl⟩
    exact a1d.mk (st := ⟨A, V, [], -1⟩) [] (hrA.sn fun e he => hs e (by simp [he])) (hrV.sn fun e he => hs e (by simp [he])) (hrC.sn fun e he => hs e (by simp [he])) (.inl rfl) rfl fun j hj => by simp at hj
   ·have lC := hrC.len
    obtain ⟨c, e1, e2⟩ := a8s hrC (by simp [a06]; omega)
    rw [c3n] at e2
    rw [show (a06 mo.chans.length).length = mo.chans.length by simp [a06]] at e1 lC
    subst e2
    subst e1
    clear hrC lC
    refine V8 [0, 1, 2, 4, 5, 7, 8, 18, 40] 0 mo.chans.length (fun i f s' => f 9 = .int .i64 (i : Int) /\ ∃ (k : Nat) (L : List (List Int)) (qs : List D) (ED : Hs), f 6 = .int .i64 (k : Int) /\ k <= 20 + 4 * i /\ L.length = mo.chans.length /\ qs.length = mo.chans.length /\ (∀ j, j < mo.chans.length -> i <= j -> dAt qs j = .nils /\ cAt L j = []) /\ (∀ j, j < mo.chans.length -> ∃ E, Rp (dAt qs j) 1 (V7 (cAt L j)) E /\ ∀ e ∈ E, e ∈ ED) /\ (∀ j, j < mo.chans.length -> ((cAt L j).length : Int) <= (Q0 mo.chans j).room /\ ∀ n ∈ cAt L j, O2 n (Q0 mo.chans j).width.toNat = n) /\ Hp s' ((p, [dA, dV, .arr c 0 mo.chans.length 1, .int .i64 (-1)]) :: (1, [.nils, .nils, .nils, .int .i64 0]) :: (EA ++ EV ++ (c, qs) :: ED)) [(0, [m.dt, .int .i64 m.g, m.dc, m.dv, m.dp, m.ds, .bool m.b])]) (.mk rfl) (by omega) ⟨rfl, _, List.replicate mo.chans.length [], List.replicate mo.chans.length .nils, [], rfl, by omega, by simp, by simp, fun j hj _ => ⟨b0h hj, a5j⟩, fun j hj => ⟨[], by rw [b0h hj, a5j]; exact .inl ⟨rfl, rfl, rfl⟩, by simp⟩, fun j hj => by
     rw [a5j]
     have := hf.ch _ (a3X hj)
     exact ⟨by simp; omega, by simp⟩, hp⟩ ?_
    clear hp
    rintro i f s5 hi ⟨hE9, k, L, qs, ED, hE6, hk, hL, hq, hnil, hrp, hfl, hp⟩
    have g0 := hp.rh
    have gp := hp.hd
    have hp' : Hp s5 ((p, [dA, dV, .arr c 0 mo.chans.length 1, .int .i64 (-1)]) :: ((1, [.nils, .nils, .nils, .int .i64 0]) :: (EA ++ EV)) ++ (c, qs) :: ED) [(0, [m.dt, .int .i64 m.g, m.dc, m.dv, m.dp, m.ds, .bool m.b])] := by simpa using hp
    have gc := hp'.w (c, qs) (by simp)
    by_cases ci : i < mo.chans.length
    ·have hw := hf.ch _ (a3X ci)
     have hro : ∃ r : Nat, (Q0 mo.chans i).room = (r : Int) := ⟨(Q0 mo.chans i).room.toNat, by omega⟩
     obtain ⟨r, hr⟩ := hro
     obtain ⟨z, hz, hzb⟩ := a6u hd hraw (k := k) (n := r + 1) (by omega) (by omega) (by omega)
     obtain ⟨hn1, hn2⟩ := hnil i ci (Nat.le_refl _)
     refine zY (aN hE9 (aN hE6 (aN ci (aN g0 (aN gp (aN om (aN o1 (aN o2 (aN hr hzb))))))))) ?_
     have iq : i < qs.length := by omega
     have iL : i < L.length := by omega
     refine V8 [0, 1, 2, 4, 5, 7, 8, 9, 10, 18, 40, 63] 0 z (fun j f s' => f 11 = .int .i64 (j : Int) /\ f 6 = .int .i64 ((k + 1 + j : Nat) : Int) /\ ∃ (l : List Int) (q : D) (E : Hs), l.length = j /\ (∀ n ∈ l, O2 n (Q0 mo.chans i).width.toNat = n) /\ Rp q 1 (V7 l) E /\ Hp s' ((p, [dA, dV, .arr c 0 mo.chans.length 1, .int .i64 (-1)]) :: (1, [.nils, .nils, .nils, .int .i64 0]) :: (EA ++ EV ++ (c, qs.set i q) :: (E ++ ED))) [(0, [m.dt, .int .i64 m.g, m.dc, m.dv, m.dp, m.ds, .bool m.b])]) (.mk rfl) (by omega) ⟨rfl, rfl, [], .nils, [], rfl, by simp, .inl ⟨rfl, rfl, rfl⟩, ?_⟩ ?_
     ·have e : qs.set i .nils = qs := by
       rw [<- hn1, a8g iq]; simp
      rw [e]; exact hp
     rintro j f s6 hj ⟨hE11, hE6, l, q, E, hl, htr, hr1, hp⟩
     clear hp' gc
     have g0 := hp.rh
     have gp := hp.hd
     have hp' : Hp s6 ((p, [dA, dV, .arr c 0 mo.chans.length 1, .int .i64 (-1)]) :: ((1, [.nils, .nils, .nils, .int .i64 0]) :: (EA ++ EV)) ++ (c, qs.set i q) :: (E ++ ED)) [(0, [m.dt, .int .i64 m.g, m.dc, m.dv, m.dp, m.ds, .bool m.b])] := by simpa using hp
     have gc := hp'.w (c, qs.set i q) (by simp)
     have pc : p ≠ c := Hp.ne (A := []) (B := (1, [.nils, .nils, .nils, .int .i64 0]) :: (EA ++ EV)) (b := (c, qs.set i q)) hp'
     have lp := M7 gp
     have lc := M7 gc
     have oq := hr1.one
     by_cases cj : j < z
     ·obtain ⟨y, hy, hyb⟩ := a6u hd hraw (k := k + 1 + j) (n := 256) (by omega) (by omega) (by omega)
      have hyb : Eqc vfs 37 [d, .int .i64 ((k + 1 + j : Nat) : Int), .int .i64 256] (.int .i64 (y : Int)) := hyb
      have hwt := b1a (x := (y : Int)) (w := (Q0 mo.chans i).width) (by omega) (by omega) hw.2.2.1 hw.2.2.2
      have iq2 : i < (qs.set i q).length := by simpa using iq
      have eq1 : (qs.set i q)[i]? = some q := by simp [iq]
      have eq2 : i + 1 <= qs.length := by omega
      have nE : ∀ w ∈ (1, [.nils, .nils, .nils, .int .i64 0]) :: (EA ++ EV) ++ (c, qs.set i q) :: (E ++ ED), w.1 ≠ p := Hp.neAll hp'
      have nEp : a1O p (E.map Prod.fst) := Hp.notIn fun e he => nE e (by simp [he])
      have nEc : a1O c (E.map Prod.fst) := Hp.notIn fun e he => by
       have h1 : Hp s6 ((c, qs.set i q) :: (E ++ ED)) [(0, [m.dt, .int .i64 m.g, m.dc, m.dv, m.dp, m.ds, .bool m.b])] := hp'.sub (List.sublist_append_right _ _) fun _ h => h
       exact h1.neAll e (by simp [he])
      refine zY (aN hE9 (aN hE11 (aN hE6 (aN ci (aN cj (aN g0 (aN gp (aN gc (aN om (aN o1 (aN o2 (aN oq (aN hq (aN eq1 (aN hyb hwt))))))))))))))) ?_
      have hp2 : Hp s6 (((p, [dA, dV, .arr c 0 mo.chans.length 1, .int .i64 (-1)]) :: (1, [.nils, .nils, .nils, .int .i64 0]) :: (EA ++ EV ++ [(c, qs.set i q)])) ++ E ++ ED) [(0, [m.dt, .int .i64 m.g, m.dc, m.dv, m.dp, m.ds, .bool m.b])] := by simpa using hp
      refine b8L (E := E) hr1 hp2 rfl (a8n _) (by decide) (by simp; omega) (by simp (disch := (first|exact Rf.mk rfl|with_reducible assumption|omega|((repeat (first|rw [nP]|rw [nS]|rw [N5]))<;>omega)|decide)) only [go_sem, ↓reduceIte, nEp, nEc]) ?_
      rintro s7 hr7 hp7 l7 u7
      have gp := hp7.hd
      have gc := hp7.w (c, qs.set i q) (by simp)
      simp (disch := (first|exact Rf.mk rfl|with_reducible assumption|omega|((repeat (first|rw [nP]|rw [nS]|rw [N5]))<;>omega)|decide)) only [go_sem, ↓reduceIte, hE9, hE11, hE6, ci, cj, gp, gc, hq, List.length_set, a64, List.set_set]
      refine ⟨by rw [Nat.add_assoc], l ++ [O2 (y : Int) (Q0 mo.chans i).width.toNat], _, _, by simp [hl], fun n hn => ?_, by simpa [V7] using hr7, ?_⟩
      ·rcases List.mem_append.1 hn with h | h
       ·exact htr n h
       ·simp only [List.mem_singleton] at h; subst h; exact a5R (by omega)
      ·have h7 : Hp s7 (((p, [dA, dV, .arr c 0 mo.chans.length 1, .int .i64 (-1)]) :: (1, [.nils, .nils, .nils, .int .i64 0]) :: (EA ++ EV)) ++ (c, qs.set i q) :: ((s6.next + 1, (V7 l ++ [[D.int IntKind.i64 (O2 (y : Int) (Q0 mo.chans i).width.toNat)]]).flatten) :: ED)) [(0, [m.dt, .int .i64 m.g, m.dc, m.dv, m.dp, m.ds, .bool m.b])] := by simpa using hp7
       have := h7.set (qs.set i (.arr (s6.next + 1) 0 (l.length + 1) 1))
       simpa [V7] using this
     ·obtain rfl : j = z := by omega
      refine zY (aN hE9 (aN hE11 (aN hE6 (aN ci cj)))) ?_
      refine ⟨_, L.set i l, qs.set i q, E ++ ED, rfl, by omega, by simp [hL], by simp [hq], fun b hb hib => ?_, fun b hb => ?_, fun b hb => ?_, hp⟩
      ·rw [a7k iq, a3E iL, if_neg (by omega), if_neg (by omega)]
       exact hnil b hb (by omega)
      ·rw [a7k iq, a3E iL]
       by_cases hbi : b = i
       ·rw [if_pos hbi, if_pos hbi]
        exact ⟨E, hr1, fun e he => by simp [he]⟩
       ·rw [if_neg hbi, if_neg hbi]
        obtain ⟨E2, h1, h2⟩ := hrp b hb
        exact ⟨E2, h1, fun e he => by simp [h2 e he]⟩
      ·rw [a3E iL]
       by_cases hbi : b = i
       ·rw [if_pos hbi]
        subst hbi
        exact ⟨by omega, htr⟩
       ·rw [if_neg hbi]
        exact hfl b hb
    ·obtain rfl : i = mo.chans.length := by omega
     refine zY (aN hE9 (aN hE6 (aN ci (aN g0 (aN gp (aN om (aN o1 o2))))))) ?_
     refine ⟨EA ++ EV ++ (c, qs) :: ED, ⟨A, V, L, -1⟩, hp, fun s hs => ?_, hfit0 L hL hfl, rfl⟩
     refine a1d.mk (st := ⟨A, V, L, -1⟩) qs (hrA.sn fun e he => hs e (by simp [he])) (hrV.sn fun e he => hs e (by simp [he])) (.inr (.inl ⟨c, by simp [hq], ?_⟩)) (.inr ⟨c, by simp [hq]⟩) (by simp [hq, hL]) fun j hj => ?_
     ·rw [a8K]; exact hs (c, qs) (by simp)
     ·obtain ⟨E, h1, h2⟩ := hrp j (by omega)
      exact h1.chr fun e he => hs e (by simp [h2 e he])
end Go.Proofs.YtnjlhebkhjcagaaGreat
namespace Go.V
variable {fs : FuncId -> Option M6}
end Go.V
namespace Go.V
end Go.V
namespace Go.V
structure Inc (f g : Ft) : Prop where
 r : ∀ b, f.reads.testBit b = true -> g.reads.testBit b = true
 z : ∀ b, f.sizes.testBit b = true -> g.sizes.testBit b = true
theorem Inc.refl (f : Ft) : Inc f f := ⟨fun _ h => h, fun _ h => h⟩
theorem Inc.trans {f g h : Ft} (a : Inc f g) (b : Inc g h) : Inc f h := ⟨fun x k => b.r x (a.r x k), fun x k => b.z x (a.z x k)⟩
theorem b9Y {ch : List ByteArray} {vb : ByteArray -> Nat} {x : Nd} {f : Ft} : Inc f (U4 ch vb x f) := by
 unfold U4
 split
 ·exact ⟨fun b h => by simp only [Nat.testBit_or, h, Bool.true_or], fun _ h => h⟩
 split
 ·exact ⟨fun _ h => h, fun b h => by simp only [Nat.testBit_or, h, Bool.true_or]⟩
 split
 ·exact ⟨fun _ h => h, fun _ h => h⟩
 ·exact .refl _
theorem a6A {g : Ft -> Nat -> Ft} (hg : ∀ f k, Inc f (g f k)) : ∀ {l : List Nat} {f : Ft}, Inc f (l.foldl g f)
 | [], f => .refl f
 | k :: l, f => (hg f k).trans (a6A hg (l := l))
theorem a8S {t : List Nd} {ch : List ByteArray} {vb : ByteArray -> Nat} : ∀ (n k : Nat) (f : Ft), Inc f (a0j t ch vb n k f)
 | 0, k, f => .refl f
 | n + 1, k, f => by
   unfold a0j
   exact b9Y.trans (a6A fun f k => a8S n k f)
theorem b3u {g : Ft -> Nat -> Ft} (hg : ∀ f k, Inc f (g f k)) : ∀ {l : List Nat} {f : Ft} {k : Nat}, k ∈ l -> ∃ f', Inc (g f' k) (l.foldl g f)
 | x :: l, f, k, h => by
   rcases List.mem_cons.1 h with rfl | h
   ·exact ⟨f, a6A hg (l := l)⟩
   ·exact b3u hg (l := l) h
structure a1S (f : Ft) (st st' : Stt) : Prop where
 r : ∀ b, f.reads.testBit b = true -> zAt st.vars b = zAt st'.vars b
 z : ∀ b, f.sizes.testBit b = true -> (cAt st.chans b).length = (cAt st'.chans b).length
theorem a1S.inc {f g : Ft} {st st' : Stt} (h : a1S g st st') (k : Inc f g) : a1S f st st' := ⟨fun b hb => h.r b (k.r b hb), fun b hb => h.z b (k.z b hb)⟩
theorem b3x {t : List Nd} (ht : Y4 t) {ch : List ByteArray} {vb : ByteArray -> Nat} {look : ByteArray -> Option Nat} (hl : ∀ w v, look w = some v -> vb w = 2 ^ v) {st st' : Stt} : ∀ (n k : Nat) (f0 : Ft), k < t.length -> a0A (nd t k).kind -> a1S (a0j t ch vb n k f0) st st' -> Q6 t ch look st n k = Q6 t ch look st' n k
 | 0, k, f0, _, _, _ => rfl
 | n + 1, k, f0, hk, hx, ha => by
   have hno := ht.node k hk
   obtain ⟨_, hkx⟩ := a6p hno hx
   have hkid : ∀ i, i < (nd t k).kids.length -> Q6 t ch look st n ((nd t k).kid i) = Q6 t ch look st' n ((nd t k).kid i) := fun i hi => by
    have hm := X2 hi
    have hc := ht.ks hk _ hm
    obtain ⟨f', hf'⟩ := b3u (g := fun f c => a0j t ch vb n c f) (fun f c => a8S n c f) (f := U4 ch vb (nd t k) f0) hm
    exact b3x ht hl n _ f' hc.2 (hkx i hi) (ha.inc hf')
   have h1 : Inc (U4 ch vb (nd t k) f0) (a0j t ch vb (n + 1) k f0) := a6A fun f k => a8S n k f
   have hb := ha.inc h1
   unfold Q6
   simp only
   by_cases q17 : (nd t k).kind = 17
   ·simp only [q17, if_true]
   simp only [q17, if_false]
   by_cases q18 : (nd t k).kind = 18
   ·simp only [q18, if_true]
    cases hlk : look ((nd t k).word 0) with
    | none => rfl
    | some v =>
      have e : zAt st.vars v = zAt st'.vars v := hb.r v (by
       unfold U4
       rw [if_pos q18]
       simp only [Nat.testBit_or, hl _ _ hlk, Nat.testBit_two_pow_self, Bool.or_true])
      simp only [e]
   simp only [q18, if_false]
   by_cases q19 : (nd t k).kind = 19
   ·simp only [q19, if_true]
    split
    ·rename_i hi
     have e := hb.z (idxB ch ((nd t k).word 0)) (by
      unfold U4 chB
      rw [if_neg q18, if_pos q19, if_pos hi]
      simp only [Nat.testBit_or, Nat.testBit_two_pow_self, Bool.or_true])
     rw [e]
    ·rfl
   simp only [q19, if_false]
   by_cases q20 : (nd t k).kind = 20
   ·have := (hno.one (by omega)).1
    simp only [q20, if_true, hkid 0 (by omega)]
   simp only [q20, if_false]
   by_cases q21 : (nd t k).kind = 21
   ·have := (hno.one (by omega)).1
    simp only [q21, if_true, hkid 0 (by omega)]
   simp only [q21, if_false]
   by_cases q22 : (nd t k).kind = 22
   ·have := (hno.bin q22).1
    simp only [q22, if_true, hkid 0 (by omega), hkid 1 (by omega)]
   simp only [q22, if_false]
theorem c07 {p : Pr} {w : ByteArray} {v : Nat} (h : Q8 p w = some v) : a0h p.names p.vars w = 2 ^ v := by
 unfold Q8 at h
 unfold a0h
 split at h
 ·rename_i hi
  simp only [Option.some.injEq] at h
  rw [if_pos hi, h]
 ·cases h
theorem c2O (mo : Mo) (p : Pr) (e : Ed) : Inc (a5Y mo p e) (P8 mo p e) /\ Inc (P8 mo p e) (a5Y mo p e) := by
 rw [a9S]
 unfold a8D
 constructor <;> (split; exact ⟨fun _ h => h, fun _ h => h⟩; split; exact ⟨fun _ h => h, fun _ h => h⟩; split; exact ⟨fun _ h => h, fun _ h => h⟩; exact .refl _)
theorem b8x {mo : Mo} (ho : Q4 mo) {p : Pr} (hp : a2t mo p) {e : Ed} (he : e ∈ p.edges) {st st' : Stt} (h : a1S (P8 mo p e) st st') (z : Int) : mo.ex p st e z = mo.ex p st' e z := by
 have heo := hp.inv.ed e he
 unfold Mo.ex
 split
 ·rename_i h0
  have hx : e.act = 1 ∨ e.act = 2 ∨ e.act = 4 ∨ e.act = 5 := by
   have := heo.ex0
   have := heo.act
   omega
  obtain ⟨n, hn, hn2, hn3⟩ := heo.ex1 hx
  rw [hn, Int.toNat_natCast]
  refine b3x ho.tree (vb := a0h p.names p.vars) (fun w v h => c07 h) _ n ⟨0, 0, 0, 0, 0, false⟩ hn2 hn3 ?_
  have := h.inc (c2O mo p e).1
  unfold a5Y at this
  rw [if_pos h0, hn, Int.toNat_natCast] at this
  exact this
 ·rfl
def setO {α : Type} (l : List α) : Option (Nat × α) -> List α
 | none => l
 | some (i, x) => l.set i x
theorem c2s {mo : Mo} {p : Pr} (hp : a2t mo p) {e : Ed} (he : e ∈ p.edges) (h : e.act = 2 ∨ e.act = 3) : ((P8 mo p e).sends ||| (P8 mo p e).recvs).testBit e.chan.toNat = true := by
 have heo := hp.inv.ed e he
 rw [a9S]
 unfold a8D
 obtain ⟨v, e1, hv⟩ := heo.c1 h
 rw [if_neg (by omega)]
 by_cases a2 : e.act = 2
 ·rw [if_pos a2, e1, Int.toNat_natCast]
  simp only [a4k, Nat.testBit_or, Nat.testBit_two_pow_self, Bool.true_or]
 ·rw [if_neg a2, if_pos (by omega), e1, Int.toNat_natCast]
  simp only [a4k, Nat.testBit_or, Nat.testBit_two_pow_self, Bool.or_true]
theorem a1S.hold {f : Ft} {st st' : Stt} (h : a1S f st st') (z : Int) : a1S f st { st' with hold := z } := ⟨h.r, h.z⟩
end Go.V
namespace Go.V
theorem a8y {α β : Type} {P : β -> Prop} {g : β -> α -> β} : ∀ {l : List α} {a : β}, P a -> (∀ a x, x ∈ l -> P a -> P (g a x)) -> P (l.foldl g a)
 | [], a, h, _ => h
 | x :: l, a, h, hg => a8y (l := l) (hg a x (by simp) h) fun a y hy => hg a y (by simp [hy])
def a7b (c : Ch) : Prop := 1 <= c.room /\ c.room <= 3 /\ 1 <= c.width /\ c.width <= 8
def a2K (v : Vr) : Prop := 1 <= v.width /\ v.width <= 8 /\ O2 v.value v.width.toNat = v.value
theorem b9a {t : List Nd} (hY : a0O t) {k : Nat} (hk : k < t.length) (h : (nd t k).kind = 1) : a7b (a3B (nd t k)) := by
 have := (hY.fine k hk).chan h
 exact ⟨this.1, this.2.1, this.2.2.1, this.2.2.2.1⟩
theorem b07 {t : List Nd} (hY : a0O t) {k : Nat} (hk : k < t.length) (h : (nd t k).kind = 2) : a2K (a1r (nd t k)) := by
 have := (hY.fine k hk).var h
 exact ⟨this.1, this.2.1, this.2.2.1⟩
theorem b4f {t : List Nd} (ht : Y4 t) (hY : a0O t) : (∀ c ∈ (gat t).ch, a7b c) /\ ∀ v ∈ (gat t).vs, a2K v := by
 unfold gat T9
 refine a8y (P := fun (a : Ga) => (∀ c ∈ a.ch, a7b c) /\ ∀ v ∈ a.vs, a2K v) (by simp) fun (a : Ga) k hk ha => ?_
 have hkl := (ht.ks ht.pos k hk).2
 unfold one1
 split
 ·rename_i h1
  refine ⟨fun c hc => ?_, ha.2⟩
  rcases List.mem_append.1 hc with hc | hc
  ·exact ha.1 c hc
  ·simp only [List.mem_singleton] at hc
   subst hc; exact b9a hY hkl h1
 split
 ·rename_i h1
  refine ⟨ha.1, fun c hc => ?_⟩
  rcases List.mem_append.1 hc with hc | hc
  ·exact ha.2 c hc
  ·simp only [List.mem_singleton] at hc
   subst hc; exact b07 hY hkl h1
 split
 ·exact ha
 split
 ·exact ha
 ·exact ha
theorem b4Z {t : List Nd} (ht : Y4 t) (hY : a0O t) {k : Nat} (hk : k < t.length) : ∀ v ∈ (U5 t (nd t k)).map a1r, a2K v := by
 intro v hv
 obtain ⟨x, hx, rfl⟩ := List.mem_map.1 hv
 obtain ⟨j, hj, rfl⟩ := List.mem_map.1 hx
 obtain ⟨i, hi, e⟩ := List.getElem_of_mem hj
 have hi2 : i < O1 t (nd t k) /\ i < (nd t k).ks.length := by
  rw [List.length_take] at hi; omega
 rw [List.getElem_take] at e
 have h2 := a6D hi2.1 hi2.2
 rw [e] at h2
 have hm := ht.ks hk j (by rw [<- e]; exact List.getElem_mem _)
 exact b07 hY hm.2 h2
theorem b04 {t : List Nd} (ht : Y4 t) (hY : a0O t) {ch : List ByteArray} {k seen : Nat} (hk : k < t.length) : ∀ (c : Nat) (a : List Vr × List Pr), (∀ v ∈ a.1, a2K v) -> ∀ v ∈ (T8 t ch k seen c a).1, a2K v
 | 0, a, h => h
 | c + 1, a, h => by
   intro v hv
   unfold T8 at hv
   rcases List.mem_append.1 hv with hv | hv
   ·exact b04 ht hY hk c a h v hv
   ·exact b4Z ht hY hk v hv
theorem c3U {t : List Nd} (hR : O0 t) (hY : a0O t) : a0m (a2a t) := by
 have ht := hR.ok
 obtain ⟨h1, h2⟩ := b4f ht hY
 refine ⟨h1, ?_⟩
 show ∀ v ∈ (gbt t).vs, a2K v
 unfold gbt Z2
 refine a8y (P := fun (a : Gb) => ∀ v ∈ a.vs, a2K v) h2 fun a k hk ha => ?_
 have hkl := (ht.ks ht.pos k hk).2
 unfold a0U
 split
 ·exact b04 ht hY hkl _ _ ha
 split
 ·exact ha
 ·exact ha
end Go.V
namespace Go.V
variable {mo : Mo} {st : Stt}
theorem b2H {i j : Nat} {v : Mv} (h : v ∈ mo.mvE st i j) : v.kind = 0 /\ v.proc = i /\ v.edge < j /\ mo.can st i (pAt mo.procs i) (eAt (pAt mo.procs i).edges v.edge) = true := by
 unfold Mo.mvE at h
 obtain ⟨k, hk, rfl⟩ := List.mem_map.1 h
 obtain ⟨h1, h2⟩ := List.mem_filter.1 hk
 exact ⟨rfl, rfl, List.mem_range.1 h1, h2⟩
theorem a9X {i : Nat} {v : Mv} (h : v ∈ mo.movesP st i) : v ∈ mo.mvE st i (pAt mo.procs i).edges.length /\ ¬ (0 <= st.hold /\ st.hold ≠ (i : Int)) := by
 rw [Mo.movesP_eq] at h
 split at h
 ·cases h
 ·rename_i c; exact ⟨h, c⟩
theorem a78 {c : Nat} {v : Mv} (h : v ∈ mo.movesC st c) : (v.kind = 1 ∨ v.kind = 2) /\ v.chan = c /\ 0 < (cAt st.chans c).length /\ (v.kind = 2 -> ((cAt st.chans c).length : Int) < (Q0 mo.chans c).room) := by
 unfold Mo.movesC at h
 rcases List.mem_append.1 h with h | h
 ·split at h
  ·rename_i hc
   simp only [Bool.and_eq_true, decide_eq_true_eq] at hc
   simp only [List.mem_singleton] at h
   subst h
   exact ⟨.inl rfl, rfl, hc.2, fun e => by cases e⟩
  ·cases h
 ·split at h
  ·rename_i hc
   simp only [Bool.and_eq_true, decide_eq_true_eq] at hc
   simp only [List.mem_singleton] at h
   subst h
   exact ⟨.inr rfl, rfl, hc.1.2, fun _ => hc.2⟩
  ·cases h
theorem c1F {v : Mv} (h : v ∈ mo.moves st) : mo.mvOk st v := by
 unfold Mo.moves at h
 rcases List.mem_append.1 h with h | h
 ·obtain ⟨i, hi, hv⟩ := List.mem_flatMap.1 h
  obtain ⟨h1, _⟩ := a9X hv
  obtain ⟨a, b, c, d⟩ := b2H h1
  subst b
  exact .inl ⟨a, List.mem_range.1 hi, c, d⟩
 ·split at h
  ·obtain ⟨c, hc, hv⟩ := List.mem_flatMap.1 h
   obtain ⟨a, rfl, b, d⟩ := a78 hv
   rcases a with a | a
   ·exact .inr (.inl ⟨a, List.mem_range.1 hc, b⟩)
   ·exact .inr (.inr ⟨a, List.mem_range.1 hc, b, d a⟩)
  ·cases h
theorem c1m {v : Mv} (h0 : v.kind = 0) : mo.doS st v = mo.doE st v.proc (pAt mo.procs v.proc) (eAt (pAt mo.procs v.proc).edges v.edge) := by
 unfold Mo.doS
 rw [if_neg (by omega), if_neg (by omega)]
theorem b80 {a : Nat} : ((a : Int) = 0) = (a = 0) := by apply propext; omega
attribute [go_sem] b80
theorem b0S (ho : Q4 mo) {st : Stt} : (mo.moves st).length <= 17000 := by
 have h1 := Mo.mvP_len ho (st := st) (Nat.le_refl _)
 have h2 := Mo.mvC_len (mo := mo) (st := st) (i := mo.chans.length)
 have := ho.np
 have := ho.nc
 rw [Mo.moves_eq, List.length_append]
 split
 ·omega
 ·simp only [List.length_nil]; omega
end Go.V
namespace Go.V
def aB (l : List Bool) (i : Nat) : Bool := l.getD i false
structure Code {α β : Type} (A : α -> Prop) (sz : α -> Nat) (e : α -> β -> List Bool) (d : α -> List Bool -> Option (β × List Bool)) (V : α -> β -> Prop) : Prop where
 enc : ∀ a b r, A a -> V a b -> d a (e a b ++ r) = some (b, r)
 dec : ∀ a l b r, A a -> sz a <= l.length -> d a l = some (b, r) -> V a b /\ l = e a b ++ r
 len : ∀ a b, V a b -> (e a b).length = sz a
theorem b99 (w : Nat) : ((2 ^ w : Nat) : Int) = 2 ^ w := by simp
theorem c0M {n : Int} {w : Nat} (h : w <= 16) : IntKind.i64.wrap (b00 .i64 n (2 ^ w - 1)) = n % 2 ^ w := by
 show IntKind.i64.wrap ((BitVec.ofInt IntKind.i64.bits n &&& BitVec.ofInt IntKind.i64.bits (2 ^ w - 1)).toNat : Int) = n % 2 ^ w
 have hp : 2 ^ w <= 2 ^ 16 := Nat.pow_le_pow_right (by omega) h
 have hp0 : 0 < 2 ^ w := Nat.pos_of_ne_zero (by simp)
 have hc : ((2 ^ w : Nat) : Int) = 2 ^ w := by simp
 have a2 : (BitVec.ofInt IntKind.i64.bits (2 ^ w - 1)).toNat = 2 ^ w - 1 := by
  rw [BitVec.toNat_ofInt, show IntKind.i64.bits = 64 from rfl, <- hc]
  rw [Int.emod_eq_of_lt (by omega) (by omega)]
  omega
 have e1 : (BitVec.ofInt IntKind.i64.bits n &&& BitVec.ofInt IntKind.i64.bits (2 ^ w - 1)).toNat = (n % 2 ^ 64).toNat % 2 ^ w := by
  rw [BitVec.toNat_and, a2, Nat.and_two_pow_sub_one_eq_mod, BitVec.toNat_ofInt]
  rfl
 rw [e1]
 have h0 : 0 <= n % 2 ^ 64 := Int.emod_nonneg _ (by decide)
 have hm := Nat.mod_lt (n % 2 ^ 64).toNat hp0
 rw [O4 (by omega) (by omega), Int.natCast_emod, Int.toNat_of_nonneg h0, hc]
 exact Int.emod_emod_of_dvd _ (b2M (w := w) (v := 64) (by omega))
end Go.V
namespace Go.Proofs.YtnjlhebkhjcagaaGreat
open Go.V
set_option maxRecDepth 100000
set_option maxHeartbeats 4000000
theorem a8i {w : Nat} (h : w <= 16) : (2 : Int) ^ w <= 65536 /\ (1 : Int) <= 2 ^ w := by
 have h1 : 2 ^ w <= 2 ^ 16 := Nat.pow_le_pow_right (by omega) h
 have h2 : 0 < 2 ^ w := Nat.two_pow_pos w
 have := b99 w
 omega
theorem b11 {w : Nat} {k : IntKind} (h : w <= 16) : a27 .shl .i64 1 (w : Int) = some (.int .i64 (2 ^ w)) := by
 have := a8i h
 unfold a27
 rw [if_neg (by omega)]
 simp only [Int.toNat_natCast]
 rw [show min w IntKind.i64.bits = w by rw [show IntKind.i64.bits = 64 from rfl]; omega, Int.one_mul, O4 (by omega) (by omega)]
theorem c06 {n : Int} (h1 : 1 <= n) (h2 : n <= 16) : Eqc vfs 119 [.int .i64 n] (.int .i64 n) := by
 have e1 : max n 1 = n := by omega
 have e2 : min n 16 = n := by omega
 refine U0 ?_
 refine P2 (vf := a8U) rfl ?_
 unfold a8U; refine zF ?_
 exact zZ (aN e1 e2)
theorem b0E {x : Int} {w : Nat} (hx : a0p x) (h1 : 1 <= w) (h2 : w <= 16) : Eqc vfs 98 [.int .i64 x, .int .i64 (w : Int)] (.int .i64 (O2 x w)) := by
 have hb := c06 (n := (w : Int)) (by omega) (by omega)
 have s1 := b11 (w := w) (k := .i64) h2
 have s2 := b11 (w := w - 1) (k := .i64) (by omega)
 have p1 := a8i h2
 have p2 := a8i (w := w - 1) (by omega)
 have ew : IntKind.i64.wrap ((w : Int) - 1) = ((w - 1 : Nat) : Int) := by rw [O4 (by omega) (by omega)]; omega
 have e1 : IntKind.i64.wrap ((2 : Int) ^ w - 1) = 2 ^ w - 1 := O4 (by omega) (by omega)
 have hm := c0M (n := x) h2
 have h3 := Int.emod_nonneg x (b := 2 ^ w) (by omega)
 have h4 := Int.emod_lt_of_pos x (a4P w)
 have e2 : IntKind.i64.wrap (x % 2 ^ w - 2 ^ w) = x % 2 ^ w - 2 ^ w := O4 (by omega) (by omega)
 refine U0 ?_
 refine P2 (vf := a7x) rfl ?_
 unfold a7x; refine zF ?_
 by_cases hc : 2 ^ (w - 1) <= x % 2 ^ w
 ·rw [a9o h1, if_pos hc]
  exact zZ (aN hb (aN s1 (aN s2 (aN ew (aN e1 (aN hm (aN hc e2)))))))
 ·rw [a9o h1, if_neg hc]
  exact zZ (aN hb (aN s1 (aN s2 (aN ew (aN e1 (aN hm hc))))))
theorem b3P {x : Int} {w : Nat} (hx : a0p x) (h1 : 1 <= w) (h2 : w <= 16) : Eqc vfs 73 [.int .i64 x, .int .i64 (w : Int)] (.bool (decide (O2 x w = x))) := by
 have ht := b0E hx h1 h2
 refine U0 ?_
 refine P2 (vf := a8x) rfl ?_
 unfold a8x; refine zF ?_
 exact zZ ht
end Go.Proofs.YtnjlhebkhjcagaaGreat
namespace Go.V
variable {fs : FuncId -> Option M6}
theorem b33 (l : List Bool) : (S2 l).flatten = a2Y l := by
 induction l with
 | nil => rfl
 | cons b l ih => show [.bool b] ++ (S2 l).flatten = _; rw [ih]; rfl
structure GrB (s0 s : M1) (ids : List Nat) (A B R : Hs) (d : D) (l : List Bool) (E : Hs) : Prop where
 rp : Rp d 1 (S2 l) E
 hp : Hp s (A ++ E ++ B) R
 fr : Fr ids s0 s
 nw : ∀ e ∈ E, e.1 ∈ ids ∨ s0.next <= e.1
theorem GrB.frz {s0 s : M1} {ids : List Nat} {A B R E : Hs} {d : D} {l : List Bool} (h : GrB s0 s ids A B R d l E) : ∃ d', ice s.get 20 d = some d' /\ FL 1 d' (S2 l) := a30 h.rp h.hp (fun e he => by simp [he]) (a3j _) (b3R _)
attribute [go_sem] b7w
theorem a6M {i t fo args rest s K} {env : Env} {f : FuncId} {caps : List D} {l : List D} {P : D -> M1 -> Prop} (hf : env.ev fo = .fn f caps) (hr : EvP fs f l s P) (ha : env.evL args ++ caps = l)
 (h : ∀ d s', P d s' -> XQ fs [] rest ((t, d) :: env) s' K) : WQ fs [] ((i, ⟨some t, .m (.call .raw fo args), none⟩) :: rest) env s K := by
 subst ha
 obtain ⟨d, s', ⟨n, hn⟩, hp⟩ := hr
 exact a9e ⟨n, by simp only [evM, a0K, hf]; exact hn⟩ (a05 (h d s' hp))
def GrL (s0 s : M1) (R : Hs) (d : D) (l : List Bool) (E : Hs) : Prop := GrB s0 s [] [] [] R d l E
theorem GrB.base {s0 s s' : M1} {R R' E E' : Hs} {d d' : D} {l l' : List Bool} (h : GrB s s' (E.map Prod.fst) [] [] R' d' l' E') (h0 : GrL s0 s R d l E) : GrL s0 s' R' d' l' E' := by
 have nE : ∀ i ∈ E.map Prod.fst, s0.next <= i := fun i hi => by
  obtain ⟨e, he, rfl⟩ := List.mem_map.1 hi
  rcases h0.nw e he with h | h
  ·simp at h
  ·exact h
 refine ⟨h.rp, h.hp, ⟨Nat.le_trans h0.fr.1 h.fr.1, fun j hj _ => ?_⟩, fun e he => .inr ?_⟩
 ·rw [h.fr.2 j (Nat.lt_of_lt_of_le hj h0.fr.1) fun hc => by have := nE j hc; omega, h0.fr.2 j hj (by simp)]
 ·rcases h.nw e he with h | h
  ·exact nE _ h
  ·exact Nat.le_trans h0.fr.1 h
theorem GrL.mv {s0 s s' : M1} {R E : Hs} {d : D} {l : List Bool} (h : GrL s0 s R d l E) (hf : Fr [] s s') : GrL s0 s' R d l E :=
 ⟨h.rp, h.hp.fr hf, h.fr.trans hf (by simp), h.nw⟩
theorem GrL.nil {s0 s : M1} {R : Hs} (h : Has s R) (hf : Fr [] s0 s) : GrL s0 s R .nils [] [] := ⟨.inl ⟨rfl, rfl, rfl⟩, ⟨List.nodup_nil, by simp, by simp [Has], h⟩, hf, by simp⟩
theorem a2G {s : M1} {z o : N9} : Fr [] s ((s.push z).set s.next (some o)) := (Fr.push _).thenSet _ (.inr (Nat.le_refl _))
theorem GrL.lt {s0 s : M1} {R E : Hs} {d : D} {l : List Bool} (h : GrL s0 s R d l E) {id : Nat} (hm : id ∈ E.map Prod.fst) : id < s.next := by
 obtain ⟨e, he, h1⟩ := List.mem_map.1 hm
 rw [<- h1]
 exact M7 (h.hp.w e (by simp [he]))
theorem GrL.sub {s0 s : M1} {R R' E : Hs} {d : D} {l : List Bool} (h : GrL s0 s R d l E) (hr : ∀ x ∈ R', x ∈ R) : GrL s0 s R' d l E :=
 ⟨h.rp, h.hp.sub (List.Sublist.refl _) hr, h.fr, h.nw⟩
theorem GrL.box {s0 s : M1} {R E : Hs} {d : D} {l : List Bool} (h : GrL s0 s R d l E) {z : N9} {cs : List D} : GrL s0 ((s.push z).set s.next (some (.cells cs))) ((s.next, cs) :: R) d l E := by
 have h2 := h.mv (a2G (z := z) (o := .cells cs))
 refine ⟨h.rp, h2.hp.addR1 (P6 (by simp)) fun w hw heq => ?_, h.fr.trans a2G (by simp), h.nw⟩
 have hw' : w ∈ E := by simpa using hw
 have := h.lt (List.mem_map_of_mem hw')
 omega
theorem c2u {l : List Bool} {i : Nat} : bAt l i = aB l i := rfl
attribute [go_sem] c2u
def Rdr (s : M1) (r : Nat) (l : List Bool) : Prop := ∃ d, s.get r = some (.cells [d]) /\ FL 1 d (S2 l)
theorem Hp.frI {s s' : M1} {W R : Hs} {ids : List Nat} (h : Hp s W R) (hf : Fr ids s s') (hn : ∀ w ∈ W ++ R, w.1 ∉ ids) : Hp s' W R :=
 ⟨h.nd, h.ap, fun w hw => by rw [hf.2 _ (M7 (h.w w hw)) (hn w (by simp [hw])), h.w w hw], fun w hw => by rw [hf.2 _ (M7 (h.r w hw)) (hn w (by simp [hw])), h.r w hw]⟩
structure GrZ (n0 : Nat) (s : M1) (R : Hs) (d : D) (l : List Int) (E : Hs) : Prop where
 rp : Rp d 1 (V7 l) E
 hp : Hp s E R
 nw : ∀ e ∈ E, n0 <= e.1
theorem GrZ.fr {n0 : Nat} {s s' : M1} {R E : Hs} {d : D} {l : List Int} {ids : List Nat} (h : GrZ n0 s R d l E) (hf : Fr ids s s') (h1 : ∀ i ∈ ids, i < n0) (h2 : ∀ x ∈ R, x.1 ∉ ids) : GrZ n0 s' R d l E :=
 ⟨h.rp, h.hp.frI hf fun w hw hi => by
  rcases List.mem_append.1 hw with hw | hw
  ·have := h.nw w hw
   have := h1 _ hi
   omega
  ·exact h2 w hw hi, h.nw⟩
structure UnW (mcs : List D) (s : M1) (dA dV dC : D) (W : Hs) : Prop where
 hp : Hp s ((3, [dA, dV, dC, .int .i64 0]) :: (1, [.nils, .nils, .nils, .int .i64 0]) :: W) [(0, mcs)]
 nw : ∀ e ∈ W, 4 <= e.1
theorem UnW.lt {mcs : List D} {s : M1} {dA dV dC : D} {W : Hs} (h : UnW mcs s dA dV dC W) : 3 < s.next := M7 (h.hp.w (3, [dA, dV, dC, .int .i64 0]) (by simp))
theorem UnW.fr {mcs : List D} {s s' : M1} {dA dV dC : D} {W : Hs} {ids : List Nat} (h : UnW mcs s dA dV dC W) (hf : Fr ids s s') (hi : ∀ i ∈ ids, i = 2) : UnW mcs s' dA dV dC W :=
 ⟨h.hp.frI hf fun w hw hn => by
  have := hi _ hn
  simp only [List.cons_append, List.mem_cons, List.mem_append, List.not_mem_nil, or_false] at hw
  rcases hw with rfl | rfl | hw | rfl
  ·simp at this
  ·simp at this
  ·have := h.nw w hw; omega
  ·simp at this, h.nw⟩
theorem Rdr.fr {s s' : M1} {l : List Bool} {r : Nat} (h : Rdr s r l) (hf : Fr [] s s') : Rdr s' r l := by
 obtain ⟨d, h1, h2⟩ := h
 exact ⟨d, by rw [hf.2 _ (M7 h1) (by simp), h1], h2⟩
end Go.V
namespace Go.Proofs.YtnjlhebkhjcagaaGreat
open Go.V
set_option maxRecDepth 100000
set_option maxHeartbeats 4000000
variable {m : MdX} {mo : Mo} {ps : List (Pr × PrD)} {x : StD} {st : Stt}
theorem c3o {s : M1} {id : Nat} {c : Ch} {n : Int} (hg : s.get id = some (.cells [.str c.name, .int .i64 c.room, .int .i64 c.width, .bool c.lossy, .bool c.copying])) (hn : a0p n) (h1 : 1 <= c.width) (h2 : c.width <= 8) :
 EvP vfs 74 [.int .i64 n, .ptr id 0] s fun r s' => r = .bool (!decide (O2 n c.width.toNat = n)) /\ s' = s := by
 have hb := b3P (x := n) (w := c.width.toNat) hn (by omega) (by omega)
 rw [Int.toNat_of_nonneg (by omega)] at hb
 refine Z0 (vf := a9F) rfl ?_
 unfold a9F; refine zF ?_
 refine zY (aN hg hb) ?_
 exact ⟨rfl, rfl⟩
theorem b98 {s : M1} {id : Nat} {c : Ch} {d : D} {l : List Int} (hd : FI d l) (hll : l.length <= 1000) (hg : s.get id = some (.cells [.str c.name, .int .i64 c.room, .int .i64 c.width, .bool c.lossy, .bool c.copying])) (hn : ∀ n ∈ l, a0p n /\ O2 n c.width.toNat = n) (h1 : 1 <= c.width) (h2 : c.width <= 8) :
 EvP vfs 99 [d, .fn 74 [.ptr id 0]] s fun r s' => r = .int .i64 (-1) /\ s' = s := by
 refine Z0 (vf := a60) rfl ?_
 unfold a60; refine zF ?_
 refine zY hd ?_
 refine V8 [0, 1, 7] 0 l.length (fun i f s' => f 8 = .int .i64 (i : Int) /\ s' = s) (.mk rfl) (by omega) ⟨rfl, rfl⟩ ?_
 rintro i f s' hi ⟨hE, rfl⟩
 by_cases ci : i < l.length
 ·have hw := hn _ (a6d ci)
  have hc := c3o hg hw.1 h1 h2
  rw [hw.2] at hc
  refine zY (aN hE (aN hd ci)) ?_
  refine a6M rfl hc rfl ?_
  rintro r s2 ⟨rfl, rfl⟩
  refine zY (aN hE ci) ?_
  trivial
 ·refine zY (aN hE ci) ?_
  exact ⟨rfl, rfl⟩
theorem b7V {s : M1} {id : Nat} {c : Ch} {d : D} {l : List Int} (hd : FI d l) (hll : l.length <= 1000) (hg : s.get id = some (.cells [.str c.name, .int .i64 c.room, .int .i64 c.width, .bool c.lossy, .bool c.copying])) (hn : ∀ n ∈ l, a0p n /\ O2 n c.width.toNat = n) (h1 : 1 <= c.width) (h2 : c.width <= 8) :
 EvP vfs 75 [d, .fn 74 [.ptr id 0]] s fun r s' => r = .bool false /\ s' = s := by
 have hi := b98 hd hll hg hn h1 h2
 refine Z0 (vf := a8Q) rfl ?_
 unfold a8Q; refine zF ?_
 refine zY0 ?_
 refine a1K hi rfl ?_
 rintro r s2 ⟨rfl, rfl⟩
 refine zY0 ?_
 exact ⟨rfl, rfl⟩
structure b1G (mo : Mo) (x : StD) (st : Stt) : Prop where
 f : StF x st
 e : St8 st
 fit : Fit mo { st with hold := -1 }
 hd : a0p st.hold
theorem b0O (hm : MoF m mo ps) (ho : Q4 mo) (hf : a0m mo) (hx : b1G mo x st) : Eqc vfs 51 [.agg [m.dt, .int .i64 m.g, m.dc, m.dv, m.dp, m.ds, .bool m.b], .agg [x.da, x.dv, x.dc, .int .i64 st.hold]] (.bool (decide (-1 <= st.hold /\ st.hold < (mo.procs.length : Int)))) := by
 have om := hm.ones
 have ox := hx.f.ones
 have hxa := hx.f.a
 have hxv := hx.f.v
 have hxf := hx.f
 have hmv := hm.v
 have hmc := hm.c
 have ea : st.at'.length = mo.procs.length := hx.fit.at'
 have ev : st.vars.length = mo.vars.length := hx.fit.vars
 have ec : st.chans.length = mo.chans.length := hx.fit.chans
 have hnp := ho.np
 have hnv := ho.nv
 have hnc := ho.nc
 refine U0 ?_
 refine P2 (vf := a9H) rfl ?_
 unfold a9H; refine zF ?_
 refine zY (aN om (aN ox (aN ea (aN ev ec)))) ?_
 have g0 : ((M1.empty.push (.cells [m.dt, .int .i64 m.g, m.dc, m.dv, m.dp, m.ds, .bool m.b])).push (.cells [x.da, x.dv, x.dc, .int .i64 st.hold])).get 0 = some (.cells [m.dt, .int .i64 m.g, m.dc, m.dv, m.dp, m.ds, .bool m.b]) := by simp (disch := (first|exact Rf.mk rfl|with_reducible assumption|omega|((repeat (first|rw [nP]|rw [nS]|rw [N5]))<;>omega)|decide)) only [go_sem, ↓reduceIte]
 have g1 : ((M1.empty.push (.cells [m.dt, .int .i64 m.g, m.dc, m.dv, m.dp, m.ds, .bool m.b])).push (.cells [x.da, x.dv, x.dc, .int .i64 st.hold])).get 1 = some (.cells [x.da, x.dv, x.dc, .int .i64 st.hold]) := by simp (disch := (first|exact Rf.mk rfl|with_reducible assumption|omega|((repeat (first|rw [nP]|rw [nS]|rw [N5]))<;>omega)|decide)) only [go_sem, ↓reduceIte]
 generalize (M1.empty.push (.cells [m.dt, .int .i64 m.g, m.dc, m.dv, m.dp, m.ds, .bool m.b])).push (.cells [x.da, x.dv, x.dc, .int .i64 st.hold]) = s0 at *
 refine V8 [0, 1, 2, 3, 7, 8, 9, 10, 11, 12, 37, 39, 40, 60, 61, 62, 63, 75, 78, 79, 80, 81, 100] 0 mo.procs.length (fun i f s => f 41 = .int .i64 (i : Int) /\ s = s0) (.mk rfl) (by omega) ⟨rfl, rfl⟩ ?_
 rintro i f s hi ⟨hE, rfl⟩
 by_cases ci : i < mo.procs.length
 ·have ci' : i < st.at'.length := by omega
  have hpl := hx.fit.pl i ci' ci
  have e1 : ¬ ((nAt st.at' i : Nat) : Int) < 0 := by omega
  have e2 : nAt st.at' i < (pAt mo.procs i).places := by rw [a28 ci', a2r ci]; exact hpl
  have e3 : ¬ (pAt mo.procs i).places <= nAt st.at' i := by omega
  exact zZ (aN hE (aN ci (aN ci' (aN g0 (aN g1 (aN om (aN ox (aN e1 (aN e2 e3)))))))))
 obtain rfl : i = mo.procs.length := by omega
 refine zY (aN hE (aN ci (aN g0 (aN g1 (aN om (aN ox ev)))))) ?_
 refine V8 [0, 1, 2, 3, 5, 6, 9, 10, 11, 12, 37, 39, 40, 41, 42, 57, 60, 61, 78, 79, 80, 81, 100] 0 mo.vars.length (fun i f s' => f 62 = .int .i64 (i : Int) /\ s' = s) (.mk rfl) (by omega) ⟨rfl, rfl⟩ ?_
 clear hi ci hE
 rintro i f s hi ⟨hE, rfl⟩
 by_cases ci : i < mo.vars.length
 ·have ci' : i < st.vars.length := by omega
  have hvr : O2 st.vars[i] mo.vars[i].width.toNat = st.vars[i] := hx.fit.vr i ci' ci
  have h8 := hx.e.v _ (a6d ci')
  unfold I8 at h8
  have hw := hf.vr _ (a3R ci)
  have hb := b3P (x := zAt st.vars i) (w := (vAt mo.vars i).width.toNat) ⟨by omega, by omega⟩ (by omega) (by omega)
  rw [Int.toNat_of_nonneg (by omega), show O2 (zAt st.vars i) (vAt mo.vars i).width.toNat = zAt st.vars i by rw [a2A ci', a3O ci]; exact hvr, decide_eq_true rfl] at hb
  exact zZ (aN hE (aN ci (aN ci' (aN g0 (aN g1 (aN om (aN ox hb)))))))
 obtain rfl : i = mo.vars.length := by omega
 refine zY (aN hE (aN ci (aN g0 (aN g1 (aN om (aN ox ec)))))) ?_
 refine V8 [0, 1, 2, 3, 5, 6, 7, 8, 37, 39, 40, 41, 42, 57, 60, 61, 62, 63, 75, 78, 79] 0 mo.chans.length (fun i f s' => f 80 = .int .i64 (i : Int) /\ s'.get 0 = some (.cells [m.dt, .int .i64 m.g, m.dc, m.dv, m.dp, m.ds, .bool m.b]) /\ s'.get 1 = some (.cells [x.da, x.dv, x.dc, .int .i64 st.hold])) (.mk rfl) (by omega) ⟨rfl, g0, g1⟩ ?_
 clear hi ci hE g0 g1
 rintro i f s hi ⟨hE, g0, g1⟩
 have l0 := M7 g0
 have l1 := M7 g1
 by_cases ci : i < mo.chans.length
 ·have ci' : i < st.chans.length := by omega
  have hcl := hx.fit.cl i ci' ci
  have hcv := hx.fit.cv i ci' ci
  have h8 := hx.e.c _ (b9J ci')
  have hw := hf.ch _ (a3X ci)
  have e1 : ¬ (Q0 mo.chans i).room < ((cAt st.chans i).length : Int) := by
   have : ((cAt st.chans i).length : Int) <= (Q0 mo.chans i).room := by rw [a1E ci', a1H ci]; exact hcl
   omega
  have hn : ∀ n ∈ cAt st.chans i, a0p n /\ O2 n (Q0 mo.chans i).width.toNat = n := fun n hn => by
   have := h8.2 n hn
   unfold I8 at this
   refine ⟨⟨by omega, by omega⟩, ?_⟩
   rw [a1E ci'] at hn
   rw [a1H ci]; exact hcv n hn
  have hco := fun s2 id hg => b7V (s := s2) (id := id) (c := Q0 mo.chans i) (a8r hxf ci') (by omega) hg hn hw.2.2.1 hw.2.2.2
  refine zY (aN hE (aN ci (aN ci' (aN g0 (aN g1 (aN om (aN ox e1))))))) ?_
  refine a1K (hco _ s.next (P6 (by simp))) rfl ?_
  rintro r s2 ⟨rfl, rfl⟩
  refine zY (aN hE (aN ci (aN g0 g1))) ?_
  trivial
 obtain rfl : i = mo.chans.length := by omega
 have hh := hx.hd
 by_cases c1 : -1 <= st.hold
 ·refine zY (aN hE (aN ci (aN g0 (aN g1 (aN om (aN ox c1)))))) ?_
  simp
 ·refine zY (aN hE (aN ci (aN g0 (aN g1 (aN om (aN ox c1)))))) ?_
  simp
end Go.Proofs.YtnjlhebkhjcagaaGreat
namespace Go.Proofs.YtnjlhebkhjcagaaGreat
open Go.V
set_option maxRecDepth 100000
set_option maxHeartbeats 4000000
variable {m : MdX} {mo : Mo} {ps : List (Pr × PrD)} {x : StD} {st : Stt}
theorem a3g {b : Bool} : Eqc vfs 136 [.bool b] (.int .i64 (a17 b)) := by
 refine U0 ?_
 cases b
 ·refine P2 (vf := a4p) rfl ?_
  unfold a4p; refine zF ?_
  refine zY0 ?_
  rfl
 ·refine P2 (vf := a4p) rfl ?_
  unfold a4p; refine zF ?_
  refine zY0 ?_
  rfl
theorem a24 {x : Int} (h1 : -4294967296 <= x) (h2 : x <= 4294967296) : Eqc vfs 98 [.int .i64 x, .int .i64 8] (.int .i64 (O2 x 8)) := b0E (w := 8) ⟨by omega, by omega⟩ (by decide) (by decide)
theorem b9c {a b : Int} (ha : I8 a) : -128 <= a.tdiv b /\ a.tdiv b <= 128 := by
 unfold I8 at ha
 have h1 : (a.tdiv b).natAbs <= a.natAbs := by
  rw [Int.natAbs_tdiv]; exact Nat.div_le_self _ _
 omega
theorem c4a {a b : Int} (ha : I8 a) : -128 <= a.tmod b /\ a.tmod b <= 128 := by
 unfold I8 at ha
 have h1 : (a.tmod b).natAbs <= a.natAbs := by
  rw [Int.natAbs_tmod]; exact Nat.mod_le _ _
 omega
theorem c0c {op : Nat} (hop : op <= 8) {a b : Int} (ha : I8 a) (hb : I8 b) : Eqc vfs 137 [.int .i64 (op : Int), .int .i64 a, .int .i64 b] (.tup [.int .i64 (U6 (op : Int) a b).1, .bool (U6 (op : Int) a b).2]) := by
 have ha' := ha
 have hb' := hb
 unfold I8 at ha' hb'
 have hq := b9c (b := b) ha
 have hr := c4a (b := b) ha
 have hm : -16384 <= a * b /\ a * b <= 16384 := by
  have h1 : (a * b).natAbs <= 128 * 128 := by
   rw [Int.natAbs_mul]
   exact Nat.mul_le_mul (by omega) (by omega)
  omega
 have e1 : IntKind.i64.wrap (a + b) = a + b := O4 (by omega) (by omega)
 have e2 : IntKind.i64.wrap (a - b) = a - b := O4 (by omega) (by omega)
 have e3 : IntKind.i64.wrap (a * b) = a * b := O4 (by omega) (by omega)
 have e4 : IntKind.i64.wrap (a.tdiv b) = a.tdiv b := O4 (by omega) (by omega)
 have e5 : IntKind.i64.wrap (a.tmod b) = a.tmod b := O4 (by omega) (by omega)
 have t1 := a24 (x := a + b) (by omega) (by omega)
 have t2 := a24 (x := a - b) (by omega) (by omega)
 have t3 := a24 (x := a * b) (by omega) (by omega)
 have t4 := a24 (x := a.tdiv b) (by omega) (by omega)
 have t5 := a24 (x := a.tmod b) (by omega) (by omega)
 refine U0 ?_
 obtain rfl | rfl | rfl | rfl | rfl | rfl | rfl | rfl | rfl : op = 0 ∨ op = 1 ∨ op = 2 ∨ op = 3 ∨ op = 4 ∨ op = 5 ∨ op = 6 ∨ op = 7 ∨ op = 8 := by omega
 ·by_cases a0 : a = 0
  ·refine P2 (vf := W5) rfl ?_
   unfold W5; refine zF ?_
   simp (disch := (first|exact Rf.mk rfl|with_reducible assumption|omega|((repeat (first|rw [nP]|rw [nS]|rw [N5]))<;>omega)|decide)) only [go_sem, ↓reduceIte, a3g, a0]
   simp [U6, a0]
  ·refine P2 (vf := W5) rfl ?_
   unfold W5; refine zF ?_
   simp (disch := (first|exact Rf.mk rfl|with_reducible assumption|omega|((repeat (first|rw [nP]|rw [nS]|rw [N5]))<;>omega)|decide)) only [go_sem, ↓reduceIte, a3g, a0]
   simp [U6, a0]
 ·by_cases a0 : a = 0
  ·refine P2 (vf := W5) rfl ?_
   unfold W5; refine zF ?_
   simp (disch := (first|exact Rf.mk rfl|with_reducible assumption|omega|((repeat (first|rw [nP]|rw [nS]|rw [N5]))<;>omega)|decide)) only [go_sem, ↓reduceIte, a3g, a0]
   simp [U6, a0]
  ·refine P2 (vf := W5) rfl ?_
   unfold W5; refine zF ?_
   simp (disch := (first|exact Rf.mk rfl|with_reducible assumption|omega|((repeat (first|rw [nP]|rw [nS]|rw [N5]))<;>omega)|decide)) only [go_sem, ↓reduceIte, a3g, a0]
   simp [U6, a0]
 ·refine P2 (vf := W5) rfl ?_
  unfold W5; refine zF ?_
  simp (disch := (first|exact Rf.mk rfl|with_reducible assumption|omega|((repeat (first|rw [nP]|rw [nS]|rw [N5]))<;>omega)|decide)) only [go_sem, ↓reduceIte, a3g]
  simp [U6]
 ·refine P2 (vf := W5) rfl ?_
  unfold W5; refine zF ?_
  simp (disch := (first|exact Rf.mk rfl|with_reducible assumption|omega|((repeat (first|rw [nP]|rw [nS]|rw [N5]))<;>omega)|decide)) only [go_sem, ↓reduceIte, a3g]
  simp [U6]
 ·refine P2 (vf := W5) rfl ?_
  unfold W5; refine zF ?_
  refine zY (aN e1 t1) ?_
  simp [U6, doZ]
 ·refine P2 (vf := W5) rfl ?_
  unfold W5; refine zF ?_
  refine zY (aN e2 t2) ?_
  simp [U6, doZ]
 ·refine P2 (vf := W5) rfl ?_
  unfold W5; refine zF ?_
  refine zY (aN e3 t3) ?_
  simp [U6, doZ]
 ·by_cases b0 : b = 0
  ·refine P2 (vf := W5) rfl ?_
   unfold W5; refine zF ?_
   refine zY b0 ?_
   simp [U6, b0]
  ·refine P2 (vf := W5) rfl ?_
   unfold W5; refine zF ?_
   simp (disch := (first|exact Rf.mk rfl|with_reducible assumption|omega|((repeat (first|rw [nP]|rw [nS]|rw [N5]))<;>omega)|decide)) only [go_sem, ↓reduceIte, b0, e4, t4]
   simp [U6, doZ, b0]
 ·by_cases b0 : b = 0
  ·refine P2 (vf := W5) rfl ?_
   unfold W5; refine zF ?_
   refine zY b0 ?_
   simp [U6, b0]
  ·refine P2 (vf := W5) rfl ?_
   unfold W5; refine zF ?_
   refine zY (aN b0 (aN e5 t5)) ?_
   simp [U6, doZ, b0]
theorem b8u {s : M1} {d : D} {l : List ByteArray} {w : ByteArray} (hd : FL 1 d (V9 l)) (hl : l.length <= 1000) : EvP vfs 132 [d, .str w] s fun r s' => r = .int .i64 (if idxB l w < l.length then (idxB l w : Int) else -1) /\ s' = s := by
 have hln : S6 false d = some (.int .i64 (l.length : Int)) := by rw [hd.len, a8L]
 refine Z0 (vf := a66) rfl ?_
 unfold a66; refine zF ?_
 refine zY hln ?_
 refine V8 [0, 1, 7] 0 l.length (fun i f s' => f 8 = .int .i64 (i : Int) /\ s' = s /\ ∀ j (hj : j < l.length), j < i -> l[j] ≠ w) (.mk rfl) (by omega) ⟨rfl, rfl, fun j _ h => by omega⟩ ?_
 rintro i f s' hi ⟨hE, rfl, hall⟩
 by_cases ci : i < l.length
 ·have hidx := FLS.idx hd ci (k := .i64)
  by_cases c4 : l[i] = w
  ·have c5 : w = l[i] := c4.symm
   refine zY (aN hE (aN hln (aN ci (aN hidx c5)))) ?_
   rw [<- c5, a4f ci c4 hall, if_pos ci]
   exact ⟨rfl, rfl⟩
  ·have c5 : ¬ w = l[i] := fun h => c4 h.symm
   refine zY (aN hE (aN hln (aN ci (aN hidx c5)))) ?_
   intro j hj hji
   by_cases ej : j = i
   ·subst ej; exact c4
   ·exact hall j hj (by omega)
 ·refine zY (aN hE (aN hln ci)) ?_
  rw [if_neg (a3N fun j hj => hall j hj (by omega))]
  trivial
theorem b9n (hm : MoF m mo ps) (ho : Q4 mo) (hx : StF x st) (hvl : st.vars.length = mo.vars.length) {s : M1} {i pid mid sid : Nat} (hi : i < mo.procs.length) (g0 : s.get pid = some (.cells [.int .i64 (i : Int)])) (g1 : s.get mid = some (.cells [m.dt, .int .i64 m.g, m.dc, m.dv, m.dp, m.ds, .bool m.b])) (g2 : s.get sid = some (.cells [x.da, x.dv, x.dc, .int .i64 st.hold])) {w : ByteArray} :
 EvP vfs 129 [.str w, .ptr pid 0, .ptr mid 0, .ptr sid 0] s fun r s' => r = .tup [.int .i64 (match Q8 (pAt mo.procs i) w with | none => 0 | some v => zAt st.vars v), .bool (Q8 (pAt mo.procs i) w).isSome] /\ Fr [] s s' := by
 have om := hm.ones
 have ox := hx.ones
 have hxv := hx.v
 have hp := a2c hm hi
 have hpo := ho.pr _ (a0R hi)
 have hnl := hpo.nl
 have hnv := ho.nv
 have hsm := hpo.same
 have l0 := M7 g0
 have l1 := M7 g1
 have l2 := M7 g2
 have c1 : ¬ ((i : Int) < 0) := by omega
 have c2 : ¬ mo.procs.length <= i := by omega
 have hix := fun s => b8u (s := s) (w := w) hp.n (by omega)
 refine Z0 (vf := a9n) rfl ?_
 unfold a9n; refine zF ?_
 refine zY (aN g0 (aN g1 (aN g2 (aN om (aN ox (aN hi (aN c1 c2))))))) ?_
 refine a1K (hix _) rfl ?_
 rintro r s1 ⟨rfl, rfl⟩
 by_cases c : idxB (pAt mo.procs i).names w < (pAt mo.procs i).names.length
 ·have hvi : idxB (pAt mo.procs i).names w < (pAt mo.procs i).vars.length := by omega
  have hidv := FLN.idx hp.v hvi (k := .i64)
  have hvb := hpo.var _ (List.getElem_mem hvi)
  have hlk : Q8 (pAt mo.procs i) w = some ((pAt mo.procs i).vars[idxB (pAt mo.procs i).names w]) := by
   unfold Q8
   rw [if_pos c]
   simp [List.getD, hvi]
  rw [hlk]
  have hvb' : (pAt mo.procs i).vars[idxB (pAt mo.procs i).names w] < st.vars.length := by omega
  generalize (pAt mo.procs i).vars[idxB (pAt mo.procs i).names w] = v at *
  rw [if_pos c]
  refine zY (aN g0 (aN g1 (aN g2 (aN om (aN ox (aN hidv hvb')))))) ?_
  exact ⟨rfl, ((Fr.push (ids := []) _).trans (Fr.push (ids := []) _) (by simp)).thenSet _ (.inr (by simp))⟩
 ·have hlk : Q8 (pAt mo.procs i) w = none := by
   unfold Q8
   rw [if_neg c]
  rw [hlk, if_neg c]
  refine zY (aN g0 (aN g1 g2)) ?_
  exact ⟨rfl, ((Fr.push (ids := []) _).trans (Fr.push (ids := []) _) (by simp)).thenSet _ (.inr (by simp))⟩
end Go.Proofs.YtnjlhebkhjcagaaGreat
namespace Go.Proofs.YtnjlhebkhjcagaaGreat
open Go.V
set_option maxRecDepth 100000
set_option maxHeartbeats 4000000
variable {m : MdX} {mo : Mo} {ps : List (Pr × PrD)} {x : StD} {st : Stt}
theorem b5l {s : M1} {nid : Nat} {c : Ch} {w : ByteArray} (hg : s.get nid = some (.cells [.str w])) :
 EvP vfs 134 [.agg [.str c.name, .int .i64 c.room, .int .i64 c.width, .bool c.lossy, .bool c.copying], .ptr nid 0] s fun r s' => r = .bool (decide (c.name = w)) /\ Fr [] s s' := by
 have l0 := M7 hg
 refine Z0 (vf := a8E) rfl ?_
 unfold a8E; refine zF ?_
 refine zY hg ?_
 exact ⟨rfl, Fr.push _⟩
theorem b41 (hm : MoF m mo ps) (ho : Q4 mo) {s : M1} {nid : Nat} {w : ByteArray} (hg : s.get nid = some (.cells [.str w])) :
 EvP vfs 135 [m.dc, .fn 134 [.ptr nid 0]] s fun r s' => r = .int .i64 (if idxB mo.ch w < mo.ch.length then (idxB mo.ch w : Int) else -1) /\ Fr [] s s' := by
 have hmc := hm.c
 have hnc := ho.nc
 have hlc := hm.lenC
 have hch : mo.ch.length = mo.chans.length := by simp [Mo.ch]
 have l0 := M7 hg
 refine Z0 (vf := a7W) rfl ?_
 unfold a7W; refine zF ?_
 refine zY hlc ?_
 refine V8 [0, 1, 7] 0 mo.chans.length (fun i f s' => f 8 = .int .i64 (i : Int) /\ Fr [] s s' /\ ∀ j, j < mo.chans.length -> j < i -> (Q0 mo.chans j).name ≠ w) (.mk rfl) (by omega) ⟨rfl, Fr.refl _ _, fun j _ h => by omega⟩ ?_
 rintro i f s' hi ⟨hE, fr, hall⟩
 have hg' := fr.2 nid l0 (by simp)
 rw [hg] at hg'
 by_cases ci : i < mo.chans.length
 ·have hcn := b5l (c := Q0 mo.chans i) hg'
  refine zY (aN hE (aN hlc ci)) ?_
  refine a6M rfl hcn rfl ?_
  rintro r s2 ⟨rfl, fr2⟩
  have fr3 := fr.trans fr2 (by simp)
  by_cases c4 : (Q0 mo.chans i).name = w
  ·rw [decide_eq_true c4]
   refine zY hE ?_
   have hil : i < mo.ch.length := by omega
   have eb := a4f (l := mo.ch) (w := w) hil (by rw [<- c4, a1H ci]; simp [Mo.ch]) (fun j hj hji => by have := hall j (by omega) hji; rw [a1H (by omega)] at this; simpa [Mo.ch] using this)
   rw [eb, if_pos hil]
   exact ⟨rfl, fr3⟩
  ·rw [decide_eq_false c4]
   refine zY (aN hE ci) ?_
   refine ⟨fr3, fun j hj hji => ?_⟩
   by_cases ej : j = i
   ·subst ej; exact c4
   ·exact hall j hj (by omega)
 ·refine zY (aN hE (aN hlc ci)) ?_
  have eb := a3N (l := mo.ch) (w := w) (fun j hj => by have := hall j (by omega) (by omega); rw [a1H (by omega)] at this; simpa [Mo.ch] using this)
  rw [if_neg eb]
  exact ⟨rfl, fr⟩
theorem b6d (hm : MoF m mo ps) (ho : Q4 mo) (hx : StF x st) (hcl : st.chans.length = mo.chans.length) {s : M1} {mid sid : Nat} (g1 : s.get mid = some (.cells [m.dt, .int .i64 m.g, m.dc, m.dv, m.dp, m.ds, .bool m.b])) (g2 : s.get sid = some (.cells [x.da, x.dv, x.dc, .int .i64 st.hold])) {w : ByteArray} :
 EvP vfs 133 [.str w, .ptr mid 0, .ptr sid 0] s fun r s' => r = (if idxB mo.ch w < mo.ch.length then .tup [.int .i64 ((cAt st.chans (idxB mo.ch w)).length : Int), .bool true] else .tup [.int .i64 0, .bool false]) /\ Fr [] s s' := by
 have om := hm.ones
 have ox := hx.ones
 have hxf := hx
 have hch : mo.ch.length = mo.chans.length := by simp [Mo.ch]
 have l1 := M7 g1
 have l2 := M7 g2
 refine Z0 (vf := a7s) rfl ?_
 unfold a7s; refine zF ?_
 refine zY (aN g1 (aN g2 (aN om ox))) ?_
 refine a1K (b41 hm ho (nid := s.next) (w := w) (O5 rfl)) rfl ?_
 rintro r s1 ⟨rfl, fr⟩
 have fr0 : Fr [] s s1 := (Fr.push _).trans fr (by simp)
 have g2' := fr0.2 sid l2 (by simp)
 rw [g2] at g2'
 by_cases c : idxB mo.ch w < mo.ch.length
 ·have c' : idxB mo.ch w < st.chans.length := by omega
  rw [if_pos c, if_pos c]
  generalize idxB mo.ch w = v at *
  refine zY (aN g2' (aN ox c')) ?_
  exact ⟨rfl, fr0⟩
 ·rw [if_neg c, if_neg c]
  refine zY0 ?_
  exact ⟨rfl, fr0⟩
theorem b1x (hm : MoF m mo ps) (ho : Q4 mo) (hx : StF x st) (h8 : St8 st) (hfit : Fit mo { st with hold := -1 }) {i pid mid sid : Nat} (hi : i < mo.procs.length) : ∀ (n k : Nat), k < mo.tree.length -> mo.tree.length - k < n -> a0A (nd mo.tree k).kind -> ∀ (s : M1), s.get pid = some (.cells [.int .i64 (i : Int)]) -> s.get mid = some (.cells [m.dt, .int .i64 m.g, m.dc, m.dv, m.dp, m.ds, .bool m.b]) -> s.get sid = some (.cells [x.da, x.dv, x.dc, .int .i64 st.hold]) ->
 EvP vfs 118 [.agg [m.dt, .fn 129 [.ptr pid 0, .ptr mid 0, .ptr sid 0], .fn 133 [.ptr mid 0, .ptr sid 0]], .int .i64 (k : Int)] s fun r s' => r = .tup [.int .i64 (Q6 mo.tree mo.ch (Q8 (pAt mo.procs i)) st n k).1, .bool (Q6 mo.tree mo.ch (Q8 (pAt mo.procs i)) st n k).2] /\ Fr [] s s'
 | 0, k, _, h, _ => by omega
 | n + 1, k, hk, hn, hex => by
   intro s g0 g1 g2
   have om := hm.ones
   have ox := hx.ones
   have hno := ho.tree.node k hk
   have hidx := hm.tr.at (z := (k : Int)) (by omega) (by omega) (k := .i64)
   rw [Int.toNat_natCast] at hidx
   have on := a0o hm.tr hk
   have hw := a2e hm.tr hk (i := 0)
   have n0 := a13 hm.tr hk (i := 0)
   have z0 : ((0 : Nat) : Int) = 0 := rfl
   have z1 : ((1 : Nat) : Int) = 1 := rfl
   rw [hno.wl, z0] at hw
   rw [hno.nl, z0] at n0
   obtain ⟨hkl, hkx⟩ := a6p hno hex
   have ih : ∀ c, c < (nd mo.tree k).kids.length -> ∀ (s : M1), s.get pid = some (.cells [.int .i64 (i : Int)]) -> s.get mid = some (.cells [m.dt, .int .i64 m.g, m.dc, m.dv, m.dp, m.ds, .bool m.b]) -> s.get sid = some (.cells [x.da, x.dv, x.dc, .int .i64 st.hold]) -> EvP vfs 118 [.agg [m.dt, .fn 129 [.ptr pid 0, .ptr mid 0, .ptr sid 0], .fn 133 [.ptr mid 0, .ptr sid 0]], .int .i64 (((nd mo.tree k).kid c : Nat) : Int)] s fun r s' => r = .tup [.int .i64 (Q6 mo.tree mo.ch (Q8 (pAt mo.procs i)) st n ((nd mo.tree k).kid c)).1, .bool (Q6 mo.tree mo.ch (Q8 (pAt mo.procs i)) st n ((nd mo.tree k).kid c)).2] /\ Fr [] s s' := fun c hc => by
    have h1 := ho.tree.ks hk _ (X2 hc)
    exact b1x hm ho hx h8 hfit hi n _ h1.2 (by omega) (hkx c hc)
   have i8 : ∀ c, I8 (Q6 mo.tree mo.ch (Q8 (pAt mo.procs i)) st n ((nd mo.tree k).kid c)).1 := fun c => b3Z h8 n _
   have k0 := a0d hm.tr ho.tree hk (i := 0)
   have k1 := a0d hm.tr ho.tree hk (i := 1)
   rw [z0] at k0
   rw [z1] at k1
   have l0 := M7 g0
   have l1 := M7 g1
   have l2 := M7 g2
   have keep : ∀ {s' : M1}, Fr [] s s' -> s'.get pid = some (.cells [.int .i64 (i : Int)]) /\ s'.get mid = some (.cells [m.dt, .int .i64 m.g, m.dc, m.dv, m.dp, m.ds, .bool m.b]) /\ s'.get sid = some (.cells [x.da, x.dv, x.dc, .int .i64 st.hold]) := fun fr => ⟨by rw [fr.2 _ l0 (by simp), g0], by rw [fr.2 _ l1 (by simp), g1], by rw [fr.2 _ l2 (by simp), g2]⟩
   unfold Q6
   simp only
   by_cases q17 : (nd mo.tree k).kind = 17
   ·rw [if_pos q17]
    rw [q17] at n0
    have n0 := n0 (by decide)
    have hl := hno.lit q17
    have ht := a24 (x := (nd mo.tree k).num 0) (by omega) (by omega)
    refine Z0 (vf := a1n) rfl ?_
    unfold a1n; refine zF ?_
    refine zY (aN om (aN ox (aN hidx (aN on (aN q17 (aN n0 ht)))))) ?_
    exact ⟨rfl, (((Fr.push (ids := []) _).trans (Fr.push (ids := []) _) (by simp)).thenSet _ (.inr (by simp)))⟩
   rw [if_neg q17]
   by_cases q18 : (nd mo.tree k).kind = 18
   ·rw [if_pos q18]
    rw [q18] at hw
    have hw := hw (by decide)
    refine Z0 (vf := a1n) rfl ?_
    unfold a1n; refine zF ?_
    refine zY (aN om (aN ox (aN hidx (aN on (aN q18 hw))))) ?_
    refine a6M rfl (b9n hm ho hx hfit.vars hi (keep (((Fr.push (ids := []) _).trans (Fr.push (ids := []) _) (by simp)).thenSet _ (.inr (by simp)))).1 (keep (((Fr.push (ids := []) _).trans (Fr.push (ids := []) _) (by simp)).thenSet _ (.inr (by simp)))).2.1 (keep (((Fr.push (ids := []) _).trans (Fr.push (ids := []) _) (by simp)).thenSet _ (.inr (by simp)))).2.2) rfl ?_
    rintro r s2 ⟨rfl, fr⟩
    have fr0 := Fr.trans (((Fr.push (ids := []) _).trans (Fr.push (ids := []) _) (by simp)).thenSet _ (.inr (by simp))) fr (by simp)
    refine zY0 ?_
    refine ⟨?_, fr0⟩
    cases Q8 (pAt mo.procs i) ((nd mo.tree k).word 0) <;> rfl
   rw [if_neg q18]
   by_cases q19 : (nd mo.tree k).kind = 19
   ·rw [if_pos q19]
    rw [q19] at hw
    have hw := hw (by decide)
    refine Z0 (vf := a1n) rfl ?_
    unfold a1n; refine zF ?_
    refine zY (aN om (aN ox (aN hidx (aN on (aN q19 hw))))) ?_
    refine a6M rfl (b6d hm ho hx hfit.chans (keep (((Fr.push (ids := []) _).trans (Fr.push (ids := []) _) (by simp)).thenSet _ (.inr (by simp)))).2.1 (keep (((Fr.push (ids := []) _).trans (Fr.push (ids := []) _) (by simp)).thenSet _ (.inr (by simp)))).2.2) rfl ?_
    rintro r s2 ⟨hr, fr⟩
    have fr0 := Fr.trans (((Fr.push (ids := []) _).trans (Fr.push (ids := []) _) (by simp)).thenSet _ (.inr (by simp))) fr (by simp)
    by_cases c : idxB mo.ch ((nd mo.tree k).word 0) < mo.ch.length
    ·rw [if_pos c] at hr
     subst hr
     rw [if_pos c]
     refine zY0 ?_
     exact ⟨rfl, fr0⟩
    ·rw [if_neg c] at hr
     subst hr
     rw [if_neg c]
     refine zY0 ?_
     exact ⟨rfl, fr0⟩
   rw [if_neg q19]
   by_cases q20 : (nd mo.tree k).kind = 20
   ·rw [if_pos q20]
    have h1 := hno.one (by omega)
    have k0 := k0 (by omega)
    obtain ⟨b1, b2⟩ := i8 0
    have e1 : IntKind.i64.wrap (0 - (Q6 mo.tree mo.ch (Q8 (pAt mo.procs i)) st n ((nd mo.tree k).kid 0)).1) = -(Q6 mo.tree mo.ch (Q8 (pAt mo.procs i)) st n ((nd mo.tree k).kid 0)).1 := by rw [O4 (by omega) (by omega)]; omega
    have ht := a24 (x := -(Q6 mo.tree mo.ch (Q8 (pAt mo.procs i)) st n ((nd mo.tree k).kid 0)).1) (by omega) (by omega)
    refine Z0 (vf := a1n) rfl ?_
    unfold a1n; refine zF ?_
    refine zY (aN om (aN ox (aN hidx (aN on (aN q20 k0))))) ?_
    refine a1K (ih 0 (by omega) _ (keep (((Fr.push (ids := []) _).trans (Fr.push (ids := []) _) (by simp)).thenSet _ (.inr (by simp)))).1 (keep (((Fr.push (ids := []) _).trans (Fr.push (ids := []) _) (by simp)).thenSet _ (.inr (by simp)))).2.1 (keep (((Fr.push (ids := []) _).trans (Fr.push (ids := []) _) (by simp)).thenSet _ (.inr (by simp)))).2.2) rfl ?_
    rintro r s2 ⟨rfl, fr⟩
    have fr0 := Fr.trans (((Fr.push (ids := []) _).trans (Fr.push (ids := []) _) (by simp)).thenSet _ (.inr (by simp))) fr (by simp)
    refine zY (aN e1 ht) ?_
    exact ⟨rfl, fr0⟩
   rw [if_neg q20]
   by_cases q21 : (nd mo.tree k).kind = 21
   ·rw [if_pos q21]
    have h1 := hno.one (by omega)
    have k0 := k0 (by omega)
    refine Z0 (vf := a1n) rfl ?_
    unfold a1n; refine zF ?_
    refine zY (aN om (aN ox (aN hidx (aN on (aN q21 k0))))) ?_
    refine a1K (ih 0 (by omega) _ (keep (((Fr.push (ids := []) _).trans (Fr.push (ids := []) _) (by simp)).thenSet _ (.inr (by simp)))).1 (keep (((Fr.push (ids := []) _).trans (Fr.push (ids := []) _) (by simp)).thenSet _ (.inr (by simp)))).2.1 (keep (((Fr.push (ids := []) _).trans (Fr.push (ids := []) _) (by simp)).thenSet _ (.inr (by simp)))).2.2) rfl ?_
    rintro r s2 ⟨rfl, fr⟩
    have fr0 := Fr.trans (((Fr.push (ids := []) _).trans (Fr.push (ids := []) _) (by simp)).thenSet _ (.inr (by simp))) fr (by simp)
    generalize Q6 mo.tree mo.ch (Q8 (pAt mo.procs i)) st n ((nd mo.tree k).kid 0) = y0 at *
    obtain ⟨v0, b0⟩ := y0
    have eb : (v0 == 0) = decide (v0 = 0) := rfl
    cases b0
    ·refine zY0 ?_
     exact ⟨by rw [Bool.false_and]; rfl, fr0⟩
    ·simp (disch := (first|exact Rf.mk rfl|with_reducible assumption|omega|((repeat (first|rw [nP]|rw [nS]|rw [N5]))<;>omega)|decide)) only [go_sem, ↓reduceIte, a3g, eb]
     exact ⟨rfl, fr0⟩
   rw [if_neg q21]
   have q22 : (nd mo.tree k).kind = 22 := by have := hex.1; have := hex.2; omega
   rw [if_pos q22]
   obtain ⟨l2, _, _, o0, o8⟩ := hno.bin q22
   have k0 := k0 (by omega)
   have k1 := k1 (by omega)
   rw [q22] at n0
   have n0 := n0 (by decide)
   obtain ⟨op, hop⟩ := Int.eq_ofNat_of_zero_le o0
   rw [hop] at n0
   have hap := c0c (op := op) (by omega) (i8 0) (i8 1)
   refine Z0 (vf := a1n) rfl ?_
   unfold a1n; refine zF ?_
   refine zY (aN om (aN ox (aN hidx (aN on (aN q22 k0))))) ?_
   refine a1K (ih 0 (by omega) _ (keep (((Fr.push (ids := []) _).trans (Fr.push (ids := []) _) (by simp)).thenSet _ (.inr (by simp)))).1 (keep (((Fr.push (ids := []) _).trans (Fr.push (ids := []) _) (by simp)).thenSet _ (.inr (by simp)))).2.1 (keep (((Fr.push (ids := []) _).trans (Fr.push (ids := []) _) (by simp)).thenSet _ (.inr (by simp)))).2.2) rfl ?_
   rintro r s2 ⟨rfl, fr⟩
   have fr0 := Fr.trans (((Fr.push (ids := []) _).trans (Fr.push (ids := []) _) (by simp)).thenSet _ (.inr (by simp))) fr (by simp)
   have e2 := fr.2 s.next (by simp; omega) (by simp)
   simp (disch := (first|exact Rf.mk rfl|with_reducible assumption|omega|((repeat (first|rw [nP]|rw [nS]|rw [N5]))<;>omega)|decide)) only [go_sem, ↓reduceIte] at e2
   have e3 := fr.2 (s.next + 1) (by simp) (by simp)
   simp (disch := (first|exact Rf.mk rfl|with_reducible assumption|omega|((repeat (first|rw [nP]|rw [nS]|rw [N5]))<;>omega)|decide)) only [go_sem, ↓reduceIte] at e3
   have f2 := M7 e2
   have f3 := M7 e3
   refine zY (aN e2 (aN e3 (aN on k1))) ?_
   refine a1K (ih 1 (by omega) _ (keep fr0).1 (keep fr0).2.1 (keep fr0).2.2) rfl ?_
   rintro r s3 ⟨rfl, fr3⟩
   have fr4 := fr0.trans fr3 (by simp)
   have e4 := fr3.2 (s.next + 1) f3 (by simp)
   rw [e3] at e4
   rw [hop]
   generalize Q6 mo.tree mo.ch (Q8 (pAt mo.procs i)) st n ((nd mo.tree k).kid 0) = y0 at *
   generalize Q6 mo.tree mo.ch (Q8 (pAt mo.procs i)) st n ((nd mo.tree k).kid 1) = y1 at *
   obtain ⟨v0, b0⟩ := y0
   obtain ⟨v1, b1⟩ := y1
   simp only at hap ⊢
   cases b0
   ·refine zY0 ?_
    exact ⟨rfl, fr4⟩
   cases b1
   ·refine zY0 ?_
    exact ⟨rfl, fr4⟩
   simp (disch := (first|exact Rf.mk rfl|with_reducible assumption|omega|((repeat (first|rw [nP]|rw [nS]|rw [N5]))<;>omega)|decide)) only [go_sem, ↓reduceIte, e4, on, n0, hap]
   exact ⟨rfl, fr4⟩
end Go.Proofs.YtnjlhebkhjcagaaGreat
namespace Go.Proofs.YtnjlhebkhjcagaaGreat
open Go.V
set_option maxRecDepth 100000
set_option maxHeartbeats 4000000
variable {m : MdX} {mo : Mo} {ps : List (Pr × PrD)} {x : StD} {st : Stt}
theorem b1p (ho : Q4 mo) (hx : a1a mo x st) : b1G mo x st := ⟨hx.f, hx.e, a3i.1 ((a3i.2 hx.fit).hd (z := -1) ⟨by omega, by omega⟩), by
 have h1 := hx.fit.hold
 have h2 := ho.np
 exact ⟨by omega, by omega⟩⟩
theorem c1D (hm : MoF m mo ps) (hx : StF x st) {s : M1} {i : Nat} : EvP vfs 117 [.agg [m.dt, .int .i64 m.g, m.dc, m.dv, m.dp, m.ds, .bool m.b], .int .i64 (i : Int), .agg [x.da, x.dv, x.dc, .int .i64 st.hold]] s fun r s' => ∃ pid mid sid, r = .agg [m.dt, .fn 129 [.ptr pid 0, .ptr mid 0, .ptr sid 0], .fn 133 [.ptr mid 0, .ptr sid 0]] /\ s'.get pid = some (.cells [.int .i64 (i : Int)]) /\ s'.get mid = some (.cells [m.dt, .int .i64 m.g, m.dc, m.dv, m.dp, m.ds, .bool m.b]) /\ s'.get sid = some (.cells [x.da, x.dv, x.dc, .int .i64 st.hold]) := by
 have om := hm.ones
 have ox := hx.ones
 have hc : cellsOf m.dt = [m.dt] := hm.tr.fl.cells
 have hfn : ∀ f l, cellsOf (.fn f l) = [.fn f l] := fun _ _ => rfl
 refine Z0 (vf := a8M) rfl ?_
 unfold a8M; refine zF ?_
 refine zY (aN om (aN ox (aN hc hfn))) ?_
 refine ⟨_, _, _, rfl, ?_, ?_, ?_⟩
 ·exact zZ0
 ·exact zZ0
 ·exact zZ0
theorem a6Q (hm : MoF m mo ps) (ho : Q4 mo) (hf : a0m mo) (hx : a1a mo x st) {i : Nat} (hi : i < mo.procs.length) {k : Nat} (hk : k < mo.tree.length) (he : a0A (nd mo.tree k).kind) :
 Eqc vfs 96 [.agg [m.dt, .int .i64 m.g, m.dc, m.dv, m.dp, m.ds, .bool m.b], .int .i64 (i : Int), .agg [x.da, x.dv, x.dc, .int .i64 st.hold], .int .i64 (k : Int)] (.tup [.int .i64 (mo.val (Q8 (pAt mo.procs i)) st k).1, .bool (mo.val (Q8 (pAt mo.procs i)) st k).2]) := by
 have om := hm.ones
 have ox := hx.f.ones
 have fm := a2w hm
 have fx := a3s hx.f
 have hnh := b1p ho hx
 have hfb := b0O hm ho hf hnh
 rw [decide_eq_true hx.fit.hold] at hfb
 have hlt : S6 false m.dt = some (.int .i64 (mo.tree.length : Int)) := hm.tr.len
 have c1 : ¬ mo.tree.length <= k := by omega
 refine U0 ?_
 refine P2 (vf := a7Y) rfl ?_
 unfold a7Y; refine zF ?_
 refine zY (aN om (aN ox (aN hlt (aN c1 (aN fm (aN fx hfb)))))) ?_
 refine a1K (c1D hm hx.f) rfl ?_
 rintro r s1 ⟨pid, mid, sid, rfl, g0, g1, g2⟩
 refine zY0 ?_
 refine a1K (b1x hm ho hx.f hx.e hnh.fit hi (mo.tree.length + 1) k hk (by omega) he _ g0 g1 g2) rfl ?_
 rintro r s2 ⟨rfl, fr⟩
 refine zY0 ?_
 exact ⟨rfl, rfl⟩
theorem b5K (hm : MoF m mo ps) (ho : Q4 mo) (hf : a0m mo) (hx : a1a mo x st) {p : Nat} (hp : p < mo.procs.length) {e : Ed} (he : a2d mo.tree mo.chans.length (pAt mo.procs p).places (pAt mo.procs p).vars e) :
 Eqc vfs 62 [.agg [m.dt, .int .i64 m.g, m.dc, m.dv, m.dp, m.ds, .bool m.b], .agg [x.da, x.dv, x.dc, .int .i64 st.hold], .int .i64 (p : Int), .agg [.int .i64 (e.frm : Int), .int .i64 (e.to : Int), .int .i64 (e.act : Int), .int .i64 e.expr, .int .i64 e.var, .int .i64 e.chan, .bool e.keep, .int .i64 (e.node : Int)]] (.bool (mo.can st p (pAt mo.procs p) e)) := by
 refine U0 ?_
 have fm := a2w hm
 have fx := a3s hx.f
 have om := hm.ones
 have ox := hx.f.ones
 have hxf := hx.f
 have hxa := hxf.a
 have hmc := hm.c
 have hpa : p < st.at'.length := by rw [hx.fit.at']; exact hp
 have hcl := hx.fit.chans
 unfold Mo.can Mo.ex
 have h6 : e.act = 0 ∨ e.act = 1 ∨ e.act = 2 ∨ e.act = 3 ∨ e.act = 4 ∨ e.act = 5 := by have := he.act; omega
 rcases h6 with ha | ha | ha | ha | ha | ha
 ·have hex := he.ex0 (by omega)
  rw [hex]
  refine P2 (vf := a1g) rfl ?_
  unfold a1g; refine zF ?_
  refine zY (aN om (aN ox ha)) ?_
  repeat' (first|(refine a0J (fun c => ?_) (fun c => ?_) <;> (try simp only [V4, V1, U8, U9] at c) <;> simp (disch := (first|exact Rf.mk rfl|with_reducible assumption|omega|((repeat (first|rw [nP]|rw [nS]|rw [N5]))<;>omega)|decide)) only [go_sem, ↓reduceIte, om, ox, ha, c])|(refine a00 (fun c => ?_) (fun c => ?_) <;> (try simp only [V4, V1, U8, U9] at c) <;> simp (disch := (first|exact Rf.mk rfl|with_reducible assumption|omega|((repeat (first|rw [nP]|rw [nS]|rw [N5]))<;>omega)|decide)) only [go_sem, ↓reduceIte, om, ox, ha, c]))
  all_goals simp_all
 ·obtain ⟨k, hk1, hk2, hk3⟩ := he.ex1 (by omega)
  have hv := a6Q hm ho hf hx hp hk2 hk3
  rw [hk1]
  simp only [Int.natCast_nonneg, if_true, Int.toNat_natCast]
  generalize mo.val (Q8 (pAt mo.procs p)) st k = v at *
  refine P2 (vf := a1g) rfl ?_
  unfold a1g; refine zF ?_
  refine zY (aN om (aN ox (aN ha hv))) ?_
  repeat' (first|(refine a0J (fun c => ?_) (fun c => ?_) <;> (try simp only [V4, V1, U8, U9] at c) <;> simp (disch := (first|exact Rf.mk rfl|with_reducible assumption|omega|((repeat (first|rw [nP]|rw [nS]|rw [N5]))<;>omega)|decide)) only [go_sem, ↓reduceIte, om, ox, ha, hv, c])|(refine a00 (fun c => ?_) (fun c => ?_) <;> (try simp only [V4, V1, U8, U9] at c) <;> simp (disch := (first|exact Rf.mk rfl|with_reducible assumption|omega|((repeat (first|rw [nP]|rw [nS]|rw [N5]))<;>omega)|decide)) only [go_sem, ↓reduceIte, om, ox, ha, hv, c]))
  all_goals simp_all
 ·obtain ⟨k, hk1, hk2, hk3⟩ := he.ex1 (by omega)
  obtain ⟨q, hq1, hq2⟩ := he.c1 (by omega)
  have hv := a6Q hm ho hf hx hp hk2 hk3
  rw [hk1, hq1]
  simp only [Int.natCast_nonneg, if_true, Int.toNat_natCast]
  generalize mo.val (Q8 (pAt mo.procs p)) st k = v at *
  refine P2 (vf := a1g) rfl ?_
  unfold a1g; refine zF ?_
  refine zY (aN om (aN ox (aN ha hv))) ?_
  repeat' (first|(refine a0J (fun c => ?_) (fun c => ?_) <;> (try simp only [V4, V1, U8, U9] at c) <;> simp (disch := (first|exact Rf.mk rfl|with_reducible assumption|omega|((repeat (first|rw [nP]|rw [nS]|rw [N5]))<;>omega)|decide)) only [go_sem, ↓reduceIte, om, ox, ha, hv, c])|(refine a00 (fun c => ?_) (fun c => ?_) <;> (try simp only [V4, V1, U8, U9] at c) <;> simp (disch := (first|exact Rf.mk rfl|with_reducible assumption|omega|((repeat (first|rw [nP]|rw [nS]|rw [N5]))<;>omega)|decide)) only [go_sem, ↓reduceIte, om, ox, ha, hv, c]))
  all_goals simp_all
 ·have hex := he.ex0 (by omega)
  obtain ⟨q, hq1, hq2⟩ := he.c1 (by omega)
  rw [hex, hq1]
  refine P2 (vf := a1g) rfl ?_
  unfold a1g; refine zF ?_
  refine zY (aN om (aN ox ha)) ?_
  repeat' (first|(refine a0J (fun c => ?_) (fun c => ?_) <;> (try simp only [V4, V1, U8, U9] at c) <;> simp (disch := (first|exact Rf.mk rfl|with_reducible assumption|omega|((repeat (first|rw [nP]|rw [nS]|rw [N5]))<;>omega)|decide)) only [go_sem, ↓reduceIte, om, ox, ha, c])|(refine a00 (fun c => ?_) (fun c => ?_) <;> (try simp only [V4, V1, U8, U9] at c) <;> simp (disch := (first|exact Rf.mk rfl|with_reducible assumption|omega|((repeat (first|rw [nP]|rw [nS]|rw [N5]))<;>omega)|decide)) only [go_sem, ↓reduceIte, om, ox, ha, c]))
  all_goals simp_all
 ·obtain ⟨k, hk1, hk2, hk3⟩ := he.ex1 (by omega)
  have hv := a6Q hm ho hf hx hp hk2 hk3
  rw [hk1]
  simp only [Int.natCast_nonneg, if_true, Int.toNat_natCast]
  generalize mo.val (Q8 (pAt mo.procs p)) st k = v at *
  refine P2 (vf := a1g) rfl ?_
  unfold a1g; refine zF ?_
  refine zY (aN om (aN ox (aN ha hv))) ?_
  repeat' (first|(refine a0J (fun c => ?_) (fun c => ?_) <;> (try simp only [V4, V1, U8, U9] at c) <;> simp (disch := (first|exact Rf.mk rfl|with_reducible assumption|omega|((repeat (first|rw [nP]|rw [nS]|rw [N5]))<;>omega)|decide)) only [go_sem, ↓reduceIte, om, ox, ha, hv, c])|(refine a00 (fun c => ?_) (fun c => ?_) <;> (try simp only [V4, V1, U8, U9] at c) <;> simp (disch := (first|exact Rf.mk rfl|with_reducible assumption|omega|((repeat (first|rw [nP]|rw [nS]|rw [N5]))<;>omega)|decide)) only [go_sem, ↓reduceIte, om, ox, ha, hv, c]))
  all_goals simp_all
 ·obtain ⟨k, hk1, hk2, hk3⟩ := he.ex1 (by omega)
  have hv := a6Q hm ho hf hx hp hk2 hk3
  rw [hk1]
  simp only [Int.natCast_nonneg, if_true, Int.toNat_natCast]
  generalize mo.val (Q8 (pAt mo.procs p)) st k = v at *
  refine P2 (vf := a1g) rfl ?_
  unfold a1g; refine zF ?_
  refine zY (aN om (aN ox (aN ha hv))) ?_
  repeat' (first|(refine a0J (fun c => ?_) (fun c => ?_) <;> (try simp only [V4, V1, U8, U9] at c) <;> simp (disch := (first|exact Rf.mk rfl|with_reducible assumption|omega|((repeat (first|rw [nP]|rw [nS]|rw [N5]))<;>omega)|decide)) only [go_sem, ↓reduceIte, om, ox, ha, hv, c])|(refine a00 (fun c => ?_) (fun c => ?_) <;> (try simp only [V4, V1, U8, U9] at c) <;> simp (disch := (first|exact Rf.mk rfl|with_reducible assumption|omega|((repeat (first|rw [nP]|rw [nS]|rw [N5]))<;>omega)|decide)) only [go_sem, ↓reduceIte, om, ox, ha, hv, c]))
  all_goals simp_all
theorem b6A (hm : MoF m mo ps) (hx : a1a mo x st) {i : Nat} (hi : i < mo.chans.length) : Eqc vfs 63 [.agg [m.dt, .int .i64 m.g, m.dc, m.dv, m.dp, m.ds, .bool m.b], .agg [x.da, x.dv, x.dc, .int .i64 st.hold], .int .i64 (i : Int)] (.bool ((Q0 mo.chans i).lossy && decide (0 < (cAt st.chans i).length))) := by
 have om := hm.ones
 have ox := hx.f.ones
 have hxf := hx.f
 have hmc := hm.c
 have ci : i < st.chans.length := by rw [hx.fit.chans]; exact hi
 refine U0 ?_
 refine P2 (vf := a7E) rfl ?_
 unfold a7E; refine zF ?_
 refine zY (aN om (aN ox (aN hi ci))) ?_
 repeat' (first|(refine a0J (fun c => ?_) (fun c => ?_) <;> (try simp only [V4, V1, U8, U9] at c) <;> simp (disch := (first|exact Rf.mk rfl|with_reducible assumption|omega|((repeat (first|rw [nP]|rw [nS]|rw [N5]))<;>omega)|decide)) only [go_sem, ↓reduceIte, om, ox, hi, ci, c])|(refine a00 (fun c => ?_) (fun c => ?_) <;> (try simp only [V4, V1, U8, U9] at c) <;> simp (disch := (first|exact Rf.mk rfl|with_reducible assumption|omega|((repeat (first|rw [nP]|rw [nS]|rw [N5]))<;>omega)|decide)) only [go_sem, ↓reduceIte, om, ox, hi, ci, c]))
 all_goals simp_all
theorem b8j (hm : MoF m mo ps) (hx : a1a mo x st) {i : Nat} (hi : i < mo.chans.length) : Eqc vfs 64 [.agg [m.dt, .int .i64 m.g, m.dc, m.dv, m.dp, m.ds, .bool m.b], .agg [x.da, x.dv, x.dc, .int .i64 st.hold], .int .i64 (i : Int)] (.bool ((Q0 mo.chans i).copying && decide (0 < (cAt st.chans i).length) && decide (((cAt st.chans i).length : Int) < (Q0 mo.chans i).room))) := by
 have om := hm.ones
 have ox := hx.f.ones
 have hxf := hx.f
 have hmc := hm.c
 have ci : i < st.chans.length := by rw [hx.fit.chans]; exact hi
 refine U0 ?_
 refine P2 (vf := a8o) rfl ?_
 unfold a8o; refine zF ?_
 refine zY (aN om (aN ox (aN hi ci))) ?_
 repeat' (first|(refine a0J (fun c => ?_) (fun c => ?_) <;> (try simp only [V4, V1, U8, U9] at c) <;> simp (disch := (first|exact Rf.mk rfl|with_reducible assumption|omega|((repeat (first|rw [nP]|rw [nS]|rw [N5]))<;>omega)|decide)) only [go_sem, ↓reduceIte, om, ox, hi, ci, c])|(refine a00 (fun c => ?_) (fun c => ?_) <;> (try simp only [V4, V1, U8, U9] at c) <;> simp (disch := (first|exact Rf.mk rfl|with_reducible assumption|omega|((repeat (first|rw [nP]|rw [nS]|rw [N5]))<;>omega)|decide)) only [go_sem, ↓reduceIte, om, ox, hi, ci, c]))
 all_goals simp_all
end Go.Proofs.YtnjlhebkhjcagaaGreat
namespace Go.Proofs.YtnjlhebkhjcagaaGreat
open Go.V
set_option maxRecDepth 100000
set_option maxHeartbeats 4000000
variable {m : MdX} {mo : Mo} {ps : List (Pr × PrD)} {x : StD} {st : Stt}
theorem c0h (hm : MoF m mo ps) (ho : Q4 mo) (hf : a0m mo) (hx : a1a mo x st) : a5I vfs 39 [.agg [m.dt, .int .i64 m.g, m.dc, m.dv, m.dp, m.ds, .bool m.b], .agg [x.da, x.dv, x.dc, .int .i64 st.hold]] fun d => FL 4 d (X9 (mo.moves st)) := by
 have fm := a2w hm
 have fx := a3s hx.f
 have om := hm.ones
 have ox := hx.f.ones
 have hxf := hx.f
 have hmc := hm.c
 have hcl := hx.fit.chans
 have hnp := ho.np
 have hnc := ho.nc
 have hh := hx.fit.hold
 have hnh := b1p ho hx
 have hfb := b0O hm ho hf hnh
 rw [decide_eq_true hx.fit.hold] at hfb
 refine a4v (vf := a62) rfl ?_
 unfold a62; refine zF ?_
 refine zY (aN om (aN ox (aN fm (aN fx hfb)))) ?_
 have hp0 : Hp ((M1.empty.push (.cells [m.dt, .int .i64 m.g, m.dc, m.dv, m.dp, m.ds, .bool m.b])).push (.cells [x.da, x.dv, x.dc, .int .i64 st.hold])) [] [(0, [m.dt, .int .i64 m.g, m.dc, m.dv, m.dp, m.ds, .bool m.b]), (1, [x.da, x.dv, x.dc, .int .i64 st.hold])] := ⟨List.nodup_nil, by simp, by simp [Has], by
  intro y hy
  simp only [List.mem_cons, List.not_mem_nil, or_false] at hy
  rcases hy with rfl | rfl
  ·exact zZ0
  ·simp (disch := (first|exact Rf.mk rfl|with_reducible assumption|omega|((repeat (first|rw [nP]|rw [nS]|rw [N5]))<;>omega)|decide)) only [go_sem, ↓reduceIte]⟩
 generalize (M1.empty.push (.cells [m.dt, .int .i64 m.g, m.dc, m.dv, m.dp, m.ds, .bool m.b])).push (.cells [x.da, x.dv, x.dc, .int .i64 st.hold]) = s0 at *
 generalize hR : [(0, [m.dt, .int .i64 m.g, m.dc, m.dv, m.dp, m.ds, .bool m.b]), (1, [x.da, x.dv, x.dc, .int .i64 st.hold])] = R at hp0
 have hg : ∀ {s E}, Hp s E R -> s.get 0 = some (.cells [m.dt, .int .i64 m.g, m.dc, m.dv, m.dp, m.ds, .bool m.b]) /\ s.get 1 = some (.cells [x.da, x.dv, x.dc, .int .i64 st.hold]) := fun h => by
  subst hR
  exact ⟨h.r (0, _) (by simp), h.r (1, _) (by simp)⟩
 refine a1i [0, 1, 2, 3, 4, 10, 14, 16, 17, 55, 59, 60, 61, 66, 75] (fun f s => ∃ E, Rp (f 5) 4 (X9 (mo.mvP st mo.procs.length)) E /\ Hp s E R) ?_ ?_
 ·refine V8 [0, 1, 2, 3, 4, 10, 14, 16, 17, 55, 59, 60, 61, 66, 75] 0 mo.procs.length (fun i f s => f 18 = .int .i64 (i : Int) /\ ∃ E, Rp (f 5) 4 (X9 (mo.mvP st i)) E /\ Hp s E R) (.mk rfl) (by omega) ⟨rfl, [], .inl ⟨rfl, rfl, rfl⟩, hp0⟩ ?_
  rintro i f s hi ⟨hE, E, hr, hp⟩
  obtain ⟨g0, g1⟩ := hg hp
  have l0 := M7 g0
  have l1 := M7 g1
  by_cases ci : i < mo.procs.length
  ·have hp2 := hp.fr (a2G (z := .cells [.str (bs []), .int .i64 0, .nils, .int .i64 0, .nils, .nils, .nils, .nils]) (o := .cells [.str (pAt mo.procs i).name, .int .i64 ((pAt mo.procs i).copy : Int), (prX ps i).dl, .int .i64 ((pAt mo.procs i).places : Int), (prX ps i).dr, (prX ps i).de, (prX ps i).dn, (prX ps i).dv]))
   by_cases ch : 0 <= st.hold /\ st.hold ≠ (i : Int)
   ·have e : mo.movesP st i = [] := by rw [Mo.movesP_eq, if_pos ch]
    have h1 : ¬ st.hold = -1 := by omega
    have h2 := ch.2
    refine zY (aN hE (aN ci (aN g0 (aN g1 (aN om (aN ox (aN h1 h2))))))) ?_
    rw [Mo.mvP_succ, e, List.append_nil]
    exact ⟨E, hr, hp2⟩
   ·have e : mo.movesP st i = mo.mvE st i (pAt mo.procs i).edges.length := by rw [Mo.movesP_eq, if_neg ch]
    have hel := (ho.pr _ (a0R ci)).el
    have h2 : ¬ st.hold = -1 -> (st.hold = (i : Int)) = True := fun h => eq_true (by omega)
    have hmi : (mo.mvP st i).length <= 16000 := Nat.le_trans (Mo.mvP_len ho hi) (by omega)
    by_cases h1 : st.hold = -1 <;> simp (disch := (first|exact Rf.mk rfl|with_reducible assumption|omega|((repeat (first|rw [nP]|rw [nS]|rw [N5]))<;>omega)|decide)) only [go_sem, ↓reduceIte, hE, ci, g0, g1, om, ox, h1, h2]
    all_goals
     refine V8 [0, 1, 2, 3, 4, 6, 7, 10, 14, 16, 17, 18, 19, 31, 33, 34, 55, 59, 60, 61, 66, 75] 0 (pAt mo.procs i).edges.length (fun j f s => f 35 = .int .i64 (j : Int) /\ ∃ E, Rp (f 5) 4 (X9 (mo.mvP st i ++ mo.mvE st i j)) E /\ Hp s E R) (.mk rfl) (by omega) ⟨rfl, E, by rw [show mo.mvE st i 0 = [] from rfl, List.append_nil]; exact hr, hp2⟩ ?_
     rintro j f s hj ⟨hE, E, hr, hp⟩
     obtain ⟨g0, g1⟩ := hg hp
     have l0 := M7 g0
     have l1 := M7 g1
     by_cases cj : j < (pAt mo.procs i).edges.length
     ·have hc := b5K hm ho hf hx ci ((ho.pr _ (a0R ci)).inv.ed _ (a4l cj))
      have fe := b2S (e := eAt (pAt mo.procs i).edges j)
      have hp3 := hp.fr (a2G (z := .cells [.int .i64 0, .int .i64 0, .int .i64 0, .int .i64 0, .int .i64 0, .int .i64 0, .bool false, .int .i64 0]) (o := .cells [.int .i64 ((eAt (pAt mo.procs i).edges j).frm : Int), .int .i64 ((eAt (pAt mo.procs i).edges j).to : Int), .int .i64 ((eAt (pAt mo.procs i).edges j).act : Int), .int .i64 (eAt (pAt mo.procs i).edges j).expr, .int .i64 (eAt (pAt mo.procs i).edges j).var, .int .i64 (eAt (pAt mo.procs i).edges j).chan, .bool (eAt (pAt mo.procs i).edges j).keep, .int .i64 ((eAt (pAt mo.procs i).edges j).node : Int)]))
      refine zY (aN hE (aN ci (aN cj (aN g0 (aN g1 (aN om (aN ox hc))))))) ?_
      refine a0J (fun c => ?_) (fun c => ?_)
      ·refine zY (aN hE (aN ci cj)) ?_
       have := Mo.mvE_len (mo := mo) (st := st) (i := i) (j := j)
       refine a2x ⟨0, i, j, 0⟩ rfl hr hp3 (by decide) (by simp; omega) ?_
       intro d' s' E' hr' hp'
       refine zY hE ?_
       refine ⟨cj, E', ?_, hp'⟩
       rw [Mo.mvE_succ, c, if_pos rfl, <- List.append_assoc]
       exact hr'
      ·refine zY hE ?_
       refine ⟨cj, E, ?_, hp3⟩
       rw [Mo.mvE_succ, c, if_neg (by simp), List.append_nil]
       exact hr
     ·obtain rfl : j = (pAt mo.procs i).edges.length := by omega
      refine zY (aN hE (aN ci (aN g0 (aN g1 (aN om ox))))) ?_
      rw [Mo.mvP_succ, e]
      exact ⟨E, hr, hp⟩
  ·obtain rfl : i = mo.procs.length := by omega
   refine zY (aN hE (aN ci (aN g0 (aN g1 (aN om ox))))) ?_
   exact ⟨E, hr, hp⟩
 ·rintro f s ⟨E, hr, hp⟩
  obtain ⟨g0, g1⟩ := hg hp
  have hmi : (mo.mvP st mo.procs.length).length <= 16000 := Nat.le_trans (Mo.mvP_len ho (Nat.le_refl _)) (by omega)
  by_cases ch : st.hold = -1
  rotate_left
  ·have hn : ¬ st.hold < 0 := by omega
   have e0 : mo.moves st = mo.mvP st mo.procs.length := by rw [Mo.moves_eq, if_neg hn, List.append_nil]
   rw [e0]
   obtain ⟨d', h1, h2⟩ := a30 hr hp (fun e h => h) (a54 _) (a5H _)
   refine zY (aN g0 (aN g1 (aN om (aN ox (aN ch h1))))) ?_
   exact ⟨_, rfl, h2⟩
  have hn : st.hold < 0 := by omega
  have e0 : mo.moves st = mo.mvP st mo.procs.length ++ mo.mvC st mo.chans.length := by rw [Mo.moves_eq, if_pos hn]
  rw [e0]
  refine zY (aN g0 (aN g1 (aN om (aN ox ch)))) ?_
  refine a1i [0, 1, 2, 3, 4, 6, 7, 8, 9, 14, 16, 17, 18, 19, 31, 33, 34, 35, 36, 44, 55, 59] (fun f s => ∃ E, Rp (f 5) 4 (X9 (mo.mvP st mo.procs.length ++ mo.mvC st mo.chans.length)) E /\ Hp s E R) ?_ ?_
  ·refine V8 [0, 1, 2, 3, 4, 6, 7, 8, 9, 14, 16, 17, 18, 19, 31, 33, 34, 35, 36, 44, 55, 59] 0 mo.chans.length (fun i f s => f 60 = .int .i64 (i : Int) /\ ∃ E, Rp (f 5) 4 (X9 (mo.mvP st mo.procs.length ++ mo.mvC st i)) E /\ Hp s E R) (.mk rfl) (by omega) ⟨rfl, E, ?_, hp⟩ ?_
   ·rw [show mo.mvC st 0 = [] from rfl, List.append_nil]; exact hr
   clear hr hp g0 g1
   rintro i f s hi ⟨hE, E, hr, hp⟩
   obtain ⟨g0, g1⟩ := hg hp
   have l0 := M7 g0
   have l1 := M7 g1
   by_cases ci : i < mo.chans.length
   ·have hmc' := Mo.mvC_len (mo := mo) (st := st) (i := i)
    have e1 : mo.mvC st (i + 1) = mo.mvC st i ++ mo.movesC st i := Mo.mvC_succ
    unfold Mo.movesC at e1
    have hl := b6A hm hx ci
    have hc := b8j hm hx ci
    generalize ((Q0 mo.chans i).lossy && decide (0 < (cAt st.chans i).length)) = bl at *
    generalize ((Q0 mo.chans i).copying && decide (0 < (cAt st.chans i).length) && decide (((cAt st.chans i).length : Int) < (Q0 mo.chans i).room)) = bc at *
    cases bl
    ·cases bc
     ·refine zY (aN hE (aN ci (aN g0 (aN g1 (aN om (aN ox (aN hl hc))))))) ?_
      rw [e1]
      exact ⟨E, by simpa using hr, hp⟩
     ·refine zY (aN hE (aN ci (aN g0 (aN g1 (aN om (aN ox (aN hl hc))))))) ?_
      refine a2x ⟨2, 0, 0, i⟩ rfl hr hp (by decide) (by simp; omega) ?_
      rintro d1 s1 E1 hr1 hp1
      refine zY (aN hE ci) ?_
      rw [e1]
      exact ⟨E1, by simpa using hr1, hp1⟩
    ·refine zY (aN hE (aN ci (aN g0 (aN g1 (aN om (aN ox hl)))))) ?_
     refine a2x ⟨1, 0, 0, i⟩ rfl hr hp (by decide) (by simp; omega) ?_
     rintro d1 s1 E1 hr1 hp1
     obtain ⟨k0, k1⟩ := hg hp1
     have j0 := M7 k0
     have j1 := M7 k1
     cases bc
     ·refine zY (aN hE (aN ci (aN k0 (aN k1 (aN om (aN ox hc)))))) ?_
      rw [e1]
      exact ⟨E1, by simpa using hr1, hp1⟩
     ·refine zY (aN hE (aN ci (aN k0 (aN k1 (aN om (aN ox hc)))))) ?_
      refine a2x ⟨2, 0, 0, i⟩ rfl hr1 hp1 (by decide) (by simp; omega) ?_
      rintro d2 s2 E2 hr2 hp2
      refine zY (aN hE ci) ?_
      rw [e1]
      exact ⟨E2, by simpa using hr2, hp2⟩
   ·obtain rfl : i = mo.chans.length := by omega
    refine zY (aN hE ci) ?_
    exact ⟨E, hr, hp⟩
  ·rintro f s ⟨E, hr, hp⟩
   obtain ⟨d', h1, h2⟩ := a30 hr hp (fun e h => h) (a54 _) (a5H _)
   refine zY h1 ?_
   exact ⟨_, rfl, h2⟩
theorem b4q (hm : MoF m mo ps) (ho : Q4 mo) (hf : a0m mo) (hx : a1a mo x st) : ∃ d, Eqc vfs 39 [.agg [m.dt, .int .i64 m.g, m.dc, m.dv, m.dp, m.ds, .bool m.b], .agg [x.da, x.dv, x.dc, .int .i64 st.hold]] d /\ FL 4 d (X9 (mo.moves st)) := by
 obtain ⟨d, h1, h2⟩ := c0h hm ho hf hx
 exact ⟨d, U0 h1, h2⟩
end Go.Proofs.YtnjlhebkhjcagaaGreat
namespace Go.V
structure Z5 (p : Pr) : Prop where
 two : 2 <= p.places
 ed : ∀ e ∈ p.edges, e.frm ≠ 1
theorem Z5.put {p : Pr} (h : Z5 p) {frm to act node : Nat} {x v c : Int} (hf : frm ≠ 1) : Z5 (p.put frm to act node x v c) :=
 ⟨h.two, fun e he => by
  simp only [Pr.put, List.mem_append, List.mem_singleton] at he
  rcases he with he | rfl
  ·exact h.ed e he
  ·exact hf⟩
theorem Z5.place {p : Pr} (h : Z5 p) : Z5 p.place := ⟨Nat.le_succ_of_le h.two, h.ed⟩
theorem Z5.idle {p : Pr} (h : Z5 p) (n : Nat) (i : Int) : Z5 (p.idle n i) := by
 unfold Pr.idle
 split
 ·exact ⟨h.two, h.ed⟩
 ·exact h
theorem Z5.mark {p : Pr} (h : Z5 p) (n to : Nat) : Z5 { p with edges := a0v n to p.edges } :=
 ⟨h.two, fun e he => by
  simp only [a0v, List.mem_append, List.mem_map] at he
  rcases he with he | ⟨e', he, rfl⟩
  ·exact h.ed e (List.mem_of_mem_take he)
  ·exact h.ed e' (List.mem_of_mem_drop he)⟩
def StN (st : Pr -> Nat -> Nat -> Nat -> Pr) : Prop := ∀ p k frm to, Z5 p -> frm ≠ 1 -> Z5 (st p k frm to)
theorem a77 {st : Pr -> Nat -> Nat -> Nat -> Pr} (hs : StN st) {node : Nat} : ∀ {ks : List Nat} {p : Pr} {frm to : Nat}, Z5 p -> frm ≠ 1 -> Z5 (a1t st node p ks frm to)
 | [], p, frm, to, h, hf => h.put hf
 | [k], p, frm, to, h, hf => hs p k frm to h hf
 | k :: k' :: ks, p, frm, to, h, hf => a77 hs (ks := k' :: ks) (hs _ k frm _ h.place hf) (by have := h.two; omega)
theorem a3M {t : List Nd} {st : Pr -> Nat -> Nat -> Nat -> Pr} (hs : StN st) {p : Pr} {b frm to : Nat} (h : Z5 p) (hf : frm ≠ 1) : Z5 (V0 t st p b frm to) := a77 hs h hf
theorem b0X {t : List Nd} {st : Pr -> Nat -> Nat -> Nat -> Pr} (hs : StN st) {frm to : Nat} (hf : frm ≠ 1) : ∀ {ks : List Nat} {p : Pr}, Z5 p -> Z5 (Z1 t st frm to p ks)
 | [], p, h => h
 | k :: ks, p, h => by
   unfold Z1
   refine b0X hs hf ?_
   split
   ·exact a3M hs (h.place.put hf) (by have := h.two; omega)
   ·exact a3M hs h hf
theorem b32 (t : List Nd) (ch : List ByteArray) : ∀ f, StN (N1 t ch f)
 | 0 => fun p k frm to h _ => h
 | f + 1 => by
   have hs := b32 t ch f
   intro p k frm to h hf
   have h2 := h.two
   have hp1 : ∀ {act node : Nat} {x v c : Int}, Z5 (V0 t (N1 t ch f) (p.place.put frm p.places act node x v c) ((nd t k).kid 1) p.places to) := a3M hs (h.place.put hf) (by omega)
   unfold N1
   simp only
   repeat' split
   all_goals first
    | exact h.put hf
    | exact (h.idle _ _).put hf
    | exact b0X hs hf (h.idle _ _)
    | exact hp1.put hf
    | exact (a3M hs h hf).mark _ _
    | exact a3M hs ((h.place.put hf).put hf) (by omega)
    | exact a3M hs (hp1.place.put hf) (by have := (hp1 (act := 4) (node := k) (x := ((nd t k).kid 0 : Nat)) (v := -1) (c := -1)).two; omega)
theorem b6g (t : List Nd) (o : Org) : Z5 (a1N t o) := a77 (b32 t _ _) ⟨Nat.le_refl _, fun e he => by simp [pr1] at he⟩ (by decide)
structure a5J (t : List Nd) (a : Gc) : Prop where
 pw : a.l.Pairwise fun o o' => o.nv + O1 t (nd t o.k) <= o'.nv
 le : ∀ o ∈ a.l, o.nv + O1 t (nd t o.k) <= a.nv
theorem b6B {t : List Nd} {a : Gc} {k : Nat} (h : a5J t a) : a5J t (a2m t a k) := by
 unfold a2m
 split
 ·refine ⟨List.pairwise_append.2 ⟨h.pw, ?_, fun o ho o' ho' => ?_⟩, fun o ho => ?_⟩
  ·unfold a37
   rw [List.pairwise_map]
   refine List.Pairwise.imp ?_ List.pairwise_lt_range
   intro c c' hc
   have : (c + 1) * O1 t (nd t k) <= c' * O1 t (nd t k) := Nat.mul_le_mul_right _ hc
   rw [Nat.succ_mul] at this
   simp only
   omega
  ·obtain ⟨c, hc, rfl⟩ := List.mem_map.1 ho'
   have := h.le o ho
   simp only
   omega
  ·rcases List.mem_append.1 ho with ho | ho
   ·have := h.le o ho
    simp only; omega
   ·obtain ⟨c, hc, rfl⟩ := List.mem_map.1 ho
    rw [List.mem_range] at hc
    have : (c + 1) * O1 t (nd t k) <= ((nd t k).num 0).toNat * O1 t (nd t k) := Nat.mul_le_mul_right _ hc
    rw [Nat.succ_mul] at this
    simp only
    omega
 ·split
  ·exact ⟨h.pw, h.le⟩
  ·exact h
theorem b46 (t : List Nd) : (a08 t).Pairwise fun o o' => o.nv + O1 t (nd t o.k) <= o'.nv := by
 have : a5J t (Z7 t (nd t 0).ks) := by
  unfold Z7
  exact a5x (P := a5J t) ⟨List.Pairwise.nil, fun o ho => by simp at ho⟩ fun a k _ ha => b6B ha
 exact this.pw
theorem c2r {t : List Nd} : ∀ o ∈ a08 t, o.seen <= (gat t).vs.length /\ (gat t).vs.length <= o.nv := fun o ho => by
 obtain ⟨_, _, _, h1, _⟩ := a7V ho
 exact ⟨h1, (a4j ho).lo⟩
structure MoQ (mo : Mo) : Prop where
 one : ∀ i, i < mo.procs.length -> ∀ e ∈ (pAt mo.procs i).edges, e.frm ≠ 1
 own : ∀ i j, i < mo.procs.length -> j < mo.procs.length -> i ≠ j -> ∀ v ∈ (pAt mo.procs i).locals, v ∉ (pAt mo.procs j).vars
 ll : ∀ i, i < mo.procs.length -> (pAt mo.procs i).locals.length <= mo.vars.length
theorem b5p {t : List Nd} (h : O0 t) (hS : a1F t) : MoQ (a2a t) := by
 have e : (a2a t).procs = (a08 t).map (a1N t) := (a4D t).1
 have el : (a2a t).procs.length = (a08 t).length := by rw [e, List.length_map]
 have ep : ∀ i (hi : i < (a08 t).length), pAt (a2a t).procs i = a1N t (a08 t)[i] := fun i hi => by
  rw [a2r (by omega)]; simp [e]
 refine ⟨fun i hi ed hed => ?_, fun i j hi hj hij v hv hv' => ?_, fun i hi => ?_⟩
 ·rw [ep i (by omega)] at hed
  exact (b6g t _).ed ed hed
 ·rw [el] at hi hj
  rw [ep i hi] at hv
  rw [ep j hj] at hv'
  have g1 := (a6t h hS (List.getElem_mem hi)).2
  have g2 := (a6t h hS (List.getElem_mem hj)).2
  rw [g1.locals] at hv
  rw [g2.vars] at hv'
  have lo := c2r (t := t)
  simp only [pr1, List.mem_map, List.mem_range, List.mem_append] at hv hv'
  obtain ⟨a, ha, rfl⟩ := hv
  obtain ⟨l1, l2⟩ := lo _ (List.getElem_mem hi)
  obtain ⟨l3, l4⟩ := lo _ (List.getElem_mem hj)
  have pw := List.pairwise_iff_getElem.1 (b46 t)
  rcases hv' with hv' | ⟨b, hb, hv'⟩
  ·omega
  ·by_cases c : i < j
   ·have := pw i j hi hj c
    omega
   ·have := pw j i hj hi (by omega)
    omega
 ·rw [el] at hi
  rw [ep i hi, (a6t h hS (List.getElem_mem hi)).2.locals]
  have h1 := (a4j (List.getElem_mem hi)).hi
  have h2 : (a2a t).vars.length = (gbt t).vs.length := rfl
  simp only [pr1, List.length_map, List.length_range]
  omega
end Go.V
namespace Go.V
variable {mo : Mo} {st : Stt}
def a6L (p : Pr) (f : Ft) : Bool := (List.range 32).all fun b => !((f.reads ||| f.writes).testBit b) || p.locals.contains b
def a1C (mo : Mo) (p : Pr) (e : Ed) : Bool :=
 !e.keep && !(P8 mo p e).part && decide ((P8 mo p e).sends = 0) && decide ((P8 mo p e).recvs = 0) && decide ((P8 mo p e).sizes = 0) && a6L p (P8 mo p e) && (decide (e.to = 1) || decide (e.frm < e.to))
def lvE (p : Pr) (k : Nat) : List Ed := p.edges.filter fun e => decide (e.frm = k)
def a2o (l : List Ed) : Bool := l.all (fun e => decide (e.act <= 1)) && decide (0 < l.length)
def forkE (l : List Ed) : Bool := decide (l.length = 2) && decide ((eAt l 0).act = 4) && decide ((eAt l 1).act = 5) && decide ((eAt l 0).expr = (eAt l 1).expr)
def Mo.quiet (mo : Mo) (i k : Nat) : Bool := decide (i < mo.procs.length) && ((lvE (pAt mo.procs i) k).all (a1C mo (pAt mo.procs i)) && (a2o (lvE (pAt mo.procs i) k) || forkE (lvE (pAt mo.procs i) k)))
structure QE (mo : Mo) (p : Pr) (e : Ed) : Prop where
 keep : e.keep = false
 part : (P8 mo p e).part = false
 s0 : (P8 mo p e).sends = 0
 r0 : (P8 mo p e).recvs = 0
 z0 : (P8 mo p e).sizes = 0
 rd : ∀ b, (P8 mo p e).reads.testBit b = true -> b ∈ p.locals
 wr : ∀ b, (P8 mo p e).writes.testBit b = true -> b ∈ p.locals
 to : e.to = 1 ∨ e.frm < e.to
theorem b0K (ho : Q4 mo) {p : Pr} (hp : a2t mo p) {e : Ed} (he : e ∈ p.edges) (h : a1C mo p e = true) : QE mo p e := by
 unfold a1C a6L at h
 simp only [Bool.and_eq_true, Bool.not_eq_true', decide_eq_true_eq, List.all_eq_true, List.mem_range, Bool.or_eq_true, List.contains_iff_mem] at h
 obtain ⟨⟨⟨⟨⟨⟨h1, h2⟩, h3⟩, h4⟩, h5⟩, h6⟩, h7⟩ := h
 have hown := b03 ho hp he
 have hv := ho.nv
 refine ⟨h1, h2, h3, h4, h5, fun b hb => ?_, fun b hb => ?_, h7⟩
 ·have := hp.var b (hown.reads b hb)
  rcases h6 b (by omega) with h | h
  ·rw [Nat.testBit_or, hb] at h; cases h
  ·exact h
 ·have := hp.var b (hown.writes b hb)
  rcases h6 b (by omega) with h | h
  ·rw [Nat.testBit_or, hb, Bool.or_true] at h; cases h
  ·exact h
theorem QE.act {p : Pr} (hp : a2t mo p) {e : Ed} (he : e ∈ p.edges) (h : QE mo p e) : e.act ≠ 2 /\ e.act ≠ 3 := by
 have key : ¬ (e.act = 2 ∨ e.act = 3) := fun ha => by
  have := c2s hp he ha
  rw [h.s0, h.r0] at this
  simp at this
 omega
theorem a1S.refl (f : Ft) (st : Stt) : a1S f st st := ⟨fun _ _ => rfl, fun _ _ => rfl⟩
theorem b5e (ho : Q4 mo) {i : Nat} {p : Pr} (hp : a2t mo p) {e : Ed} (he : e ∈ p.edges) (z : Int) : mo.can { st with hold := z } i p e = mo.can st i p e := by
 have h := b8x ho hp he ((a1S.refl (P8 mo p e) st).hold z) 0
 unfold Mo.can
 rw [<- h]
theorem c1R {st st' : Stt} {i : Nat} {p : Pr} (h : ∀ e ∈ p.edges, mo.can st i p e = mo.can st' i p e) : mo.someS st i p = mo.someS st' i p := by
 unfold Mo.someS
 rw [Bool.eq_iff_iff, List.any_eq_true, List.any_eq_true]
 constructor
 ·rintro ⟨e, he, hc⟩; exact ⟨e, he, by rw [<- h e he]; exact hc⟩
 ·rintro ⟨e, he, hc⟩; exact ⟨e, he, by rw [h e he]; exact hc⟩
def Mo.eff (mo : Mo) (i : Nat) (e : Ed) (st : Stt) : Stt := { mo.edgeS st i (pAt mo.procs i) e with hold := st.hold }
end Go.V
namespace Go.V
variable {mo : Mo} {st : Stt}
theorem b0J {v : Mv} : v ∈ mo.moves st ↔ (v.kind = 0 /\ v.chan = 0 /\ v.proc < mo.procs.length /\ v.edge < (pAt mo.procs v.proc).edges.length /\ mo.can st v.proc (pAt mo.procs v.proc) (eAt (pAt mo.procs v.proc).edges v.edge) = true /\ ¬ (0 <= st.hold /\ st.hold ≠ (v.proc : Int))) ∨ (st.hold < 0 /\ v.chan < mo.chans.length /\ v ∈ mo.movesC st v.chan) := by
 unfold Mo.moves
 rw [List.mem_append]
 constructor
 ·rintro (h | h)
  ·obtain ⟨i, hi, hv⟩ := List.mem_flatMap.1 h
   obtain ⟨h1, h2⟩ := a9X hv
   obtain ⟨a, b, c, d⟩ := b2H h1
   subst b
   have hc : v.chan = 0 := by
    unfold Mo.mvE at h1
    obtain ⟨k, _, e⟩ := List.mem_map.1 h1
    rw [<- e]
   exact .inl ⟨a, hc, List.mem_range.1 hi, c, d, h2⟩
  ·split at h
   ·rename_i hh
    obtain ⟨c, hc, hv⟩ := List.mem_flatMap.1 h
    obtain ⟨_, rfl, _⟩ := a78 hv
    exact .inr ⟨hh, List.mem_range.1 hc, hv⟩
   ·cases h
 ·rintro (⟨a, b, c, d, e, f⟩ | ⟨a, b, c⟩)
  ·refine .inl (List.mem_flatMap.2 ⟨v.proc, List.mem_range.2 c, ?_⟩)
   rw [Mo.movesP_eq, if_neg f]
   unfold Mo.mvE
   refine List.mem_map.2 ⟨v.edge, List.mem_filter.2 ⟨List.mem_range.2 d, e⟩, ?_⟩
   cases v
   simp only at a b
   subst a b
   rfl
  ·rw [if_pos a]
   exact .inr (List.mem_flatMap.2 ⟨v.chan, List.mem_range.2 b, c⟩)
structure a2Z (mo : Mo) (st : Stt) : Prop where
 fit : Fit mo st
 keep : ∀ j : Nat, st.hold = (j : Int) -> mo.someS st j (pAt mo.procs j) = true
theorem b57 (ho : Q4 mo) {i : Nat} (hi : i < mo.procs.length) (z : Int) : mo.someS { st with hold := z } i (pAt mo.procs i) = mo.someS st i (pAt mo.procs i) := c1R fun _ he => b5e ho (ho.pr _ (a0R hi)) he z
theorem a2Z.step (ho : Q4 mo) (hf : a0m mo) (h : a2Z mo st) {v : Mv} (hv : v ∈ mo.moves st) : a2Z mo (mo.doS st v) := by
 refine ⟨b8M ho hf h.fit (c1F hv), fun j hj => ?_⟩
 rcases b0J.1 hv with ⟨a, _, b, _, _, _⟩ | ⟨a, b, c⟩
 ·rw [c1m a] at hj ⊢
  unfold Mo.doE at hj ⊢
  simp only at hj
  split at hj
  ·rename_i hk
   obtain rfl : j = v.proc := by omega
   rw [b57 ho b]
   rw [Bool.and_eq_true] at hk
   exact hk.2
  ·omega
 ·obtain ⟨k, _⟩ := a78 c
  have : (mo.doS st v).hold = st.hold := by
   unfold Mo.doS
   rcases k with k | k
   ·rw [if_pos k]
   ·rw [if_neg (by omega), if_pos k]
  omega
def a1T (mo : Mo) (M : Stt -> List Mv) : Nat -> Stt -> Stt -> Prop
 | 0, s, t => s = t
 | n + 1, s, t => ∃ v ∈ M s, a1T mo M n (mo.doS s v) t
theorem a1T.inv (ho : Q4 mo) (hf : a0m mo) : ∀ {n : Nat} {s t : Stt}, a1T mo mo.moves n s t -> a2Z mo s -> a2Z mo t
 | 0, s, t, h, hi => by cases h; exact hi
 | n + 1, s, t, ⟨v, hv, h⟩, hi => h.inv ho hf (hi.step ho hf hv)
structure QP (mo : Mo) (i k : Nat) : Prop where
 lt : i < mo.procs.length
 ed : ∀ e ∈ (pAt mo.procs i).edges, e.frm = k -> QE mo (pAt mo.procs i) e
end Go.V
namespace Go.V
variable {mo : Mo} {st : Stt}
theorem b6N (ho : Q4 mo) {i k : Nat} (h : mo.quiet i k = true) : QP mo i k := by
 unfold Mo.quiet at h
 simp only [Bool.and_eq_true, decide_eq_true_eq] at h
 refine ⟨h.1, fun e he hk => b0K ho (ho.pr _ (a0R h.1)) he ?_⟩
 exact List.all_eq_true.1 h.2.1 e (List.mem_filter.2 ⟨he, by simpa using hk⟩)
def Mo.rk (mo : Mo) (st : Stt) : Nat := ((List.range mo.procs.length).map fun i => if nAt st.at' i = 1 then 0 else (pAt mo.procs i).places - nAt st.at' i).sum
def Mo.deadS (mo : Mo) (st : Stt) : Bool := decide (mo.moves st = []) && !((List.range mo.procs.length).all fun i => (pAt mo.procs i).rest.getD (nAt st.at' i) false)
def Mo.badS (mo : Mo) (st : Stt) : Bool := !mo.safeS st || mo.dead && mo.deadS st
def Mo.firstQ (mo : Mo) (st : Stt) : Option Nat := (List.range mo.procs.length).find? fun i => mo.quiet i (nAt st.at' i)
def Mo.ample (mo : Mo) (st : Stt) : List Mv := if st.hold < 0 then match mo.firstQ st with
    | some i => (mo.moves st).filter fun v => decide (v.kind = 0) && decide (v.proc = i)
    | none => mo.moves st
 else mo.moves st
end Go.V
namespace Go.V
def ExP (P : Nat -> Prop) (p : Pr) : Prop := ∀ e ∈ p.edges, ∀ n : Nat, e.expr = (n : Int) -> P n
variable {P : Nat -> Prop}
theorem ExP.put {p : Pr} (h : ExP P p) {frm to act node : Nat} {x v c : Int} (hx : ∀ n : Nat, x = (n : Int) -> P n) : ExP P (p.put frm to act node x v c) := fun e he => by
 simp only [Pr.put, List.mem_append, List.mem_singleton] at he
 rcases he with he | rfl
 ·exact h e he
 ·exact hx
theorem ExP.idle {p : Pr} (h : ExP P p) (n : Nat) (i : Int) : ExP P (p.idle n i) := by
 unfold Pr.idle
 split
 ·exact h
 ·exact h
theorem ExP.mark {p : Pr} (h : ExP P p) (n to : Nat) : ExP P { p with edges := a0v n to p.edges } := fun e he => by
 simp only [a0v, List.mem_append, List.mem_map] at he
 rcases he with he | ⟨e', he, rfl⟩
 ·exact h e (List.mem_of_mem_take he)
 ·exact h e' (List.mem_of_mem_drop he)
end Go.V
namespace Go.V
end Go.V
namespace Go.V
variable {mo : Mo}
theorem b1A {x y b : Nat} (hx : x < 4294967296) (hy : y < 4294967296) (h1 : x.testBit b = true) (h2 : y.testBit b = false) : ¬ IntKind.u32.wrap (a4Z .u32 (x : Int) (y : Int)) = 0 := by
 intro h
 unfold a4Z at h
 have hb : b < 32 := by
  apply Decidable.byContradiction
  intro hn
  have : x < 2 ^ b := Nat.lt_of_lt_of_le (show x < 2 ^ 32 from hx) (Nat.pow_le_pow_right (n := 2) (by decide) (by omega : 32 <= b))
  rw [Nat.testBit_lt_two_pow this] at h1
  cases h1
 have hlt := (BitVec.ofInt IntKind.u32.bits (x : Int) &&& ~~~ BitVec.ofInt IntKind.u32.bits (y : Int)).isLt
 rw [IntKind.wrap_u32] at h
 have h0 : (BitVec.ofInt IntKind.u32.bits (x : Int) &&& ~~~ BitVec.ofInt IntKind.u32.bits (y : Int)).toNat = 0 := by
  have : (2 : Nat) ^ IntKind.u32.bits = 4294967296 := rfl
  omega
 have h3 : (BitVec.ofInt IntKind.u32.bits (x : Int) &&& ~~~ BitVec.ofInt IntKind.u32.bits (y : Int)).getLsbD b = false := by
  rw [BitVec.getLsbD, h0, Nat.zero_testBit]
 rw [BitVec.getLsbD_and, BitVec.getLsbD_not] at h3
 have e1 : (BitVec.ofInt IntKind.u32.bits (x : Int)).getLsbD b = x.testBit b := by rw [BitVec.getLsbD, a3J hx]
 have e2 : (BitVec.ofInt IntKind.u32.bits (y : Int)).getLsbD b = y.testBit b := by rw [BitVec.getLsbD, a3J hy]
 rw [e1, e2, h1, h2] at h3
 have : decide (b < IntKind.u32.bits) = true := decide_eq_true hb
 rw [this] at h3
 cases h3
def lvT (p : Pr) (k j : Nat) : List Ed := (p.edges.take j).filter fun e => decide (e.frm = k)
theorem b01 (p : Pr) (k : Nat) : lvT p k p.edges.length = lvE p k := by unfold lvT lvE; rw [List.take_length]
theorem b5L {p : Pr} {k j : Nat} (h : j < p.edges.length) : lvT p k (j + 1) = lvT p k j ++ if (eAt p.edges j).frm = k then [eAt p.edges j] else [] := by
 unfold lvT
 rw [List.take_succ_eq_append_getElem h, List.filter_append, a31 h]
 congr 1
 by_cases c : p.edges[j].frm = k <;> simp [c]
theorem b1y (p : Pr) (k j : Nat) : (lvT p k j).length <= p.edges.length := by
 unfold lvT
 refine Nat.le_trans (List.length_filter_le _ _) ?_
 rw [List.length_take]; omega
theorem a7m (ho : Q4 mo) {p : Pr} (hp : a2t mo p) {e : Ed} (he : e ∈ p.edges) : a6L p (P8 mo p e) = true ↔ ∀ b, ((P8 mo p e).reads ||| (P8 mo p e).writes).testBit b = true -> b ∈ p.locals := by
 unfold a6L
 simp only [List.all_eq_true, List.mem_range, Bool.or_eq_true, Bool.not_eq_true', List.contains_iff_mem]
 have hown := b03 ho hp he
 have hv := ho.nv
 constructor
 ·intro h b hb
  have hb32 : b < 32 := by
   have hb2 := hb
   rw [Nat.testBit_or, Bool.or_eq_true] at hb2
   have := hp.var b (hb2.elim (hown.reads b) (hown.writes b))
   omega
  rcases h b hb32 with h | h
  ·rw [hb] at h; cases h
  ·exact h
 ·intro h b _
  cases hb : ((P8 mo p e).reads ||| (P8 mo p e).writes).testBit b
  ·exact .inl rfl
  ·exact .inr (h b hb)
theorem c2e {i k : Nat} {e : Ed} (he : e ∈ (pAt mo.procs i).edges) (hk : e.frm = k) (h : a1C mo (pAt mo.procs i) e = false) : mo.quiet i k = false := by
 have : (lvE (pAt mo.procs i) k).all (a1C mo (pAt mo.procs i)) = false := by
  rw [Bool.eq_false_iff]
  intro hall
  have := List.all_eq_true.1 hall e (List.mem_filter.2 ⟨he, by simpa using hk⟩)
  rw [h] at this; cases this
 unfold Mo.quiet
 rw [this, Bool.false_and, Bool.and_false]
theorem b4h {i k : Nat} (hi : i < mo.procs.length) (h : ∀ e ∈ (pAt mo.procs i).edges, e.frm = k -> a1C mo (pAt mo.procs i) e = true) : mo.quiet i k = (a2o (lvE (pAt mo.procs i) k) || forkE (lvE (pAt mo.procs i) k)) := by
 have : (lvE (pAt mo.procs i) k).all (a1C mo (pAt mo.procs i)) = true := by
  rw [List.all_eq_true]
  intro e he
  obtain ⟨a, b⟩ := List.mem_filter.1 he
  exact h e a (by simpa using b)
 unfold Mo.quiet
 rw [this, Bool.true_and, decide_eq_true hi, Bool.true_and]
theorem b8S (ho : Q4 mo) {i k : Nat} (hi : i < mo.procs.length) (hk : (pAt mo.procs i).places <= k) : mo.quiet i k = false := by
 have hl : lvE (pAt mo.procs i) k = [] := by
  unfold lvE
  rw [List.filter_eq_nil_iff]
  intro e he
  have := ((ho.pr _ (a0R hi)).inv.ed e he).f
  simp only [decide_eq_true_eq]
  omega
 unfold Mo.quiet
 rw [hl]
 simp [a2o, forkE]
end Go.V
namespace Go.Proofs.YtnjlhebkhjcagaaGreat
open Go.V
set_option maxRecDepth 100000
set_option maxHeartbeats 4000000
variable {m : MdX} {mo : Mo} {ps : List (Pr × PrD)} {x : StD} {st : Stt}
theorem b4A (hm : MoF m mo ps) (ho : Q4 mo) {p i : Nat} (hp : p < mo.procs.length) (hi : i < (pAt mo.procs p).edges.length) :
 Eqc vfs 41 [.agg [m.dt, .int .i64 m.g, m.dc, m.dv, m.dp, m.ds, .bool m.b], .int .i64 (p : Int), .int .i64 (i : Int)] (.tup [.agg (P8 mo (pAt mo.procs p) (eAt (pAt mo.procs p).edges i)).row, .bool true]) /\ (P8 mo (pAt mo.procs p) (eAt (pAt mo.procs p).edges i)).Ok := by
 rw [a31 hi]
 have e : pAt mo.procs p = mo.procs[p] := a2r hp
 simp only [e] at hi ⊢
 obtain ⟨⟨s, h⟩, hok⟩ := b8O hm ho hp hi
 exact ⟨U0 ⟨_, s, h, rfl⟩, hok⟩
theorem c3Q {d : D} {l : List Ed} (hd : FL 8 d (Q5 l)) (hl : l.length <= 4000) : Eqc vfs 42 [d] (.bool (a2o l)) := by
 have hln := a7i hd
 refine U0 ?_
 refine P2 (vf := a7P) rfl ?_
 unfold a7P; refine zF ?_
 refine zY hln ?_
 refine V8 [0, 5, 6] 0 l.length (fun i f s => f 7 = .int .i64 (i : Int) /\ ∀ j, j < i -> (eAt l j).act <= 1) (.mk rfl) (by omega) ⟨rfl, fun j h => by omega⟩ ?_
 rintro i f s hi ⟨hE, hall⟩
 by_cases ci : i < l.length
 ·have hx := a42 hd ci (k := .i64)
  have no : ¬ (eAt l i).act <= 1 -> a2o l = false := fun h => by
   unfold a2o
   have : l.all (fun e => decide (e.act <= 1)) = false := by
    rw [Bool.eq_false_iff]
    intro ha
    exact h (by simpa using List.all_eq_true.1 ha _ (a4l ci))
   rw [this, Bool.false_and]
  have yes : (eAt l i).act <= 1 -> ∀ j, j < i + 1 -> (eAt l j).act <= 1 := fun h j hj => by
   by_cases ej : j = i
   ·subst ej; exact h
   ·exact hall j (by omega)
  by_cases a0 : ((eAt l i).act : Int) = 0
  ·refine zY (aN hE (aN hln (aN ci (aN hx a0)))) ?_
   exact yes (by omega)
  by_cases a1 : ((eAt l i).act : Int) = 1
  ·refine zY (aN hE (aN hln (aN ci (aN hx (aN a0 a1))))) ?_
   exact yes (by omega)
  ·refine zY (aN hE (aN hln (aN ci (aN hx (aN a0 a1))))) ?_
   exact (no (by omega)).symm
 ·obtain rfl : i = l.length := by omega
  refine zY (aN hE (aN hln ci)) ?_
  unfold a2o
  have : l.all (fun e => decide (e.act <= 1)) = true := by
   rw [List.all_eq_true]
   intro e he
   obtain ⟨j, hj, rfl⟩ := List.getElem_of_mem he
   have := hall j hj
   rw [a31 hj] at this
   simpa using this
  rw [this, Bool.true_and]
theorem c0U {d : D} {l : List Ed} (hd : FL 8 d (Q5 l)) (hl : l.length <= 4000) : Eqc vfs 43 [d] (.bool (forkE l)) := by
 have hln := a7i hd
 refine U0 ?_
 unfold forkE
 by_cases c2 : l.length = 2
 ·have h0 := a42 hd (i := 0) (by omega) (k := .i64)
  have h1 := a42 hd (i := 1) (by omega) (k := .i64)
  have z0 : ((0 : Nat) : Int) = 0 := rfl
  have z1 : ((1 : Nat) : Int) = 1 := rfl
  rw [z0] at h0
  rw [z1] at h1
  refine P2 (vf := a5o) rfl ?_
  unfold a5o; refine zF ?_
  refine zY (aN hln (aN c2 (aN h0 h1))) ?_
  repeat' (first|(refine a0J (fun c => ?_) (fun c => ?_) <;> (try simp only [V4, V1, U8, U9] at c) <;> simp (disch := (first|exact Rf.mk rfl|with_reducible assumption|omega|((repeat (first|rw [nP]|rw [nS]|rw [N5]))<;>omega)|decide)) only [go_sem, ↓reduceIte, hln, c2, h0, h1, c])|(refine a00 (fun c => ?_) (fun c => ?_) <;> (try simp only [V4, V1, U8, U9] at c) <;> simp (disch := (first|exact Rf.mk rfl|with_reducible assumption|omega|((repeat (first|rw [nP]|rw [nS]|rw [N5]))<;>omega)|decide)) only [go_sem, ↓reduceIte, hln, c2, h0, h1, c]))
  all_goals first | (simp_all; done) | (simp_all; omega)
 ·have c3 : ¬ (l.length : Int) = 2 := by omega
  refine P2 (vf := a5o) rfl ?_
  unfold a5o; refine zF ?_
  refine zY (aN hln c3) ?_
  simp [c2]
end Go.Proofs.YtnjlhebkhjcagaaGreat
namespace Go.Proofs.YtnjlhebkhjcagaaGreat
open Go.V
set_option maxRecDepth 100000
set_option maxHeartbeats 4000000
variable {m : MdX} {mo : Mo} {ps : List (Pr × PrD)} {x : StD} {st : Stt}
theorem b0N (hm : MoF m mo ps) (ho : Q4 mo) (hq : MoQ mo) {i k : Nat} (hi : i < mo.procs.length) : Eqc vfs 18 [.agg [m.dt, .int .i64 m.g, m.dc, m.dv, m.dp, m.ds, .bool m.b], .int .i64 (i : Int), .int .i64 (k : Int)] (.bool (mo.quiet i k)) := by
 have om := hm.ones
 have fm := a2w hm
 have hpo := ho.pr _ (a0R hi)
 have hel := hpo.el
 have hnv := ho.nv
 have c1 : ¬ mo.procs.length <= i := by omega
 refine U0 ?_
 by_cases hk : (pAt mo.procs i).places <= k
 ·rw [b8S ho hi hk]
  refine P2 (vf := a4z) rfl ?_
  unfold a4z; refine zF ?_
  exact zZ (aN om (aN hi (aN c1 hk)))
 have hv32 : ∀ v ∈ (pAt mo.procs i).locals, v < 32 := fun v hv => by have := hpo.var v (hpo.loc v hv).1; omega
 have hll : (pAt mo.procs i).locals.length <= 1000000 := by have := hq.ll i hi; omega
 refine P2 (vf := a4z) rfl ?_
 unfold a4z; refine zF ?_
 refine zY (aN om (aN hi (aN c1 hk))) ?_
 have hp0 : Hp (((M1.empty.push (.cells [m.dt, .int .i64 m.g, m.dc, m.dv, m.dp, m.ds, .bool m.b])).push (.cells [.str (bs []), .int .i64 0, .nils, .int .i64 0, .nils, .nils, .nils, .nils])).set 1 (some (.cells [.str (pAt mo.procs i).name, .int .i64 ((pAt mo.procs i).copy : Int), (prX ps i).dl, .int .i64 ((pAt mo.procs i).places : Int), (prX ps i).dr, (prX ps i).de, (prX ps i).dn, (prX ps i).dv]))) [] [(0, [m.dt, .int .i64 m.g, m.dc, m.dv, m.dp, m.ds, .bool m.b]), (1, [.str (pAt mo.procs i).name, .int .i64 ((pAt mo.procs i).copy : Int), (prX ps i).dl, .int .i64 ((pAt mo.procs i).places : Int), (prX ps i).dr, (prX ps i).de, (prX ps i).dn, (prX ps i).dv])] := ⟨List.nodup_nil, by simp, by simp [Has], by
  intro y hy
  simp only [List.mem_cons, List.not_mem_nil, or_false] at hy
  rcases hy with rfl | rfl
  ·exact zZ0
  ·simp (disch := (first|exact Rf.mk rfl|with_reducible assumption|omega|((repeat (first|rw [nP]|rw [nS]|rw [N5]))<;>omega)|decide)) only [go_sem, ↓reduceIte]⟩
 generalize ((M1.empty.push (.cells [m.dt, .int .i64 m.g, m.dc, m.dv, m.dp, m.ds, .bool m.b])).push (.cells [.str (bs []), .int .i64 0, .nils, .int .i64 0, .nils, .nils, .nils, .nils])).set 1 (some (.cells [.str (pAt mo.procs i).name, .int .i64 ((pAt mo.procs i).copy : Int), (prX ps i).dl, .int .i64 ((pAt mo.procs i).places : Int), (prX ps i).dr, (prX ps i).de, (prX ps i).dn, (prX ps i).dv])) = s0 at *
 have hg : ∀ {s E}, Hp s E [(0, [m.dt, .int .i64 m.g, m.dc, m.dv, m.dp, m.ds, .bool m.b]), (1, [.str (pAt mo.procs i).name, .int .i64 ((pAt mo.procs i).copy : Int), (prX ps i).dl, .int .i64 ((pAt mo.procs i).places : Int), (prX ps i).dr, (prX ps i).de, (prX ps i).dn, (prX ps i).dv])] -> s.get 0 = some (.cells [m.dt, .int .i64 m.g, m.dc, m.dv, m.dp, m.ds, .bool m.b]) /\ s.get 1 = some (.cells [.str (pAt mo.procs i).name, .int .i64 ((pAt mo.procs i).copy : Int), (prX ps i).dl, .int .i64 ((pAt mo.procs i).places : Int), (prX ps i).dr, (prX ps i).de, (prX ps i).dn, (prX ps i).dv]) := fun h => ⟨h.r (0, _) (by simp), h.r (1, _) (by simp)⟩
 refine a1i [0, 1, 2, 3, 6, 7, 11, 12, 13, 14, 15, 38, 45, 46, 58, 59, 60, 61, 68, 92, 119] (fun f s' => f 8 = .int .u32 (setF (pAt mo.procs i).locals : Int) /\ s' = s0) ?_ ?_
 ·obtain ⟨g0, g1⟩ := hg hp0
  refine V8 [0, 1, 2, 3, 6, 7, 11, 12, 13, 14, 15, 38, 45, 46, 58, 59, 60, 61, 68, 92, 119] 0 (pAt mo.procs i).locals.length (fun j f s' => f 47 = .int .i64 (j : Int) /\ f 8 = .int .u32 (setF ((pAt mo.procs i).locals.take j) : Int) /\ s' = s0) (.mk rfl) (by omega) ⟨rfl, rfl, rfl⟩ ?_
  rintro j f s' hj ⟨hE, hE8, rfl⟩
  by_cases cj : j < (pAt mo.procs i).locals.length
  ·have hb : nAt (pAt mo.procs i).locals j < 32 := by rw [a28 cj]; exact hv32 _ (List.getElem_mem cj)
   have hu : IntKind.u64.wrap (nAt (pAt mo.procs i).locals j : Int) = (nAt (pAt mo.procs i).locals j : Int) := by rw [IntKind.wrap_u64]; omega
   have hsh := b2P hb
   have hlt := a6f (l := (pAt mo.procs i).locals.take j) fun v hv => hv32 v (List.mem_of_mem_take hv)
   have hor := a4r hlt (a4h hb)
   have hsn : setF ((pAt mo.procs i).locals.take j) ||| 2 ^ nAt (pAt mo.procs i).locals j = setF ((pAt mo.procs i).locals.take (j + 1)) := by rw [List.take_succ_eq_append_getElem cj, b6n, a28 cj]
   rw [hsn] at hor
   exact zZ (aN hE (aN hE8 (aN cj (aN g0 (aN g1 (aN om (aN hu (aN hsh hor))))))))
  ·obtain rfl : j = (pAt mo.procs i).locals.length := by omega
   rw [List.take_length] at hE8
   exact zZ (aN hE (aN hE8 cj))
 rintro f s ⟨hE8, rfl⟩
 obtain ⟨g0, g1⟩ := hg hp0
 refine zY (aN g0 (aN g1 om)) ?_
 refine a1i [0, 1, 2, 3, 7, 8, 10, 38, 45, 46, 47, 48, 58, 59] (fun f s => (∃ E, Rp (f 11) 8 (Q5 (lvE (pAt mo.procs i) k)) E /\ Hp s E [(0, [m.dt, .int .i64 m.g, m.dc, m.dv, m.dp, m.ds, .bool m.b]), (1, [.str (pAt mo.procs i).name, .int .i64 ((pAt mo.procs i).copy : Int), (prX ps i).dl, .int .i64 ((pAt mo.procs i).places : Int), (prX ps i).dr, (prX ps i).de, (prX ps i).dn, (prX ps i).dv])]) /\ mo.quiet i k = (a2o (lvE (pAt mo.procs i) k) || forkE (lvE (pAt mo.procs i) k))) ?_ ?_
 ·refine V8 [0, 1, 2, 3, 7, 8, 10, 38, 45, 46, 47, 48, 58, 59] 0 (pAt mo.procs i).edges.length (fun j f s => f 60 = .int .i64 (j : Int) /\ (∃ E, Rp (f 11) 8 (Q5 (lvT (pAt mo.procs i) k j)) E /\ Hp s E [(0, [m.dt, .int .i64 m.g, m.dc, m.dv, m.dp, m.ds, .bool m.b]), (1, [.str (pAt mo.procs i).name, .int .i64 ((pAt mo.procs i).copy : Int), (prX ps i).dl, .int .i64 ((pAt mo.procs i).places : Int), (prX ps i).dr, (prX ps i).de, (prX ps i).dn, (prX ps i).dv])]) /\ ∀ q, q < j -> (eAt (pAt mo.procs i).edges q).frm = k -> a1C mo (pAt mo.procs i) (eAt (pAt mo.procs i).edges q) = true) (.mk rfl) (by omega) ⟨rfl, ⟨[], .inl ⟨rfl, rfl, rfl⟩, hp0⟩, fun q h => by omega⟩ ?_
  clear g0 g1
  rintro j f s hj ⟨hE, ⟨E, hr, hp⟩, hall⟩
  obtain ⟨g0, g1⟩ := hg hp
  have l0 := M7 g0
  have l1 := M7 g1
  by_cases cj : j < (pAt mo.procs i).edges.length
  ·have hp2 := hp.fr (a2G (z := .cells [.int .i64 0, .int .i64 0, .int .i64 0, .int .i64 0, .int .i64 0, .int .i64 0, .bool false, .int .i64 0]) (o := .cells [.int .i64 ((eAt (pAt mo.procs i).edges j).frm : Int), .int .i64 ((eAt (pAt mo.procs i).edges j).to : Int), .int .i64 ((eAt (pAt mo.procs i).edges j).act : Int), .int .i64 (eAt (pAt mo.procs i).edges j).expr, .int .i64 (eAt (pAt mo.procs i).edges j).var, .int .i64 (eAt (pAt mo.procs i).edges j).chan, .bool (eAt (pAt mo.procs i).edges j).keep, .int .i64 ((eAt (pAt mo.procs i).edges j).node : Int)]))
   have hls := b5L (k := k) cj
   by_cases cf : (eAt (pAt mo.procs i).edges j).frm = k
   rotate_left
   ·rw [if_neg cf, List.append_nil] at hls
    refine zY (aN hE (aN cj (aN g0 (aN g1 (aN om cf))))) ?_
    rw [hls]
    refine ⟨⟨E, hr, hp2⟩, fun q hq hf => ?_⟩
    by_cases eq : q = j
    ·subst eq; exact absurd hf cf
    ·exact hall q (by omega) hf
   rw [if_pos cf] at hls
   obtain ⟨hb, hok⟩ := b4A hm ho hi cj
   have hmem := a4l cj
   by_cases hqe : a1C mo (pAt mo.procs i) (eAt (pAt mo.procs i).edges j) = true
   ·have q := b0K ho hpo hmem hqe
    have hown := (a7m ho hpo hmem).1 (by
     unfold a1C at hqe
     simp only [Bool.and_eq_true] at hqe
     exact hqe.1.2)
    have hclr := b6T (a3x hok.r hok.w) (a6f hv32) fun b hb => a8v.2 (hown b hb)
    have hor := a4r hok.r hok.w
    unfold Ft.row at hb
    rw [q.part, q.s0, q.r0, q.z0] at hb
    have qk := q.keep
    have z0 : ((0 : Nat) : Int) = 0 := rfl
    rw [z0] at hb
    have q1 : ¬ ((eAt (pAt mo.procs i).edges j).to : Int) = 1 -> ¬ (eAt (pAt mo.procs i).edges j).to <= k := fun h => by have := q.to; omega
    have hrow : Q5 (lvT (pAt mo.procs i) k (j + 1)) = Q5 (lvT (pAt mo.procs i) k j) ++ [[.int .i64 ((eAt (pAt mo.procs i).edges j).frm : Int), .int .i64 ((eAt (pAt mo.procs i).edges j).to : Int), .int .i64 ((eAt (pAt mo.procs i).edges j).act : Int), .int .i64 (eAt (pAt mo.procs i).edges j).expr, .int .i64 (eAt (pAt mo.procs i).edges j).var, .int .i64 (eAt (pAt mo.procs i).edges j).chan, .bool (eAt (pAt mo.procs i).edges j).keep, .int .i64 ((eAt (pAt mo.procs i).edges j).node : Int)]] := by rw [hls]; simp [Q5, Ed.row]
    rw [cf, qk] at hrow
    by_cases ct : ((eAt (pAt mo.procs i).edges j).to : Int) = 1
    rotate_left
    have q1 := q1 ct
    have hr1 := hrow
    rotate_left
    have hr1 := hrow
    rw [ct] at hr1
    all_goals
     refine zY (aN hE (aN cj (aN g0 (aN g1 (aN om (aN cf (aN hb (aN fm (aN qk (aN hE8 (aN ct (aN q1 (aN hor hclr))))))))))))) ?_
     refine a5T (A := []) (B := []) hr (by rw [List.nil_append, List.append_nil]; exact (hp.fr a2G).fr a2G) rfl (a2V _) (by decide) (by have := b1y (pAt mo.procs i) k j; simp; omega) ?_
     intro s' h1 h2 h3 h4
     refine zY (aN hE cj) ?_
     rw [hr1]
     refine ⟨⟨_, h1, by simpa using h2⟩, fun q hq hf => ?_⟩
     by_cases eq : q = j
     ·subst eq; exact hqe
     ·exact hall q (by omega) hf
   ·rw [c2e hmem cf (by simpa using hqe)]
    have hor := a4r hok.r hok.w
    unfold Ft.row at hb
    by_cases qk : (eAt (pAt mo.procs i).edges j).keep = true
    ·exact zZ (aN hE (aN cj (aN g0 (aN g1 (aN om (aN cf (aN hb (aN fm (aN qk hE8)))))))))
    have qk : (eAt (pAt mo.procs i).edges j).keep = false := by simpa using qk
    by_cases ct : ((eAt (pAt mo.procs i).edges j).to : Int) = 1
    ·have q0 := ct
     by_cases qp : (P8 mo (pAt mo.procs i) (eAt (pAt mo.procs i).edges j)).part = true
     ·exact zZ (aN hE (aN cj (aN g0 (aN g1 (aN om (aN cf (aN hb (aN fm (aN qk (aN hE8 (aN ct qp)))))))))))
     have qp : (P8 mo (pAt mo.procs i) (eAt (pAt mo.procs i).edges j)).part = false := by simpa using qp
     by_cases qs : ((P8 mo (pAt mo.procs i) (eAt (pAt mo.procs i).edges j)).sends : Int) = 0
     rotate_left
     ·exact zZ (aN hE (aN cj (aN g0 (aN g1 (aN om (aN cf (aN hb (aN fm (aN qk (aN hE8 (aN ct (aN qp qs))))))))))))
     by_cases qr : ((P8 mo (pAt mo.procs i) (eAt (pAt mo.procs i).edges j)).recvs : Int) = 0
     rotate_left
     ·exact zZ (aN hE (aN cj (aN g0 (aN g1 (aN om (aN cf (aN hb (aN fm (aN qk (aN hE8 (aN ct (aN qp (aN qs qr)))))))))))))
     by_cases qz : ((P8 mo (pAt mo.procs i) (eAt (pAt mo.procs i).edges j)).sizes : Int) = 0
     rotate_left
     ·exact zZ (aN hE (aN cj (aN g0 (aN g1 (aN om (aN cf (aN hb (aN fm (aN qk (aN hE8 (aN ct (aN qp (aN qs (aN qr qz))))))))))))))
     have qo : ¬ ∀ b, ((P8 mo (pAt mo.procs i) (eAt (pAt mo.procs i).edges j)).reads ||| (P8 mo (pAt mo.procs i) (eAt (pAt mo.procs i).edges j)).writes).testBit b = true -> b ∈ (pAt mo.procs i).locals := fun ho2 => hqe (by
      have h1 := (a7m ho hpo hmem).2 ho2
      unfold a1C
      simp only [qk, qp, h1, Bool.not_false, Bool.and_true, Bool.true_and, Bool.and_eq_true, Bool.or_eq_true, decide_eq_true_eq]
      omega)
     obtain ⟨b, hb2⟩ := Classical.not_forall.1 qo
     obtain ⟨hb3, hb4⟩ := Classical.not_imp.1 hb2
     have hclr := b1A (a3x hok.r hok.w) (a6f hv32) hb3 (by rw [Bool.eq_false_iff]; exact fun h => hb4 (a8v.1 h))
     exact zZ (aN hE (aN cj (aN g0 (aN g1 (aN om (aN cf (aN hb (aN fm (aN qk (aN hE8 (aN ct (aN qp (aN qs (aN qr (aN qz (aN hor hclr))))))))))))))))
    by_cases ct2 : (eAt (pAt mo.procs i).edges j).to <= k
    ·exact zZ (aN hE (aN cj (aN g0 (aN g1 (aN om (aN cf (aN hb (aN fm (aN qk (aN hE8 (aN ct ct2)))))))))))
    by_cases qp : (P8 mo (pAt mo.procs i) (eAt (pAt mo.procs i).edges j)).part = true
    ·exact zZ (aN hE (aN cj (aN g0 (aN g1 (aN om (aN cf (aN hb (aN fm (aN qk (aN hE8 (aN ct (aN ct2 qp))))))))))))
    have qp : (P8 mo (pAt mo.procs i) (eAt (pAt mo.procs i).edges j)).part = false := by simpa using qp
    by_cases qs : ((P8 mo (pAt mo.procs i) (eAt (pAt mo.procs i).edges j)).sends : Int) = 0
    rotate_left
    ·exact zZ (aN hE (aN cj (aN g0 (aN g1 (aN om (aN cf (aN hb (aN fm (aN qk (aN hE8 (aN ct (aN ct2 (aN qp qs)))))))))))))
    by_cases qr : ((P8 mo (pAt mo.procs i) (eAt (pAt mo.procs i).edges j)).recvs : Int) = 0
    rotate_left
    ·exact zZ (aN hE (aN cj (aN g0 (aN g1 (aN om (aN cf (aN hb (aN fm (aN qk (aN hE8 (aN ct (aN ct2 (aN qp (aN qs qr))))))))))))))
    by_cases qz : ((P8 mo (pAt mo.procs i) (eAt (pAt mo.procs i).edges j)).sizes : Int) = 0
    rotate_left
    ·exact zZ (aN hE (aN cj (aN g0 (aN g1 (aN om (aN cf (aN hb (aN fm (aN qk (aN hE8 (aN ct (aN ct2 (aN qp (aN qs (aN qr qz)))))))))))))))
    have qo : ¬ ∀ b, ((P8 mo (pAt mo.procs i) (eAt (pAt mo.procs i).edges j)).reads ||| (P8 mo (pAt mo.procs i) (eAt (pAt mo.procs i).edges j)).writes).testBit b = true -> b ∈ (pAt mo.procs i).locals := fun ho2 => hqe (by
     have h1 := (a7m ho hpo hmem).2 ho2
     unfold a1C
     simp only [qk, qp, h1, Bool.not_false, Bool.and_true, Bool.true_and, Bool.and_eq_true, Bool.or_eq_true, decide_eq_true_eq]
     omega)
    obtain ⟨b, hb2⟩ := Classical.not_forall.1 qo
    obtain ⟨hb3, hb4⟩ := Classical.not_imp.1 hb2
    have hclr := b1A (a3x hok.r hok.w) (a6f hv32) hb3 (by rw [Bool.eq_false_iff]; exact fun h => hb4 (a8v.1 h))
    exact zZ (aN hE (aN cj (aN g0 (aN g1 (aN om (aN cf (aN hb (aN fm (aN qk (aN hE8 (aN ct (aN ct2 (aN qp (aN qs (aN qr (aN qz (aN hor hclr)))))))))))))))))
  ·obtain rfl : j = (pAt mo.procs i).edges.length := by omega
   rw [b01] at hr
   refine zY (aN hE cj) ?_
   refine ⟨⟨E, hr, hp⟩, b4h hi fun e he hf => ?_⟩
   obtain ⟨q, hq', rfl⟩ := List.getElem_of_mem he
   have := hall q hq'
   rw [a31 hq'] at this
   exact this hf
 ·rintro f s ⟨⟨E, hr, hp⟩, hqv⟩
  obtain ⟨d', h1, h2⟩ := a30 hr hp (fun e h => h) (a2V _) (b3B _)
  have hic : ∀ l, N2 (V.ice s.get 20) (f 11 :: l) = (N2 (V.ice s.get 20) l).map (d' :: ·) := fun l => b77 h1
  have hlen : (lvE (pAt mo.procs i) k).length <= 4000 := by rw [<- b01]; exact Nat.le_trans (b1y _ _ _) hel
  have hpl := c3Q h2 hlen
  have hfk := c0U h2 hlen
  rw [hqv]
  generalize a2o (lvE (pAt mo.procs i) k) = pl at *
  generalize forkE (lvE (pAt mo.procs i) k) = fk at *
  cases pl
  ·rw [Bool.false_or]
   simp (disch := (first|exact Rf.mk rfl|with_reducible assumption|omega|((repeat (first|rw [nP]|rw [nS]|rw [N5]))<;>omega)|decide)) only [go_sem, ↓reduceIte, hic, Bool.true_or, hpl, hfk]
  ·simp (disch := (first|exact Rf.mk rfl|with_reducible assumption|omega|((repeat (first|rw [nP]|rw [nS]|rw [N5]))<;>omega)|decide)) only [go_sem, ↓reduceIte, hic, Bool.true_or, hpl, hfk]
end Go.Proofs.YtnjlhebkhjcagaaGreat
namespace Go.Proofs.YtnjlhebkhjcagaaGreat
open Go.V
set_option maxRecDepth 100000
set_option maxHeartbeats 4000000
variable {m : MdX} {mo : Mo} {ps : List (Pr × PrD)} {x : StD} {st : Stt}
def isP (i : Nat) (v : Mv) : Bool := decide (v.kind = 0) && decide (v.proc = i)
theorem c2G {l : List Mv} {P : Mv -> Bool} {j : Nat} (h : j < l.length) : (l.take (j + 1)).filter P = (l.take j).filter P ++ if P (V6 l j) = true then [V6 l j] else [] := by
 rw [List.take_succ_eq_append_getElem h, List.filter_append, a5N h]
 congr 1
 by_cases c : P l[j] = true <;> simp [c]
theorem b8T {l : List Mv} {P : Mv -> Bool} {j : Nat} : ((l.take j).filter P).length <= l.length := by
 refine Nat.le_trans (List.length_filter_le _ _) ?_
 rw [List.length_take]; omega
theorem b4J {i : Nat} (hi : i < mo.procs.length) (h : mo.quiet i (nAt st.at' i) = true) (hn : ∀ q, q < i -> mo.quiet q (nAt st.at' q) = false) : mo.firstQ st = some i := by
 unfold Mo.firstQ
 rw [List.find?_eq_some_iff_getElem]
 refine ⟨h, i, by simpa using hi, by simp, fun j hj => ?_⟩
 rw [List.getElem_range, hn j hj]
 rfl
theorem b4N (hn : ∀ q, q < mo.procs.length -> mo.quiet q (nAt st.at' q) = false) : mo.firstQ st = none := by
 unfold Mo.firstQ
 rw [List.find?_eq_none]
 intro q hq
 rw [hn q (List.mem_range.1 hq)]
 simp
theorem c0V (hm : MoF m mo ps) (ho : Q4 mo) (hf : a0m mo) (hq : MoQ mo) (hx : a1a mo x st) : a5I vfs 14 [.agg [m.dt, .int .i64 m.g, m.dc, m.dv, m.dp, m.ds, .bool m.b], .agg [x.da, x.dv, x.dc, .int .i64 st.hold]] fun d => FL 4 d (X9 (mo.ample st)) := by
 have fm := a2w hm
 have fx := a3s hx.f
 have om := hm.ones
 have ox := hx.f.ones
 have hxa := hx.f.a
 have hnp := ho.np
 have hh := hx.fit.hold
 have hal := hx.fit.at'
 have hml := b0S ho (st := st)
 obtain ⟨dm, hmv, hfl⟩ := b4q hm ho hf hx
 have oe := FL.one hfl
 have pe := FL.pz hfl
 by_cases c1 : (mo.moves st).length = 0
 ·have e : mo.ample st = [] := by
   have : mo.moves st = [] := List.length_eq_zero_iff.1 c1
   unfold Mo.ample
   rw [this]
   repeat' split
   all_goals rfl
  refine a4v (vf := a3v) rfl ?_
  unfold a3v; refine zF ?_
  refine zY (aN om (aN ox (aN fm (aN fx (aN hmv (aN hfl c1)))))) ?_
  rw [e]
  refine ⟨_, rfl, ?_⟩
  rw [List.length_eq_zero_iff.1 c1] at hfl
  exact hfl
 by_cases c2 : st.hold = -1
 rotate_left
 ·have e : mo.ample st = mo.moves st := by
   unfold Mo.ample
   rw [if_neg (by omega)]
  refine a4v (vf := a3v) rfl ?_
  unfold a3v; refine zF ?_
  refine zY (aN om (aN ox (aN fm (aN fx (aN hmv (aN hfl (aN c1 c2))))))) ?_
  rw [e]
  exact ⟨_, rfl, hfl⟩
 have c3 := eq_true c2
 refine a4v (vf := a3v) rfl ?_
 unfold a3v; refine zF ?_
 refine zY (aN om (aN ox (aN fm (aN fx (aN hmv (aN hfl (aN c1 c3))))))) ?_
 have hp0 : Hp ((M1.empty.push (.cells [m.dt, .int .i64 m.g, m.dc, m.dv, m.dp, m.ds, .bool m.b])).push (.cells [x.da, x.dv, x.dc, .int .i64 st.hold])) [] [(0, [m.dt, .int .i64 m.g, m.dc, m.dv, m.dp, m.ds, .bool m.b]), (1, [x.da, x.dv, x.dc, .int .i64 st.hold])] := ⟨List.nodup_nil, by simp, by simp [Has], by
  intro y hy
  simp only [List.mem_cons, List.not_mem_nil, or_false] at hy
  rcases hy with rfl | rfl
  ·exact zZ0
  ·simp (disch := (first|exact Rf.mk rfl|with_reducible assumption|omega|((repeat (first|rw [nP]|rw [nS]|rw [N5]))<;>omega)|decide)) only [go_sem, ↓reduceIte]⟩
 generalize (M1.empty.push (.cells [m.dt, .int .i64 m.g, m.dc, m.dv, m.dp, m.ds, .bool m.b])).push (.cells [x.da, x.dv, x.dc, .int .i64 st.hold]) = s0 at *
 have hg : ∀ {s E}, Hp s E [(0, [m.dt, .int .i64 m.g, m.dc, m.dv, m.dp, m.ds, .bool m.b]), (1, [x.da, x.dv, x.dc, .int .i64 st.hold])] -> s.get 0 = some (.cells [m.dt, .int .i64 m.g, m.dc, m.dv, m.dp, m.ds, .bool m.b]) /\ s.get 1 = some (.cells [x.da, x.dv, x.dc, .int .i64 st.hold]) := fun h => ⟨h.r (0, _) (by simp), h.r (1, _) (by simp)⟩
 obtain ⟨g0, g1⟩ := hg hp0
 have l0 := M7 g0
 have l1 := M7 g1
 refine V8 [0, 1, 2, 3, 5, 21, 24, 25] 0 mo.procs.length (fun i f s => f 26 = .int .i64 (i : Int) /\ s = s0 /\ ∀ q, q < i -> mo.quiet q (nAt st.at' q) = false) (.mk rfl) (by omega) ⟨rfl, rfl, fun q h => by omega⟩ ?_
 rintro i f s hi ⟨hE, rfl, hall⟩
 by_cases ci : i < mo.procs.length
 rotate_left
 ·have hF := b4N (mo := mo) (st := st) fun q h => hall q (by omega)
  have e : mo.ample st = mo.moves st := by
   unfold Mo.ample
   rw [hF]
   simp
  refine zY (aN hE (aN ci hal)) ?_
  rw [e]
  exact ⟨_, rfl, hfl⟩
 have ci' : i < st.at'.length := by omega
 have hqb := b0N hm ho hq (k := nAt st.at' i) ci
 cases hqv : mo.quiet i (nAt st.at' i)
 ·rw [hqv] at hqb
  refine zY (aN hE (aN ci (aN ci' (aN hal (aN g0 (aN g1 (aN om (aN ox (aN fm hqb))))))))) ?_
  intro q hq'
  by_cases eq : q = i
  ·subst eq; exact hqv
  ·exact hall q (by omega)
 rw [hqv] at hqb
 have hF := b4J ci hqv hall
 have e : mo.ample st = (mo.moves st).filter (isP i) := by
  unfold Mo.ample isP
  rw [hF, if_pos (by omega)]
 refine zY (aN hE (aN ci (aN ci' (aN hal (aN g0 (aN g1 (aN om (aN ox (aN fm (aN hqb hfl)))))))))) ?_
 refine V8 [0, 1, 2, 3, 4, 5, 6, 7, 21, 24, 25, 26, 27, 35, 36, 37] 0 (mo.moves st).length (fun j f s => f 38 = .int .i64 (j : Int) /\ ∃ E, Rp (f 8) 4 (X9 (((mo.moves st).take j).filter (isP i))) E /\ Hp s E [(0, [m.dt, .int .i64 m.g, m.dc, m.dv, m.dp, m.ds, .bool m.b]), (1, [x.da, x.dv, x.dc, .int .i64 st.hold])]) (.mk rfl) (by omega) ⟨rfl, [], .inl ⟨rfl, rfl, rfl⟩, hp0⟩ ?_
 rintro j f s hj ⟨hE, E, hr, hp⟩
 by_cases cj : j < (mo.moves st).length
 rotate_left
 ·obtain rfl : j = (mo.moves st).length := by omega
  rw [List.take_length] at hr
  obtain ⟨d', h1, h2⟩ := a30 hr hp (fun e h => h) (a54 _) (a5H _)
  refine zY (aN hE (aN cj h1)) ?_
  rw [e]
  exact ⟨_, rfl, h2⟩
 have hp2 := hp.fr (a2G (z := .cells [.int .i64 0, .int .i64 0, .int .i64 0, .int .i64 0]) (o := .cells [.int .i64 ((V6 (mo.moves st) j).kind : Int), .int .i64 ((V6 (mo.moves st) j).proc : Int), .int .i64 ((V6 (mo.moves st) j).edge : Int), .int .i64 ((V6 (mo.moves st) j).chan : Int)]))
 have hsu := c2G (P := isP i) cj
 by_cases k0 : ((V6 (mo.moves st) j).kind : Int) = 0
 rotate_left
 ·have : isP i (V6 (mo.moves st) j) = false := by
   unfold isP
   rw [decide_eq_false (by omega), Bool.false_and]
  rw [this, if_neg (by simp), List.append_nil] at hsu
  refine zY (aN hE (aN cj (aN hfl k0))) ?_
  rw [hsu]
  exact ⟨E, hr, hp2⟩
 by_cases k1 : (V6 (mo.moves st) j).proc = i
 rotate_left
 ·have : isP i (V6 (mo.moves st) j) = false := by
   unfold isP
   rw [decide_eq_false k1, Bool.and_false]
  rw [this, if_neg (by simp), List.append_nil] at hsu
  refine zY (aN hE (aN cj (aN hfl (aN k0 k1)))) ?_
  rw [hsu]
  rw [k0] at hp2
  exact ⟨E, hr, hp2⟩
 have : isP i (V6 (mo.moves st) j) = true := by
  unfold isP
  rw [decide_eq_true (by omega), decide_eq_true k1]
  rfl
 rw [this, if_pos rfl] at hsu
 refine zY (aN hE (aN cj (aN hfl (aN k0 k1)))) ?_
 refine a2x (V6 (mo.moves st) j) ?_ hr (hp.fr a2G) (by decide) (by have := b8T (l := mo.moves st) (P := isP i) (j := j); omega) ?_
 ·unfold Mv.row
  rw [k0, k1]
 rintro d1 s1 E1 hr1 hp1
 refine zY (aN hE cj) ?_
 rw [hsu]
 exact ⟨E1, hr1, hp1⟩
theorem b51 (hm : MoF m mo ps) (ho : Q4 mo) (hf : a0m mo) (hq : MoQ mo) (hx : a1a mo x st) : ∃ d, Eqc vfs 14 [.agg [m.dt, .int .i64 m.g, m.dc, m.dv, m.dp, m.ds, .bool m.b], .agg [x.da, x.dv, x.dc, .int .i64 st.hold]] d /\ FL 4 d (X9 (mo.ample st)) := by
 obtain ⟨d, h1, h2⟩ := c0V hm ho hf hq hx
 exact ⟨d, U0 h1, h2⟩
end Go.Proofs.YtnjlhebkhjcagaaGreat
namespace Go.Proofs.YtnjlhebkhjcagaaGreat
open Go.V
set_option maxRecDepth 100000
set_option maxHeartbeats 4000000
variable {m : MdX} {mo : Mo} {ps : List (Pr × PrD)} {x : StD} {st : Stt}
theorem c0K {f : Nat} {args : List D} {P : Stt -> Prop} (h : EvP vfs f args M1.empty fun r s => ∃ cs st, r = .agg cs /\ a1d s cs st /\ P st) : ∃ x st, a03 vfs f args (.agg [x.da, x.dv, x.dc, .int .i64 st.hold]) /\ StF x st /\ P st := by
 obtain ⟨d, s', h1, cs, st, rfl, h2, h3⟩ := h
 obtain ⟨x, h4, h5⟩ := h2.frz
 exact ⟨x, st, ⟨_, _, h1, h4⟩, h5, h3⟩
theorem b73 (hm : MoF m mo ps) (ho : Q4 mo) (hf : a0m mo) {d : D} {raw : List Int} (hd : FI d raw) (hraw : ∀ n ∈ raw, a0p n) : ∃ x st, Eqc vfs 13 [.agg [m.dt, .int .i64 m.g, m.dc, m.dv, m.dp, m.ds, .bool m.b], d] (.agg [x.da, x.dv, x.dc, .int .i64 st.hold]) /\ a1a mo x st /\ st.hold = -1 := by
 obtain ⟨x, st, h1, h2, h3, h4⟩ := c0K (c2C hm ho hf hd hraw)
 exact ⟨x, st, U0 h1, ⟨h2, b4t hf h3, h3⟩, h4⟩
end Go.Proofs.YtnjlhebkhjcagaaGreat
namespace Go.Proofs.YtnjlhebkhjcagaaGreat
open Go.V
set_option maxRecDepth 100000
set_option maxHeartbeats 4000000
variable {m : MdX} {mo : Mo} {ps : List (Pr × PrD)} {x : StD} {st : Stt}
theorem c2z {d : D} {t : List Nd} (hT : N7 d t) : ∃ d', Eqc vfs 12 [d] d' /\ b1Y t d' := by
 have pT : PZ d := hT.fl.pz
 obtain ⟨b, hb, _⟩ := b5S hT
 have hb := a2F hb rfl
 cases b
 ·refine ⟨.tup [.agg [.nils, .int .i64 0, .nils, .nils, .nils, .nils, .bool false], .bool false], U0 ?_, .inl rfl⟩
  refine P2 (vf := a2s) rfl ?_
  unfold a2s; refine zF ?_
  refine zY (aN pT hb) ?_
  rfl
 obtain ⟨c, hc, hR⟩ := b7p hT
 have hc := a2F hc rfl
 cases c
 ·refine ⟨.tup [.agg [.nils, .int .i64 0, .nils, .nils, .nils, .nils, .bool false], .bool false], U0 ?_, .inl rfl⟩
  refine P2 (vf := a2s) rfl ?_
  unfold a2s; refine zF ?_
  refine zY (aN pT (aN hb hc)) ?_
  rfl
 obtain ⟨r, s1, d', h1, h2, h3⟩ := b4I hT (hR rfl)
 have hmk : Eqc vfs 34 [d] d' := U0 ⟨_, _, h1, h2⟩
 refine ⟨d', U0 ?_, h3⟩
 rcases h3 with rfl | ⟨m, ps, rfl, hR, hS, hY, hm⟩
 ·refine P2 (vf := a2s) rfl ?_
  unfold a2s; refine zF ?_
  refine zY (aN pT (aN hb (aN hc hmk))) ?_
  rfl
 ·have om := hm.ones
  have fm := a2w hm
  unfold N6 at hmk ⊢
  refine P2 (vf := a2s) rfl ?_
  unfold a2s; refine zF ?_
  refine zY (aN pT (aN hb (aN hc (aN hmk om)))) ?_
  trivial
theorem b2Q (mo : Mo) (st : Stt) : mo.ample st = mo.moves st ∨ ∃ i, st.hold < 0 /\ mo.firstQ st = some i /\ mo.quiet i (nAt st.at' i) = true /\ mo.ample st = (mo.moves st).filter (isP i) := by
 unfold Mo.ample
 split
 ·rename_i hh
  cases hF : mo.firstQ st with
  | none => exact .inl rfl
  | some i =>
    have hqi : mo.quiet i (nAt st.at' i) = true := by
     have := List.find?_some hF
     exact this
    exact .inr ⟨i, hh, rfl, hqi, rfl⟩
 ·exact .inl rfl
end Go.Proofs.YtnjlhebkhjcagaaGreat
namespace Go.V
variable {mo : Mo} {M : Stt -> List Mv}
def Mo.fst (mo : Mo) : Stt := ⟨List.replicate mo.procs.length 0, mo.vals, List.replicate mo.chans.length [], -1⟩
theorem c0L {n i : Nat} : nAt (List.replicate n 0) i = 0 := by
 unfold nAt
 by_cases h : i < n
 ·simp [List.getD, h]
 ·simp [List.getD, h]
theorem b9N (ho : Q4 mo) (hf : a0m mo) : Fit mo mo.fst := by
 refine a3i.1 ⟨by simp [Mo.fst], by simp [Mo.fst, Mo.vals], by simp [Mo.fst], fun i hi => ?_, fun i hi => ?_, fun i hi => ?_, fun i hi n hn => ?_, by simp only [Mo.fst]; omega⟩
 ·have := (ho.pr _ (a0R hi)).inv.two
  show nAt (List.replicate _ 0) i < _
  rw [c0L]; omega
 ·show O2 (zAt mo.vals i) _ = zAt mo.vals i
  rw [a80 hi]
  exact (hf.vr _ (a3R hi)).2.2
 ·show ((cAt (List.replicate _ []) i).length : Int) <= _
  rw [a5j]
  have := (hf.ch _ (a3X hi)).1
  simp only [List.length_nil]; omega
 ·have hn : n ∈ cAt (List.replicate _ []) i := hn
  rw [a5j] at hn; cases hn
theorem b8H (ho : Q4 mo) (hf : a0m mo) : a2Z mo mo.fst := ⟨b9N ho hf, fun j hj => by simp only [Mo.fst] at hj; omega⟩
def Rch (mo : Mo) (M : Stt -> List Mv) (t : Stt) : Prop := ∃ n, a1T mo M n mo.fst t
theorem a1T.snoc : ∀ {n : Nat} {s t : Stt} {v : Mv}, a1T mo M n s t -> v ∈ M t -> a1T mo M (n + 1) s (mo.doS t v)
 | 0, s, t, v, h, hv => by cases h; exact ⟨v, hv, rfl⟩
 | n + 1, s, t, v, ⟨w, hw, h⟩, hv => ⟨w, hw, h.snoc hv⟩
theorem Rch.step {t : Stt} {v : Mv} (h : Rch mo M t) (hv : v ∈ M t) : Rch mo M (mo.doS t v) := by
 obtain ⟨n, h⟩ := h
 exact ⟨n + 1, h.snoc hv⟩
theorem a1T.mono {M' : Stt -> List Mv} (hs : ∀ s v, v ∈ M s -> v ∈ M' s) : ∀ {n : Nat} {s t : Stt}, a1T mo M n s t -> a1T mo M' n s t
 | 0, s, t, h => h
 | n + 1, s, t, ⟨w, hw, h⟩ => ⟨w, hs _ _ hw, h.mono hs⟩
theorem Rch.mono {M' : Stt -> List Mv} (hs : ∀ s v, v ∈ M s -> v ∈ M' s) {t : Stt} (h : Rch mo M t) : Rch mo M' t := by
 obtain ⟨n, h⟩ := h
 exact ⟨n, h.mono hs⟩
theorem Rch.inv (ho : Q4 mo) (hf : a0m mo) (hs : ∀ s v, v ∈ M s -> v ∈ mo.moves s) {t : Stt} (h : Rch mo M t) : a2Z mo t := by
 obtain ⟨n, h⟩ := h
 exact (h.mono hs).inv ho hf (b8H ho hf)
theorem c2a {L : List Stt} (h0 : mo.fst ∈ L) (hc : ∀ s ∈ L, ∀ v ∈ M s, mo.doS s v ∈ L) {t : Stt} (h : Rch mo M t) : t ∈ L := by
 obtain ⟨n, h⟩ := h
 have key : ∀ {n : Nat} {s t : Stt}, s ∈ L -> a1T mo M n s t -> t ∈ L := by
  intro n
  induction n with
  | zero => intro s t hs h; cases h; exact hs
  | succ n ih => intro s t hs h; obtain ⟨v, hv, h⟩ := h; exact ih (hc s hs v hv) h
 exact key h0 h
def b6F (mo : Mo) (M : Stt -> List Mv) (a b : Bool) : Prop :=
 (a = true /\ b = true /\ ∃ t, Rch mo M t /\ mo.badS t = true) ∨ (a = false /\ b = true /\ ∃ L : List Stt, L.length <= 120 /\ ∀ t, Rch mo M t -> t ∈ L /\ mo.badS t = false) ∨ (a = false /\ b = false)
abbrev QL := List (StD × Stt)
def qAt (l : QL) (i : Nat) : StD × Stt := l.getD i ⟨⟨.nils, .nils, .nils⟩, ⟨[], [], [], 0⟩⟩
theorem a9y {l : QL} {i : Nat} (h : i < l.length) : qAt l i = l[i] := by simp [qAt, List.getD, h]
theorem b1d {l : QL} {q : StD × Stt} (h : q ∈ l) : ∃ i, i < l.length /\ qAt l i = q := by
 obtain ⟨i, hi, e⟩ := List.getElem_of_mem h
 exact ⟨i, hi, by rw [a9y hi, e]⟩
theorem b30 {l r : QL} {i : Nat} (h : i < l.length) : qAt (l ++ r) i = qAt l i := by
 rw [a9y h, a9y (by simp; omega), List.getElem_append_left h]
structure a2l (mo : Mo) (M : Stt -> List Mv) (L : QL) (i : Nat) : Prop where
 fst : mo.fst ∈ L.map Prod.snd
 rch : ∀ q ∈ L, Rch mo M q.2
 f : ∀ q ∈ L, StF q.1 q.2
 ok : ∀ j, j < i -> mo.badS (qAt L j).2 = false
 cl : ∀ j, j < i -> ∀ v ∈ M (qAt L j).2, mo.doS (qAt L j).2 v ∈ L.map Prod.snd
 nd : (L.map Prod.snd).Nodup
theorem a2l.app {L : QL} {i : Nat} (h : a2l mo M L i) (hi : i <= L.length) {q : StD × Stt} (hr : Rch mo M q.2) (hf : StF q.1 q.2) (hn : q.2 ∉ L.map Prod.snd) : a2l mo M (L ++ [q]) i := by
 refine ⟨by rw [List.map_append]; exact List.mem_append_left _ h.fst, fun p hp => ?_, fun p hp => ?_, fun j hj => ?_, fun j hj v hv => ?_, ?_⟩
 ·rcases List.mem_append.1 hp with hp | hp
  ·exact h.rch p hp
  ·rw [List.mem_singleton.1 hp]; exact hr
 ·rcases List.mem_append.1 hp with hp | hp
  ·exact h.f p hp
  ·rw [List.mem_singleton.1 hp]; exact hf
 ·rw [b30 (by omega)]; exact h.ok j hj
 ·rw [b30 (by omega)] at hv ⊢
  rw [List.map_append]
  exact List.mem_append_left _ (h.cl j hj v hv)
 ·rw [List.map_append]
  refine List.nodup_append.2 ⟨h.nd, by simp, fun a ha b hb => ?_⟩
  simp only [List.map_cons, List.map_nil, List.mem_singleton] at hb
  rw [hb]
  exact fun e => hn (e ▸ ha)
theorem a2l.next {L : QL} {i : Nat} (h : a2l mo M L i) (hb : mo.badS (qAt L i).2 = false) (hc : ∀ v ∈ M (qAt L i).2, mo.doS (qAt L i).2 v ∈ L.map Prod.snd) : a2l mo M L (i + 1) := by
 refine ⟨h.fst, h.rch, h.f, fun j hj => ?_, fun j hj => ?_, h.nd⟩
 ·by_cases e : j = i
  ·rw [e]; exact hb
  ·exact h.ok j (by omega)
 ·by_cases e : j = i
  ·rw [e]; exact hc
  ·exact h.cl j (by omega)
theorem a2l.all {L : QL} {i : Nat} (h : a2l mo M L i) (hi : ¬ i < L.length) : ∀ t, Rch mo M t -> t ∈ L.map Prod.snd /\ mo.badS t = false := by
 intro t ht
 have hm := c2a (L := L.map Prod.snd) h.fst (fun s hs v hv => by
  obtain ⟨q, hq, rfl⟩ := List.mem_map.1 hs
  obtain ⟨j, hj, rfl⟩ := b1d hq
  exact h.cl j (by omega) v hv) ht
 refine ⟨hm, ?_⟩
 obtain ⟨q, hq, rfl⟩ := List.mem_map.1 hm
 obtain ⟨j, hj, rfl⟩ := b1d hq
 exact h.ok j (by omega)
theorem a2l.none {L : QL} {i : Nat} (h : a2l mo M L i) (hi : ¬ i < L.length) (hl : L.length <= 120) : b6F mo M false true :=
 .inr (.inl ⟨rfl, rfl, L.map Prod.snd, by rw [List.length_map]; exact hl, h.all hi⟩)
end Go.V
namespace Go.V
variable {mo : Mo} {π τ : Nat -> Nat} {s s' : Stt}
structure Sym (mo : Mo) (π τ : Nat -> Nat) : Prop where
 pi : ∀ v, π (π v) = v
 pg : ∀ v, v < mo.globals -> π v = v
 pl : ∀ v, v < mo.vars.length -> π v < mo.vars.length
 pw : ∀ v, v < mo.vars.length -> (vAt mo.vars (π v)).width = (vAt mo.vars v).width
 tt : ∀ j, τ (τ j) = j
 tl : ∀ j, j < mo.procs.length -> τ j < mo.procs.length
 nm : ∀ j, j < mo.procs.length -> (pAt mo.procs (τ j)).names = (pAt mo.procs j).names
 vr : ∀ j, j < mo.procs.length -> (pAt mo.procs (τ j)).vars = (pAt mo.procs j).vars.map π
 ed : ∀ j, j < mo.procs.length -> (pAt mo.procs (τ j)).edges = (pAt mo.procs j).edges.map (b44 π)
 rs : ∀ j, j < mo.procs.length -> (pAt mo.procs (τ j)).rest = (pAt mo.procs j).rest
structure SR (mo : Mo) (π τ : Nat -> Nat) (s s' : Stt) : Prop where
 al : s.at'.length = mo.procs.length
 al' : s'.at'.length = mo.procs.length
 at' : ∀ j, j < mo.procs.length -> nAt s'.at' (τ j) = nAt s.at' j
 vl : s.vars.length = mo.vars.length
 vl' : s'.vars.length = mo.vars.length
 vr : ∀ v, v < mo.vars.length -> zAt s'.vars (π v) = zAt s.vars v
 ch : s'.chans = s.chans
 hd : (s.hold < 0 /\ s'.hold = s.hold) ∨ ∃ j, j < mo.procs.length /\ s.hold = (j : Int) /\ s'.hold = ((τ j : Nat) : Int)
theorem Sym.pe (h : Sym mo π τ) {a b : Nat} : π a = π b ↔ a = b := ⟨fun e => by rw [<- h.pi a, e, h.pi], fun e => by rw [e]⟩
theorem SR.symm (h : Sym mo π τ) (r : SR mo π τ s s') : SR mo π τ s' s := by
 refine ⟨r.al', r.al, fun j hj => ?_, r.vl', r.vl, fun v hv => ?_, r.ch.symm, ?_⟩
 ·rw [<- r.at' (τ j) (h.tl j hj), h.tt]
 ·rw [<- r.vr (π v) (h.pl v hv), h.pi]
 ·rcases r.hd with ⟨a, b⟩ | ⟨j, hj, a, b⟩
  ·exact .inl ⟨by rw [b]; exact a, b.symm⟩
  ·exact .inr ⟨τ j, h.tl j hj, b, by rw [h.tt]; exact a⟩
def mapM (τ : Nat -> Nat) (v : Mv) : Mv := if v.kind = 0 then { v with proc := τ v.proc } else v
theorem b9s {c : Nat} {v : Mv} (h : v ∈ mo.movesC s c) : v.kind = 1 ∨ v.kind = 2 := by
 unfold Mo.movesC at h
 rw [List.mem_append] at h
 rcases h with h | h
 ·split at h
  ·have := List.mem_singleton.1 h
   left; rw [this]
  ·cases h
 ·split at h
  ·have := List.mem_singleton.1 h
   right; rw [this]
  ·cases h
end Go.V
namespace Go.V
variable {mo : Mo}
end Go.V
namespace Go.V
variable {mo : Mo} {s : Stt}
def b3C (p : Pr) : Bool := p.edges.all fun e => decide (e.to ≠ 0)
def a7A (mo : Mo) (s : Stt) : Prop := ∀ j, j < mo.procs.length -> b3C (pAt mo.procs j) = true -> nAt s.at' j = 0 -> s.hold ≠ (j : Int) /\ ∀ v ∈ (pAt mo.procs j).locals, zAt s.vars v = (vAt mo.vars v).value
theorem c1h {l : List Int} {i j : Nat} {x : Int} (h : i ≠ j) : zAt (l.set i x) j = zAt l j := by
 unfold zAt
 simp [List.getD, List.getElem?_set, h]
theorem c0w {i : Nat} {p : Pr} {e : Ed} : (mo.edgeS s i p e).at' = s.at'.set i e.to := by
 unfold Mo.edgeS Mo.actS
 repeat' split
 all_goals rfl
theorem c1a {i : Nat} {p : Pr} (hp : a2t mo p) {e : Ed} (he : e ∈ p.edges) {w : Nat} (hw : w ∉ p.vars) : zAt (mo.edgeS s i p e).vars w = zAt s.vars w := by
 have key : ∀ a, e.act = 1 ∨ e.act = 3 -> zAt (s.vars.set e.var.toNat a) w = zAt s.vars w := fun a ha => by
  obtain ⟨b, hb, hv⟩ := (hp.inv.ed e he).v1 ha
  rw [hv, Int.toNat_natCast]
  exact c1h fun c => hw (c ▸ hb)
 unfold Mo.edgeS Mo.actS
 split
 ·rename_i c; exact key _ (.inl c)
 split
 ·rfl
 split
 ·rename_i c; exact key _ (.inr c)
 ·rfl
theorem a7A.step (ho : Q4 mo) (hq : MoQ mo) (hI : Fit mo s) (hF : a7A mo s) {v : Mv} (hv : v ∈ mo.moves s) : a7A mo (mo.doS s v) := by
 rcases b0J.1 hv with ⟨k0, _, hp, he, _, _⟩ | ⟨_, _, c⟩
 ·have hd : mo.doS s v = mo.doE s v.proc (pAt mo.procs v.proc) (eAt (pAt mo.procs v.proc).edges v.edge) := by
   unfold Mo.doS; rw [if_neg (by omega), if_neg (by omega)]
  have hem := a4l he
  rw [hd]
  generalize eAt (pAt mo.procs v.proc).edges v.edge = e at *
  have hpo := ho.pr _ (a0R hp)
  intro j hj hb ha
  have ha : nAt (mo.edgeS s v.proc (pAt mo.procs v.proc) e).at' j = 0 := ha
  rw [c0w] at ha
  by_cases c : j = v.proc
  ·exfalso
   subst c
   have hl := hI.at'
   rw [a50 (by omega), if_pos rfl] at ha
   unfold b3C at hb
   have := List.all_eq_true.1 hb e hem
   simp [ha] at this
  ·have hl := hI.at'
   rw [a50 (by omega), if_neg c] at ha
   obtain ⟨h1, h2⟩ := hF j hj hb ha
   refine ⟨?_, fun w hw => ?_⟩
   ·unfold Mo.doE
    simp only
    split <;> omega
   ·have : zAt (mo.edgeS s v.proc (pAt mo.procs v.proc) e).vars w = zAt s.vars w := c1a hpo hem (hq.own j v.proc hj hp c w hw)
    exact this.trans (h2 w hw)
 ·have hk := b9s c
  intro j hj hb ha
  have e1 : (mo.doS s v).at' = s.at' /\ (mo.doS s v).vars = s.vars /\ (mo.doS s v).hold = s.hold := by
   unfold Mo.doS
   split
   ·exact ⟨rfl, rfl, rfl⟩
   ·rw [if_pos (by omega)]; exact ⟨rfl, rfl, rfl⟩
  rw [e1.1] at ha
  rw [e1.2.1, e1.2.2]
  exact hF j hj hb ha
end Go.V
namespace Go.V
theorem b9b {v w : Mv} : a0c [.i, .i, .i, .i] [.int .i64 (v.kind : Int), .int .i64 (v.proc : Int), .int .i64 (v.edge : Int), .int .i64 (v.chan : Int)] [.int .i64 (w.kind : Int), .int .i64 (w.proc : Int), .int .i64 (w.edge : Int), .int .i64 (w.chan : Int)] = some (decide (v = w)) := by
 have e : ∀ a b : Nat, ((a : Int) == (b : Int)) = decide (a = b) := fun a b => by
  by_cases h : a = b
  ·subst h; simp
  ·rw [decide_eq_false h]; simp; omega
 cases v; cases w
 simp [a0c, a3k, e, Bool.decide_and]
attribute [go_sem] b9b
theorem a9b {l : List Mv} {i : Nat} (h : i < l.length) : l.drop i = V6 l i :: l.drop (i + 1) := by rw [List.drop_eq_getElem_cons h, a5N h]
end Go.V
namespace Go.Proofs.YtnjlhebkhjcagaaGreat
open Go.V
set_option maxRecDepth 100000
set_option maxHeartbeats 4000000
variable {m : MdX} {mo : Mo} {ps : List (Pr × PrD)} {x : StD} {st : Stt}
theorem b9g {d0 d1 : D} {t : List Nd} {raw : List Int} (hT : N7 d0 t) (hd : FI d1 raw) (hraw : ∀ n ∈ raw, a0p n) : EvP vfs 6 [d0, d1] M1.empty fun r _ => r = .bool true := by
 have haw : Eqc vfs 11 [] (.bool true) := a2F b9D rfl
 have pT : PZ d0 := hT.fl.pz
 have pd := b3n hd
 have oT := FL.one hT.fl
 have od := FL.one hd
 obtain ⟨d', h1, h2⟩ := c2z hT
 by_cases hl : (60 : Int) < (raw.length : Int)
 ·refine Z0 (vf := vf6) rfl ?_
  unfold vf6; refine zF ?_
  refine zY (aN haw (aN hd hl)) ?_
  exact rfl
 rcases h2 with rfl | ⟨m, ps, rfl, hR, hS, hY, hm⟩
 ·refine Z0 (vf := vf6) rfl ?_
  unfold vf6; refine zF ?_
  refine zY (aN haw (aN hd (aN hl (aN h1 pT)))) ?_
  exact rfl
 have ho := b9v hR hS hY
 have hf := c3U hR hY
 have hq := b5p hR hS
 generalize a2a t = mo at *
 have om := hm.ones
 have fm := a2w hm
 have hnp := ho.np
 obtain ⟨x, st, hh, hx, hold⟩ := b73 hm ho hf hd hraw
 have fx := a3s hx.f
 have ox := hx.f.ones
 have hxa := hx.f.a
 have hal := hx.fit.at'
 have hml := b0S ho (st := st)
 obtain ⟨da, ha1, ha2⟩ := b9d hm ho hx
 have ha1 := U0 ha1
 obtain ⟨ds, hs1, hs2⟩ := b51 hm ho hf hq hx
 have hsub : (mo.ample st).Sublist (mo.moves st) := by
  rcases b2Q mo st with e | ⟨i, _, _, _, e⟩
  ·rw [e]; exact List.Sublist.refl _
  ·rw [e]; exact List.filter_sublist
 have hsl := hsub.length_le
 unfold N6 at h1
 refine Z0 (vf := vf6) rfl ?_
 unfold vf6; refine zF ?_
 refine zY (aN haw (aN hd (aN hl (aN h1 (aN pT (aN pd (aN om (aN ox (aN fm (aN fx (aN hh (aN ha1 hs1)))))))))))) ?_
 have hp0 : Hp ((((M1.empty.push (.cells [.nils, .int .i64 0, .nils, .nils, .nils, .nils, .bool false])).set 0 (some (.cells [m.dt, .int .i64 m.g, m.dc, m.dv, m.dp, m.ds, .bool m.b]))).push (.cells [.nils, .nils, .nils, .int .i64 0])).set 1 (some (.cells [x.da, x.dv, x.dc, .int .i64 st.hold]))) [] [(0, [m.dt, .int .i64 m.g, m.dc, m.dv, m.dp, m.ds, .bool m.b]), (1, [x.da, x.dv, x.dc, .int .i64 st.hold])] := ⟨List.nodup_nil, by simp, by simp [Has], by
  intro y hy
  simp only [List.mem_cons, List.not_mem_nil, or_false] at hy
  rcases hy with rfl | rfl
  ·exact zZ0
  ·simp (disch := (first|exact Rf.mk rfl|with_reducible assumption|omega|((repeat (first|rw [nP]|rw [nS]|rw [N5]))<;>omega)|decide)) only [go_sem, ↓reduceIte]⟩
 generalize (((M1.empty.push (.cells [.nils, .int .i64 0, .nils, .nils, .nils, .nils, .bool false])).set 0 (some (.cells [m.dt, .int .i64 m.g, m.dc, m.dv, m.dp, m.ds, .bool m.b]))).push (.cells [.nils, .nils, .nils, .int .i64 0])).set 1 (some (.cells [x.da, x.dv, x.dc, .int .i64 st.hold])) = s0 at *
 have g0 : s0.get 0 = some (.cells [m.dt, .int .i64 m.g, m.dc, m.dv, m.dp, m.ds, .bool m.b]) := hp0.r (0, _) (by simp)
 have g1 : s0.get 1 = some (.cells [x.da, x.dv, x.dc, .int .i64 st.hold]) := hp0.r (1, _) (by simp)
 have l0 := M7 g0
 have l1 := M7 g1
 generalize hall : mo.moves st = all at *
 generalize hsome : mo.ample st = some' at *
 refine a1i [0, 1, 4, 5, 6, 7, 8, 9, 12, 19, 27, 63, 74, 113] (fun f s => f 10 = .int .i64 (some'.length : Int) /\ s = s0) ?_ ?_
 ·refine V8 [0, 1, 4, 5, 6, 7, 8, 9, 12, 19, 27, 63, 74, 113] 0 all.length (fun i f s => f 11 = .int .i64 (i : Int) /\ ∃ k : Nat, f 10 = .int .i64 (k : Int) /\ k <= some'.length /\ (some'.drop k).Sublist (all.drop i) /\ s = s0) (.mk rfl) (by omega) ⟨rfl, 0, rfl, by omega, by simpa using hsub, rfl⟩ ?_
  rintro i f s hi ⟨hE, k, hK, hk, hS, rfl⟩
  by_cases ci : i < all.length
  rotate_left
  ·have hkl : k = some'.length := by
    have := hS.length_le
    simp only [List.length_drop] at this
    omega
   subst hkl
   exact zZ (aN hE (aN hK (aN ci (aN ha2 hs2))))
  by_cases ck : k < some'.length
  rotate_left
  ·obtain rfl : k = some'.length := by omega
   exact zZ (aN hE (aN hK (aN ci (aN ck (aN ha2 hs2)))))
  rw [a9b ci, a9b ck] at hS
  by_cases ce : V6 all i = V6 some' k
  ·refine zY (aN hE (aN hK (aN ci (aN ck (aN ha2 (aN hs2 ce)))))) ?_
   refine ⟨k + 1, by simp (disch := (first|exact Rf.mk rfl|with_reducible assumption|omega|((repeat (first|rw [nP]|rw [nS]|rw [N5]))<;>omega)|decide)) only [go_sem, ↓reduceIte], by omega, ?_⟩
   rw [ce] at hS
   exact List.cons_sublist_cons.1 hS
  ·refine zY (aN hE (aN hK (aN ci (aN ck (aN ha2 (aN hs2 ce)))))) ?_
   refine ⟨k, rfl, hk, ?_⟩
   rw [a9b ck]
   rcases List.sublist_cons_iff.1 hS with h | ⟨r, h, h2⟩
   ·exact h
   ·exact absurd (List.cons.inj h).1.symm ce
 rintro f s ⟨hK, rfl⟩
 refine zY (aN hK hs2) ?_
 refine V8 [0, 1, 5, 6, 7, 8, 9, 10, 11, 19, 27, 46, 57, 63] 0 some'.length (fun i f s' => f 12 = .int .i64 (i : Int) /\ s' = s) (.mk rfl) (by omega) ⟨rfl, rfl⟩ ?_
 rintro i f s' hi ⟨hE, rfl⟩
 by_cases ci : i < some'.length
 rotate_left
 ·refine zY (aN hE (aN ci (aN ha2 hs2))) ?_
  exact rfl
 by_cases cl : some'.length < all.length
 rotate_left
 ·refine zY (aN hE (aN ci (aN cl (aN ha2 hs2)))) ?_
  exact rfl
 rcases b2Q mo st with e | ⟨p, hh, hF, hqp, e⟩
 ·rw [hall, hsome] at e
  rw [e] at cl; omega
 rw [hall, hsome] at e
 have mem : ∀ j, j < some'.length -> (V6 some' j).kind = 0 /\ (V6 some' j).proc = p := fun j hj => by
  have := b92 hj
  rw [e] at this
  have := (List.mem_filter.1 this).2
  unfold isP at this
  simp only [Bool.and_eq_true, decide_eq_true_eq] at this
  rw [e]
  exact this
 have hp := (b6N ho hqp).lt
 have hp' : p < st.at'.length := by omega
 obtain ⟨k1, k2⟩ := mem i ci
 obtain ⟨k3, k4⟩ := mem 0 (by omega)
 have k1' : ((V6 some' i).kind : Int) = 0 := by omega
 have c0 : 0 < some'.length := by omega
 have hqb := b0N hm ho hq (k := nAt st.at' p) hp
 rw [hqp] at hqb
 have hi0 : N3 4 ds (.int .i64 0) = some (.fp [.int .i64 ((V6 some' 0).kind : Int), .int .i64 ((V6 some' 0).proc : Int), .int .i64 ((V6 some' 0).edge : Int), .int .i64 ((V6 some' 0).chan : Int)] 0) := b0H (i := 0) hs2 c0
 rw [k4] at hi0
 refine zY (aN hE (aN ci (aN cl (aN ha2 (aN hs2 (aN k1' (aN k2 (aN hi0 (aN g0 (aN g1 (aN om (aN ox (aN fm (aN hp' hqb)))))))))))))) ?_
 trivial
theorem b4g {d0 d1 : D} (h0 : a3I Ty.tree d0) (h1 : a3I (.slice 1 (.int .i64)) d1) : EvP vfs 6 [d0, d1] M1.empty fun r _ => r = .bool true := by
 obtain ⟨t, hT⟩ := c1E h0
 obtain ⟨l, hl, hn, hi⟩ := b9o h1
 exact b9g hT hl hi
end Go.Proofs.YtnjlhebkhjcagaaGreat
