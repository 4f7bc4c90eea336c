/- Texts one behind the other. -/
import Derived.Test.YtnjlhebkhjcagaaGreatZ3
import Derived.Test.YtnjlhebkhjcagaaGreatZ1
set_option linter.unusedSimpArgs false
set_option linter.unusedVariables false
namespace Go.Proofs.YtnjlhebkhjcagaaGreat
open Go.V
set_option maxRecDepth 100000
set_option maxHeartbeats 4000000
theorem a1o {s : M1} {p : Pr} {x : PrD} (hp : N8 s p x) (hl : Q2 p 1000000) {frm to act node : Nat} {expr v c : Int} :
 EvP vfs 87 [.agg (M4 p x), .int .i64 (frm : Int), .int .i64 (to : Int), .int .i64 (act : Int), .int .i64 (node : Int), .int .i64 expr, .int .i64 v, .int .i64 c] s fun r s' => ∃ x', r = .agg (M4 (p.put frm to act node expr v c) x') /\ Fr [] s s' /\ N8 s' (p.put frm to act node expr v c) x' /\ ∃ id, x'.de = .arr id 0 (p.put frm to act node expr v c).edges.length 8 /\ s.next <= id := by
 have o1 := hp.l.one
 have o2 := hp.r.one
 have o3 := hp.e.one
 have o4 := hp.n.one
 have o5 := hp.v.one
 have hel := hl.el
 unfold M4
 refine M8 (vf := a7q) rfl ?_
 unfold a7q; refine zE ?_
 try refine zW (aN o1 (aN o2 (aN o3 (aN o4 o5)))) ?_
 refine a02 (a46 (old := []) (rows := Q5 p.edges) (sz := 8) (bytes := 64) (d := x.de) ?_ (by simp) ?_ (a2V _) (by decide) (by simp; omega)) rfl rfl ?_
 ·exact O5 rfl
 ·exact hp.e.stay (((Fr.push _).thenPush _).thenPush _)
 rintro d1 s1 ⟨id1, rfl, k1, f1, g1⟩
 have fr1 : Fr [] s s1 := Fr.trans (((Fr.push _).thenPush _).thenPush _) f1 (by simp; omega)
 have n1 := f1.1
 have kb := f1.2 s.next (by simp only [M1.next_push]; omega) (by simp only [M1.next_push, List.mem_singleton]; omega)
 have kz := f1.2 (s.next + 1) (by simp only [M1.next_push]; omega) (by simp only [M1.next_push, List.mem_singleton]; omega)
 simp only [M1.next_push] at n1 g1
 rw [R7 (by simp only [M1.next_push]; omega), R7 (by simp only [M1.next_push]; omega), O5 rfl] at kb
 rw [R7 (by simp only [M1.next_push]; omega), O5 (by simp only [M1.next_push])] at kz
 have hid1 : s.next + 2 <= id1 := by omega
 clear f1 g1
 rw [List.nil_append] at k1
 simp only [List.nil_append, a2B]
 have lid := M7 k1
 try refine zW0 ?_
 refine a02 (a46 (old := Q5 p.edges) (rows := Q5 [⟨frm, to, act, expr, v, c, false, node⟩]) (sz := 8) (bytes := 64) (d := .arr s1.next 0 1 8) ?_ (a2V _) (SN.of (O5 rfl) rfl) (a2V _) (by decide) (by simp; omega)) (by rw [a2B]; rfl) rfl ?_
 ·rw [R7 lid, k1]
 rintro d2 s2 ⟨id2, rfl, k2, f2, g2⟩
 have fr2 : Fr [] s s2 := (fr1.thenPush _).trans f2 (by simp; omega)
 have n2 := f2.1
 have kb2 := f2.2 s.next (by simp only [M1.next_push]; omega) (by simp only [List.mem_singleton]; omega)
 have kz2 := f2.2 (s.next + 1) (by simp only [M1.next_push]; omega) (by simp only [List.mem_singleton]; omega)
 simp only [M1.next_push] at n2 g2
 rw [R7 (by omega), kb] at kb2
 rw [R7 (by omega), kz] at kz2
 have hid2 : s.next + 2 <= id2 := by omega
 clear f2 g2 kb kz
 rw [<- b25] at k2
 rw [<- b25, a2B]
 have lid2 := M7 k2
 try refine zW (aN kb2 (aN kz2 (aN o1 (aN o2 (aN o4 o5))))) ?_
 generalize hrow : [D.str p.name, .int .i64 (p.copy : Int), x.dl, .int .i64 (p.places : Int), x.dr, .arr id2 0 (p.edges ++ [(⟨frm, to, act, expr, v, c, false, node⟩ : Ed)]).length 8, x.dn, x.dv] = row
 have fr3 : Fr [] s ((s2.set s.next (some (.cells row))).set (s.next + 1) (some (.cells row))) := (fr2.thenSet _ (.inr (Nat.le_refl _))).thenSet _ (.inr (Nat.le_succ _))
 refine ⟨.inr trivial, _, ?_, ⟨x.dl, x.dr, .arr id2 0 (p.edges ++ [(⟨frm, to, act, expr, v, c, false, node⟩ : Ed)]).length 8, x.dn, x.dv⟩, rfl, fr3, ?_, id2, rfl, by omega⟩
 ·simp only [R9, S1, T0, Env.get, Nat.reduceEqDiff, ↓reduceIte, O8.at, M1.next_push, P6 (s := s2.set s.next _) (i := s.next + 1) (by simp only [M1.next_set]; omega)]
  rw [<- hrow]
  rfl
 refine ⟨hp.l.stay fr3, hp.r.stay fr3, SN.of ?_ (by simp [Pr.put]), hp.n.stay fr3, hp.v.stay fr3⟩
 rw [O9 (by omega), O9 (by omega), k2]
 rfl
theorem b6U (l : List Bool) (i : Nat) (b : Bool) : (S2 l).flatten.set i (.bool b) = (S2 (l.set i b)).flatten := by
 have key : ∀ l : List Bool, (S2 l).flatten = l.map .bool := by
  intro l
  induction l with
  | nil => rfl
  | cons a r ih => simp only [S2, List.map_cons, List.flatten_cons] at ih ⊢; rw [ih]; rfl
 rw [key, key, List.map_set]
theorem b33 (l : List Bool) : (S2 l).flatten.length = l.length := by rw [a4Y (a3j l), a4s, Nat.mul_one]
theorem a87 {s : M1} {p : Pr} {x : PrD} (hp : N8 s p x) (hl : Q2 p 1000000) {n : Nat} (hn : n < p.rest.length) {is : Int} :
 EvP vfs 114 [.agg (M4 p x), .int .i64 (n : Int), .int .i64 is] s fun r s' => ∃ x', r = .agg (M4 (p.idle n is) x') /\ Fr [] s s' /\ N8 s' (p.idle n is) x' := by
 have o1 := hp.l.one
 have o2 := hp.r.one
 have o3 := hp.e.one
 have o4 := hp.n.one
 have o5 := hp.v.one
 have hrl := hl.rl
 unfold M4
 refine M8 (vf := a8f) rfl ?_
 unfold a8f; refine zE ?_
 try refine zW (aN o1 (aN o2 (aN o3 (aN o4 o5)))) ?_
 refine a02 (a46 (old := []) (rows := S2 p.rest) (sz := 1) (bytes := 1) (d := x.dr) ?_ (by simp) ?_ (a3j _) (by decide) (by simp; omega)) rfl rfl ?_
 ·exact O5 rfl
 ·exact hp.r.stay (((Fr.push _).thenPush _).thenPush _)
 rintro d1 s1 ⟨id1, rfl, k1, f1, g1⟩
 have fr1 : Fr [] s s1 := Fr.trans (((Fr.push _).thenPush _).thenPush _) f1 (by simp; omega)
 have n1 := f1.1
 have kb := f1.2 s.next (by simp only [M1.next_push]; omega) (by simp only [M1.next_push, List.mem_singleton]; omega)
 have kz := f1.2 (s.next + 1) (by simp only [M1.next_push]; omega) (by simp only [M1.next_push, List.mem_singleton]; omega)
 simp only [M1.next_push] at n1 g1
 rw [R7 (by simp only [M1.next_push]; omega), R7 (by simp only [M1.next_push]; omega), O5 rfl] at kb
 rw [R7 (by simp only [M1.next_push]; omega), O5 (by simp only [M1.next_push])] at kz
 have hid1 : s.next + 2 <= id1 := by omega
 clear f1 g1
 rw [List.nil_append] at k1
 simp only [List.nil_append, a4s]
 have lid := M7 k1
 by_cases c : is = 1
 ·have c' : (is == 1) = true := by rw [c]; rfl
  have hnl : ((n : Int) < (p.rest.length : Int)) := by omega
  have hi : N3 1 (.arr id1 0 p.rest.length 1) (.int .i64 (n : Int)) = some (.ptr id1 n) := by
   simp only [N3]
   rw [if_pos ⟨trivial, by omega, by omega⟩]
   simp
  repeat first
  |(refine a5K (x := .bool true) k1 (n := n) (by rw [b33]; omega) rfl ?_ rfl ?_; (focus (simp only [Env.ev, Env.get, Nat.reduceEqDiff, ↓reduceIte])))
  |refine zW (aN c' hi) ?_
  have kb1 : (s1.set id1 (some (.cells ((S2 p.rest).flatten.set n (.bool true))))).get s.next = some (.cells [.str p.name, .int .i64 (p.copy : Int), x.dl, .int .i64 (p.places : Int), x.dr, x.de, x.dn, x.dv]) := by rw [O9 (by omega), kb]
  have kz1 := O9 (s := s1) (o := some (.cells ((S2 p.rest).flatten.set n (.bool true)))) (i := s.next + 1) (id := id1) (by omega)
  rw [kz] at kz1
  try refine zW (aN kb1 (aN kz1 (aN o1 (aN o3 (aN o4 o5))))) ?_
  generalize hrow : [D.str p.name, .int .i64 (p.copy : Int), x.dl, .int .i64 (p.places : Int), .arr id1 0 p.rest.length 1, x.de, x.dn, x.dv] = row
  have fr3 : Fr [] s (((s1.set id1 (some (.cells ((S2 p.rest).flatten.set n (.bool true))))).set s.next (some (.cells row))).set (s.next + 1) (some (.cells row))) := ((fr1.thenSet _ (.inr (by omega))).thenSet _ (.inr (Nat.le_refl _))).thenSet _ (.inr (Nat.le_succ _))
  have hid : p.idle n is = { p with rest := p.rest.set n true } := by unfold Pr.idle; rw [if_pos c]
  rw [hid]
  refine ⟨.inr trivial, _, ?_, ⟨x.dl, .arr id1 0 p.rest.length 1, x.de, x.dn, x.dv⟩, rfl, fr3, ?_⟩
  ·simp only [R9, S1, T0, Env.get, Nat.reduceEqDiff, ↓reduceIte, O8.at, M1.next_push, P6 (i := s.next + 1) (s := (s1.set id1 _).set s.next _) (by simp only [M1.next_set]; omega)]
   rw [<- hrow]
   rfl
  refine ⟨hp.l.stay fr3, SN.of ?_ (by simp), hp.e.stay fr3, hp.n.stay fr3, hp.v.stay fr3⟩
  rw [O9 (by omega), O9 (by omega), P6 lid, b6U]
 ·have c' : (is == 1) = false := by rw [beq_eq_false_iff_ne]; exact c
  try refine zW (aN c' (aN kb (aN kz (aN o1 (aN o3 (aN o4 o5)))))) ?_
  generalize hrow : [D.str p.name, .int .i64 (p.copy : Int), x.dl, .int .i64 (p.places : Int), .arr id1 0 p.rest.length 1, x.de, x.dn, x.dv] = row
  have fr3 : Fr [] s ((s1.set s.next (some (.cells row))).set (s.next + 1) (some (.cells row))) := (fr1.thenSet _ (.inr (Nat.le_refl _))).thenSet _ (.inr (Nat.le_succ _))
  have hid : p.idle n is = p := by unfold Pr.idle; rw [if_neg c]
  rw [hid]
  refine ⟨.inr trivial, _, ?_, ⟨x.dl, .arr id1 0 p.rest.length 1, x.de, x.dn, x.dv⟩, rfl, fr3, ?_⟩
  ·simp only [R9, S1, T0, Env.get, Nat.reduceEqDiff, ↓reduceIte, O8.at, M1.next_push, P6 (i := s.next + 1) (s := s1.set s.next _) (by simp only [M1.next_set]; omega)]
   rw [<- hrow]
   rfl
  refine ⟨hp.l.stay fr3, SN.of ?_ (by simp), hp.e.stay fr3, hp.n.stay fr3, hp.v.stay fr3⟩
  rw [O9 (by omega), O9 (by omega), k1]
end Go.Proofs.YtnjlhebkhjcagaaGreat
namespace Go.Proofs.YtnjlhebkhjcagaaGreat
open Go.V
set_option maxRecDepth 100000
set_option maxHeartbeats 4000000
theorem a8d {l : List ByteArray} {x : ByteArray} {i : Nat} (h : i < l.length) (hx : l[i] = x) (hb : ∀ j (hj : j < l.length), j < i -> l[j] ≠ x) : Z8 l x = i := by
 have : l.findIdx (fun y => decide (y = x)) = i := by
  rw [List.findIdx_eq h]
  exact ⟨by simpa using hx, fun j hj => by simpa using hb j (by omega) hj⟩
 unfold Z8
 rw [this, if_pos h]
theorem b3A {l : List ByteArray} {x : ByteArray} (hb : ∀ j (hj : j < l.length), l[j] ≠ x) : Z8 l x = 0 := by
 unfold Z8
 rw [if_neg]
 rw [List.findIdx_lt_length]
 rintro ⟨y, hy, e⟩
 obtain ⟨j, hj, rfl⟩ := List.getElem_of_mem hy
 exact hb j hj (by simpa using e)
theorem b1z {s : M1} {d : D} {l : List ByteArray} {x : ByteArray} (hd : SN s 1 d (V9 l)) (hl : l.length <= 1000000) : Ev vfs 112 [d, .str x] s (.int .i64 (Z8 l x : Int)) s := by
 have hlen := hd.len
 rw [a8L] at hlen
 refine a4U (vf := a7Q) rfl ?_
 unfold a7Q; refine zE ?_
 try refine zW0 ?_
 refine S9 (Q := N4 0 _) (fun n env s1 => ∃ i : Nat, i <= l.length /\ n = l.length - i /\ (∀ j (hj : j < l.length), j < i -> l[j] ≠ x) /\ s1 = s /\ (env.get 0 = d /\ env.get 1 = .str x /\ env.get 5 = .int .i64 (i : Int))) ?_ l.length _ _ ⟨0, by omega, rfl, fun j _ h => by omega, rfl, by simp [Env.get]⟩
 rintro n env s1 ⟨i, hi, rfl, hno, rfl, hE⟩
 by_cases c1 : i < l.length
 ·have c1' : ((i : Int) < (l.length : Int)) = True := eq_true (by omega)
  have hs : IntKind.i64.wrap ((i : Int) + 1) = ((i + 1 : Nat) : Int) := by rw [O4 (by omega) (by omega)]; omega
  obtain ⟨pp, p1, p2, -⟩ := hd.get1 (a6n l) (i := i) (c := .str l[i]) (by simpa using c1) (by simp [V9]) rfl (by decide)
  by_cases c2 : l[i] = x
  ·have hf := a8d c1 c2 hno
   try refine zW (aN hE (aN hlen (aN c1' (aN p1 (aN p2 c2))))) ?_
   exact ⟨.inr trivial, trivial, by rw [hf]; simp only [R9, S1, T0, Env.get, Nat.reduceEqDiff, ↓reduceIte, hE]⟩
  ·try refine zW (aN hE (aN hlen (aN c1' (aN p1 (aN p2 (aN c2 hs)))))) ?_
   refine ⟨l.length - (i + 1), by omega, i + 1, by omega, rfl, fun j hj hji => ?_, trivial, (rG hE)⟩
   by_cases e : j = i
   ·subst e; exact c2
   ·exact hno j hj (by omega)
 ·have c1' : ((i : Int) < (l.length : Int)) = False := eq_false (by omega)
  have hf := b3A (l := l) (x := x) fun j hj => hno j hj (by omega)
  try refine zW (aN hE (aN hlen c1')) ?_
  exact ⟨.inr trivial, trivial, by rw [hf]; rfl⟩
theorem b27 {s : M1} {m : MdX} {t : List Nd} {ch : List Ch} {x : ByteArray} (hm : a0g s m t ch) (hl : ch.length <= 1000000) :
 EvP vfs 113 [.agg (N6 m), .str x] s fun r s' => r = .int .i64 (Z8 (ch.map Ch.name) x : Int) /\ Fr [] s s' := by
 have hlen := hm.c.len
 rw [a4Q] at hlen
 have o0 := FL.one hm.tr.fl
 have o1 := hm.c.one
 have o2 := hm.ov
 have o3 := hm.op
 have o4 := hm.os
 unfold N6
 refine M8 (vf := a8I) rfl ?_
 unfold a8I; refine zE ?_
 try refine zW (aN o0 (aN o1 (aN o2 (aN o3 o4)))) ?_
 have hg0 : (s.push (.cells [m.dt, .int .i64 m.g, m.dc, m.dv, m.dp, m.ds, .bool m.b])).get s.next = some (.cells [m.dt, .int .i64 m.g, m.dc, m.dv, m.dp, m.ds, .bool m.b]) := O5 rfl
 have hc := hm.c.stay (Fr.push (ids := []) (s := s) (.cells [m.dt, .int .i64 m.g, m.dc, m.dv, m.dp, m.ds, .bool m.b]))
 have fr := Fr.push (ids := []) (s := s) (.cells [m.dt, .int .i64 m.g, m.dc, m.dv, m.dp, m.ds, .bool m.b])
 generalize s.push (.cells [m.dt, .int .i64 m.g, m.dc, m.dv, m.dp, m.ds, .bool m.b]) = s1 at *
 refine S9 (Q := N4 0 _) (fun n env s2 => ∃ i : Nat, i <= ch.length /\ n = ch.length - i /\ (∀ j (hj : j < (ch.map Ch.name).length), j < i -> (ch.map Ch.name)[j] ≠ x) /\ s2 = s1 /\ (env.get 1 = .str x /\ env.get 2 = .ptr s.next 0 /\ env.get 5 = .int .i64 (i : Int))) ?_ ch.length _ _ ⟨0, by omega, rfl, fun j _ h => by omega, rfl, by simp [Env.get, O8.at]⟩
 rintro n env s2 ⟨i, hi, rfl, hno, rfl, hE⟩
 by_cases c1 : i < ch.length
 ·have c1' : ((i : Int) < (ch.length : Int)) = True := eq_true (by omega)
  have hs : IntKind.i64.wrap ((i : Int) + 1) = ((i + 1 : Nat) : Int) := by rw [O4 (by omega) (by omega)]; omega
  rcases hc with ⟨_, h0⟩ | ⟨id, hdc, hg⟩ | hdc
  ·have := congrArg List.length h0
   rw [a4Q, List.length_nil] at this
   omega
  ·have hq : (a0f ch).flatten[i * 5]? = some (.str ch[i].name) := by
    have := a43 (a9m ch) (i := i) (f := 0) (by simpa using c1) (by decide)
    rw [Nat.add_zero] at this
    rw [this]
    simp [a0f, Ch.row]
   rw [a4Q] at hdc
   have hnm : (ch.map Ch.name)[i]'(by simpa using c1) = ch[i].name := by simp
   rw [hdc] at hg0 hlen o1
   by_cases c2 : ch[i].name = x
   ·have hf := a8d (l := ch.map Ch.name) (i := i) (by simpa using c1) (by rw [hnm]; exact c2) hno
    try refine zW (aN hE (aN hg0 (aN o0 (aN o1 (aN o2 (aN o3 (aN o4 (aN hlen (aN c1' (aN hg (aN hq c2))))))))))) ?_
    exact ⟨.inr trivial, _, rR, by rw [hf], fr⟩
   ·try refine zW (aN hE (aN hg0 (aN o0 (aN o1 (aN o2 (aN o3 (aN o4 (aN hlen (aN c1' (aN hg (aN hq (aN c2 hs)))))))))))) ?_
    refine ⟨ch.length - (i + 1), by omega, i + 1, by omega, rfl, fun j hj hji => ?_, trivial, (rG hE)⟩
    by_cases e : j = i
    ·subst e; rw [hnm]; exact c2
    ·exact hno j hj (by omega)
  ·have hnm : (ch.map Ch.name)[i]'(by simpa using c1) = ch[i].name := by simp
   have hix : N3 5 m.dc (.int .i64 (i : Int)) = some (.fp [.str ch[i].name, .int .i64 ch[i].room, .int .i64 ch[i].width, .bool ch[i].lossy, .bool ch[i].copying] 0) := by
    rw [hdc]
    simp [N3, a0f, c1, Ch.row]
   by_cases c2 : ch[i].name = x
   ·have hf := a8d (l := ch.map Ch.name) (i := i) (by simpa using c1) (by rw [hnm]; exact c2) hno
    try refine zW (aN hE (aN hg0 (aN o0 (aN o1 (aN o2 (aN o3 (aN o4 (aN hlen (aN c1' (aN hix c2)))))))))) ?_
    exact ⟨.inr trivial, _, rR, by rw [hf], fr⟩
   ·try refine zW (aN hE (aN hg0 (aN o0 (aN o1 (aN o2 (aN o3 (aN o4 (aN hlen (aN c1' (aN hix (aN c2 hs))))))))))) ?_
    refine ⟨ch.length - (i + 1), by omega, i + 1, by omega, rfl, fun j hj hji => ?_, trivial, (rG hE)⟩
    by_cases e : j = i
    ·subst e; rw [hnm]; exact c2
    ·exact hno j hj (by omega)
 ·have c1' : ((i : Int) < (ch.length : Int)) = False := eq_false (by omega)
  have hf := b3A (l := ch.map Ch.name) (x := x) fun j hj => hno j hj (by simp at hj; omega)
  try refine zW (aN hE (aN hg0 (aN o0 (aN o1 (aN o2 (aN o3 (aN o4 (aN hlen c1')))))))) ?_
  exact ⟨.inr trivial, _, rR, by rw [hf]; rfl, fr⟩
end Go.Proofs.YtnjlhebkhjcagaaGreat
namespace Go.V
def KF (t : List Nd) (g : Nat) (ks : List Int) (a n : Nat) : Prop := a1z (Q9 t g) t.length ks a = (n, true)
theorem KF.cons {t : List Nd} {g : Nat} {z : Int} {zs : List Int} {a n : Nat} (h : KF t g (z :: zs) a n) : z = (a : Int) /\ a < t.length /\ ∃ b, Q9 t g a = (b, true) /\ a < b /\ b <= t.length /\ KF t g zs b n := by
 unfold KF a1z at h
 split at h
 ·simp at h
 ·rename_i hc
  split at h
  ·rename_i ht
   have ha : a < t.length := by omega
   have hw : Q9 t g a = ((Q9 t g a).1, true) := by rw [<- ht]
   have hs := (a19 g ha hw).1
   exact ⟨by omega, ha, (Q9 t g a).1, hw, hs.lt, hs.le, h⟩
  ·simp at h
theorem KF.nil {t : List Nd} {g : Nat} {a n : Nat} (h : KF t g [] a n) : n = a := by
 simp only [KF, a1z, Prod.mk.injEq, and_true] at h
 exact h.symm
theorem KF.le {t : List Nd} {g : Nat} : ∀ {ks : List Int} {a n : Nat}, KF t g ks a n -> a <= n
 | [], a, n, h => by have := h.nil; omega
 | z :: zs, a, n, h => by
   obtain ⟨_, _, b, _, h1, _, h2⟩ := h.cons
   have := h2.le
   omega
theorem a15 {t : List Nd} {g k n : Nat} (h : Q9 t g k = (n, true)) : ∃ g', g = g' + 1 /\ KF t g' (nd t k).kids (k + 1) n := by
 cases g with
 | zero => simp [Q9] at h
 | succ g => exact ⟨g, rfl, h⟩
structure Gw (p q : Pr) (n : Nat) : Prop where
 pl : q.places <= p.places + n
 rl : q.rest.length <= p.rest.length + n
 el : q.edges.length <= p.edges.length + n
theorem Gw.refl (p : Pr) : Gw p p 0 := ⟨Nat.le_refl _, Nat.le_refl _, Nat.le_refl _⟩
theorem Gw.trans {p q r : Pr} {a b : Nat} (h : Gw p q a) (k : Gw q r b) : Gw p r (a + b) := ⟨by have := h.pl; have := k.pl; omega, by have := h.rl; have := k.rl; omega, by have := h.el; have := k.el; omega⟩
theorem Gw.le {p q : Pr} {a b : Nat} (h : Gw p q a) (k : a <= b) : Gw p q b := ⟨by have := h.pl; omega, by have := h.rl; omega, by have := h.el; omega⟩
theorem a0s (p : Pr) (frm to act node : Nat) (expr v c : Int) : Gw p (p.put frm to act node expr v c) 1 := ⟨by simp [Pr.put], by simp [Pr.put], by simp [Pr.put]⟩
theorem a1P (p : Pr) : Gw p p.place 1 := ⟨by simp [Pr.place], by simp [Pr.place], by simp [Pr.place]⟩
theorem a6K (p : Pr) (n : Nat) (is : Int) : Gw p (p.idle n is) 0 := by
 unfold Pr.idle
 split
 ·exact ⟨Nat.le_refl _, by simp, Nat.le_refl _⟩
 ·exact Gw.refl p
def StG (t : List Nd) (st : Pr -> Nat -> Nat -> Nat -> Pr) (k : Nat) : Prop := ∀ g n, Q9 t g k = (n, true) -> ∀ p frm to, Gw p (st p k frm to) (4 * (n - k) - 1)
theorem a7y {t : List Nd} {st : Pr -> Nat -> Nat -> Nat -> Pr} {node g : Nat} : ∀ {ks : List Int} {a n : Nat} {p : Pr} {frm to : Nat}, KF t g ks a n -> (∀ k ∈ ks.map Int.toNat, StG t st k) -> Gw p (a1t st node p (ks.map Int.toNat) frm to) (4 * (n - a) + 1)
 | [], a, n, p, frm, to, h, _ => (a0s _ _ _ _ _ _ _ _).le (by omega)
 | [z], a, n, p, frm, to, h, hs => by
   obtain ⟨rfl, h1, b, h2, h3, h4, h5⟩ := h.cons
   obtain rfl := h5.nil
   exact (hs _ (by simp) g n (by simpa using h2) p frm to).le (by simp; omega)
 | z :: z' :: zs, a, n, p, frm, to, h, hs => by
   obtain ⟨rfl, h1, b, h2, h3, h4, h5⟩ := h.cons
   have hle := h5.le
   have s1 := hs ((a : Int).toNat) (by simp) g b (by simpa using h2) p.place frm p.places
   have s2 := a7y (st := st) (node := node) (p := st p.place (a : Int).toNat frm p.places) (frm := p.places) (to := to) h5 (fun k hk => hs k (by simp only [List.map_cons, List.mem_cons] at hk ⊢; right; exact hk))
   exact (((a1P p).trans s1).trans s2).le (by simp; omega)
theorem a1D {t : List Nd} {st : Pr -> Nat -> Nat -> Nat -> Pr} {g b n : Nat} {p : Pr} {frm to : Nat} (hb : b < t.length) (h : Q9 t g b = (n, true)) (hs : ∀ k ∈ (nd t b).ks, StG t st k) : Gw p (V0 t st p b frm to) (4 * (n - b) - 3) := by
 obtain ⟨g', rfl, hk⟩ := a15 h
 have := hk.le
 exact (a7y hk hs).le (by omega)
theorem b3z {t : List Nd} {st : Pr -> Nat -> Nat -> Nat -> Pr} {frm to g : Nat} : ∀ {ks : List Int} {a n : Nat} {p : Pr}, KF t g ks a n -> (∀ b ∈ ks.map Int.toNat, ∀ k ∈ (nd t b).ks, StG t st k) -> Gw p (Z1 t st frm to p (ks.map Int.toNat)) (4 * (n - a))
 | [], a, n, p, h, _ => (Gw.refl p).le (by omega)
 | z :: zs, a, n, p, h, hs => by
   obtain ⟨rfl, h1, b, h2, h3, h4, h5⟩ := h.cons
   have hle := h5.le
   have hsa : ∀ k ∈ (nd t a).ks, StG t st k := by simpa using hs (a : Int).toNat (by simp)
   rw [List.map_cons, Z1]
   simp only [Int.toNat_natCast]
   have key : ∀ q, Gw p q (4 * (b - a) - 1) -> Gw p (Z1 t st frm to q (zs.map Int.toNat)) (4 * (n - a)) := fun q hq => (hq.trans (b3z h5 fun b hb => hs b (by simp only [List.map_cons, List.mem_cons]; right; exact hb))).le (by omega)
   split
   ·exact key _ ((((a1P p).trans (a0s p.place frm p.places 0 a (-1) (-1) (-1))).trans (a1D h1 h2 hsa)).le (by omega))
   ·exact key _ ((a1D h1 h2 hsa).le (by omega))
theorem a6I {t : List Nd} (ht : Y4 t) (ch : List ByteArray) : ∀ (f k : Nat), k < t.length -> a1W (nd t k).kind -> t.length - k < f -> StG t (N1 t ch f) k
 | 0, k, _, _, h => by omega
 | f + 1, k, hk, hst, hf => by
   intro g n hw p frm to
   have hsub := (a19 g hk hw).1
   have hlt := hsub.lt
   have hle := hsub.le
   obtain ⟨g', rfl, hkf⟩ := a15 hw
   have hno := ht.node k hk
   have hks := ht.ks hk
   have bl : ∀ b ∈ (nd t k).ks, (nd t b).kind = 16 -> ∀ x ∈ (nd t b).ks, StG t (N1 t ch f) x := fun b hb hb16 x hx => by
    have h1 := hks b hb
    have h2 := ht.ks h1.2 x hx
    exact a6I ht ch f x h2.2 ((ht.node b h1.2).block hb16 x hx) (by omega)
   have one : ∀ q : Pr, Gw p q 1 -> Gw p q (4 * (n - k) - 1) := fun q h => h.le (by omega)
   unfold N1
   simp only
   by_cases c6 : (nd t k).kind = 6
   ·rw [if_pos c6]; exact one _ (a0s _ _ _ _ _ _ _ _)
   rw [if_neg c6]
   by_cases c7 : (nd t k).kind = 7
   ·rw [if_pos c7]; exact one _ (a0s _ _ _ _ _ _ _ _)
   rw [if_neg c7]
   by_cases c8 : (nd t k).kind = 8
   ·rw [if_pos c8]; exact one _ (((a6K _ _ _).trans (a0s _ _ _ _ _ _ _ _)).le (by omega))
   rw [if_neg c8]
   by_cases c9 : (nd t k).kind = 9
   ·rw [if_pos c9]; exact one _ (((a6K _ _ _).trans (a0s _ _ _ _ _ _ _ _)).le (by omega))
   rw [if_neg c9]
   by_cases c10 : (nd t k).kind = 10
   ·rw [if_pos c10]
    have h1 := hno.choose c10
    exact ((a6K _ _ _).trans (b3z hkf fun b hb => bl b hb (h1.2 b hb))).le (by omega)
   rw [if_neg c10]
   by_cases c11 : (nd t k).kind = 11
   ·rw [if_pos c11]
    obtain ⟨l1, l2, l3, l4⟩ := hno.cond c11
    match hkk : (nd t k).kids, l1, hkf with
    | [z0, z1], _, hkf =>
      obtain ⟨e0, _, b0, _, s0, _, hkf⟩ := hkf.cons
      obtain ⟨e1, q1, b1, w1, s1, _, hkf⟩ := hkf.cons
      have := hkf.nil
      have k1 : (nd t k).kid 1 = b0 := by simp [Nd.kid, hkk, e1]
      have m1 : b0 ∈ (nd t k).ks := by simp [Nd.ks, hkk, e1]
      rw [k1] at l3 ⊢
      rw [if_pos (by simp)]
      exact ((((a1P p).trans (a0s _ _ _ _ _ _ _ _)).trans (a1D q1 w1 (bl _ m1 l3))).trans (a0s _ _ _ _ _ _ _ _)).le (by omega)
    | [z0, z1, z2], _, hkf =>
      obtain ⟨e0, _, b0, _, s0, _, hkf⟩ := hkf.cons
      obtain ⟨e1, q1, b1, w1, s1, _, hkf⟩ := hkf.cons
      obtain ⟨e2, q2, b2, w2, s2, _, hkf⟩ := hkf.cons
      have := hkf.nil
      have k1 : (nd t k).kid 1 = b0 := by simp [Nd.kid, hkk, e1]
      have k2 : (nd t k).kid 2 = b1 := by simp [Nd.kid, hkk, e2]
      have m1 : b0 ∈ (nd t k).ks := by simp [Nd.ks, hkk, e1]
      have m2 : b1 ∈ (nd t k).ks := by simp [Nd.ks, hkk, e2]
      have l4 := l4 (by rw [hkk]; rfl)
      rw [k1] at l3 ⊢
      rw [k2] at l4 ⊢
      rw [if_neg (by simp)]
      exact ((((((a1P p).trans (a0s _ _ _ _ _ _ _ _)).trans (a1D q1 w1 (bl _ m1 l3))).trans (a1P _)).trans (a0s _ _ _ _ _ _ _ _)).trans (a1D q2 w2 (bl _ m2 l4))).le (by omega)
   rw [if_neg c11]
   by_cases c12 : (nd t k).kind = 12
   ·rw [if_pos c12]
    obtain ⟨l1, l2, l3⟩ := hno.loop c12
    match hkk : (nd t k).kids, l1, hkf with
    | [z0, z1], _, hkf =>
      obtain ⟨e0, _, b0, _, s0, _, hkf⟩ := hkf.cons
      obtain ⟨e1, q1, b1, w1, s1, _, hkf⟩ := hkf.cons
      have := hkf.nil
      have k1 : (nd t k).kid 1 = b0 := by simp [Nd.kid, hkk, e1]
      have m1 : b0 ∈ (nd t k).ks := by simp [Nd.ks, hkk, e1]
      rw [k1] at l3 ⊢
      exact ((((a1P p).trans (a0s _ _ _ _ _ _ _ _)).trans (a0s _ _ _ _ _ _ _ _)).trans (a1D q1 w1 (bl _ m1 l3))).le (by omega)
   rw [if_neg c12]
   by_cases c13 : (nd t k).kind = 13
   ·rw [if_pos c13]
    obtain ⟨l1, l2⟩ := hno.atom c13
    match hkk : (nd t k).kids, l1, hkf with
    | [z0], _, hkf =>
      obtain ⟨e0, q0, b0, w0, s0, _, hkf⟩ := hkf.cons
      have := hkf.nil
      have k0 : (nd t k).kid 0 = k + 1 := by simp [Nd.kid, hkk, e0]
      have m0 : k + 1 ∈ (nd t k).ks := by simp [Nd.ks, hkk, e0]
      rw [k0] at l2 ⊢
      have h := a1D (p := p) (frm := frm) (to := to) q0 w0 (bl _ m0 l2)
      refine ⟨Nat.le_trans h.pl (by omega), Nat.le_trans h.rl (by omega), ?_⟩
      have hl : ∀ (n to : Nat) (l : List Ed), (a0v n to l).length = l.length := fun n to l => by
       unfold a0v
       rw [List.length_append, List.length_map, <- List.length_append, List.take_append_drop]
      show (a0v _ _ _).length <= _
      rw [hl]
      exact Nat.le_trans h.el (by omega)
   rw [if_neg c13]
   by_cases c15 : (nd t k).kind = 15
   ·rw [if_pos c15]; exact one _ (a0s _ _ _ _ _ _ _ _)
   rw [if_neg c15]
   exact one _ (a0s _ _ _ _ _ _ _ _)
end Go.V
namespace Go.V
structure SF (s0 : M1) (m : MdX) (nr : List D) (pr : List D) (s : M1) : Prop where
 fr : Fr [] s0 s
 nx : s0.next + 4 <= s.next
 m : s.get s0.next = some (.cells (N6 m))
 p : s.get (s0.next + 1) = some (.cells pr)
 r : s.get (s0.next + 2) = some (.cells [.str (bs []), .int .i64 0, .nils, .int .i64 0, .nils, .nils, .nils, .nils])
 n : s.get (s0.next + 3) = some (.cells nr)
theorem SF.call {s0 : M1} {m : MdX} {nr pr : List D} {s s' : M1} (h : SF s0 m nr pr s) (hf : Fr [] s s') : SF s0 m nr pr s' := by
 have := h.nx
 have := hf.1
 refine ⟨h.fr.trans hf (by simp), by omega, ?_, ?_, ?_, ?_⟩
 ·rw [hf.2 _ (by omega) (by simp), h.m]
 ·rw [hf.2 _ (by omega) (by simp), h.p]
 ·rw [hf.2 _ (by omega) (by simp), h.r]
 ·rw [hf.2 _ (by omega) (by simp), h.n]
theorem SF.setP {s0 : M1} {m : MdX} {nr pr pr' : List D} {s : M1} (h : SF s0 m nr pr s) : SF s0 m nr pr' (s.set (s0.next + 1) (some (.cells pr'))) := by
 have := h.nx
 refine ⟨h.fr.thenSet _ (.inr (by omega)), by simp only [M1.next_set]; omega, ?_, ?_, ?_, ?_⟩
 ·rw [O9 (by omega), h.m]
 ·rw [P6 (by omega)]
 ·rw [O9 (by omega), h.r]
 ·rw [O9 (by omega), h.n]
def Z4 (s : M1) (d : D) : Prop := ∃ id n z, d = .arr id 0 n z /\ s.next <= id
theorem a2I {s s' : M1} {d : D} {id n z : Nat} (h : d = .arr id 0 n z) (h1 : s'.next <= id) (h2 : s.next <= s'.next) : Z4 s d := ⟨id, n, z, h, Nat.le_trans h2 h1⟩
theorem Z4.mono {s s' : M1} {d : D} (h : Z4 s' d) (h2 : s.next <= s'.next) : Z4 s d := by
 obtain ⟨id, n, z, h, h1⟩ := h
 exact ⟨id, n, z, h, Nat.le_trans h2 h1⟩
def StR (s : M1) (p q : Pr) (r : D) (s' : M1) : Prop := ∃ x', r = .agg (M4 q x') /\ Fr [] s s' /\ N8 s' q x' /\ Z4 s x'.de
theorem a0o {t : List Nd} {d : D} (hT : N7 d t) {k : Nat} (hk : k < t.length) : M9 (nd t k).dw = true /\ M9 (nd t k).dn = true /\ M9 (nd t k).dk = true := ⟨FL.one (hT.nd hk).w, FL.one (hT.nd hk).n, FL.one (hT.nd hk).k⟩
theorem a0d {t : List Nd} {d : D} (hT : N7 d t) (ht : Y4 t) {k : Nat} (hk : k < t.length) {i : Nat} (hi : i < (nd t k).kids.length) : N3 1 (nd t k).dk (.int .i64 (i : Int)) = some (.fp [.int .i64 ((nd t k).kid i : Int)] 0) := by
 have := FI.idx (hT.nd hk).k hi (k := .i64)
 have hr := ht.kids k hk _ (List.getElem_mem hi)
 rw [this, a3q hi, Int.toNat_of_nonneg (by omega)]
theorem a2e {t : List Nd} {d : D} (hT : N7 d t) {k : Nat} (hk : k < t.length) {i : Nat} (hi : i < (nd t k).words.length) : N3 1 (nd t k).dw (.int .i64 (i : Int)) = some (.fp [.str ((nd t k).word i)] 0) := by
 rw [a1Z hi]; exact FS.idx (hT.nd hk).w hi
theorem N8.ones {s : M1} {p : Pr} {x : PrD} (h : N8 s p x) : M9 x.dl = true /\ M9 x.dr = true /\ M9 x.de = true /\ M9 x.dn = true /\ M9 x.dv = true := ⟨h.l.one, h.r.one, h.e.one, h.n.one, h.v.one⟩
theorem a0g.ones {s : M1} {m : MdX} {t : List Nd} {ch : List Ch} (h : a0g s m t ch) : M9 m.dt = true /\ M9 m.dc = true /\ M9 m.dv = true /\ M9 m.dp = true /\ M9 m.ds = true := ⟨FL.one h.tr.fl, h.c.one, h.ov, h.op, h.os⟩
theorem SN.set {s : M1} {sz id : Nat} {d : D} {rows : List (List D)} {cs : List D} {o : Option N9} (h : SN s sz d rows) (hg : s.get id = some (.cells cs)) (hne : rows.flatten ≠ cs) : SN (s.set id o) sz d rows := by
 rcases h with h | ⟨j, rfl, h⟩ | h
 ·exact .inl h
 rotate_left
 ·exact .inr (.inr h)
 ·refine .inr (.inl ⟨j, rfl, ?_⟩)
  rw [O9, h]
  rintro rfl
  rw [hg] at h
  simp only [Option.some.injEq, N9.cells.injEq] at h
  exact hne h.symm
theorem N8.set {s : M1} {p : Pr} {x : PrD} {id : Nat} {a : ByteArray} {k : IntKind} {n : Int} {rest : List D} {o : Option N9} (h : N8 s p x) (hg : s.get id = some (.cells (.str a :: .int k n :: rest))) : N8 (s.set id o) p x := by
 refine ⟨h.l.set hg ?_, h.r.set hg ?_, h.e.set hg ?_, h.n.set hg ?_, h.v.set hg ?_⟩
 ·cases p.locals <;> simp [P3]
 ·cases p.rest <;> simp [S2]
 ·cases p.edges <;> simp [Q5, Ed.row]
 ·match p.names with
  | [] => simp [V9]
  | [y] => simp [V9]
  | y :: z :: r => simp [V9]
 ·cases p.vars <;> simp [P3]
theorem SF.fin {s0 s : M1} {m : MdX} {nr pr : List D} {p q : Pr} {x : PrD} (h : SF s0 m nr pr s) (hq : N8 s q x) (hz : Z4 s0 x.de) : StR s0 p q (.agg (M4 q x)) (s.set (s0.next + 2) (some (.cells (M4 q x)))) :=
 ⟨x, rfl, h.fr.thenSet _ (.inr (by omega)), hq.set h.r, hz⟩
theorem SF.res {s0 s : M1} {m : MdX} {nr pr : List D} {q : Pr} {x : PrD} {env : Env} (h : SF s0 m nr pr s) (hE : env.get 10 = .ptr (s0.next + 2) 0) : R9 env (s.set (s0.next + 2) (some (.cells (M4 q x)))) [(10, some (some 8))] = some (.agg (M4 q x)) := by
 have := h.nx
 simp only [R9, S1, T0, hE, P6 (s := s) (i := s0.next + 2) (by omega)]
 rfl
structure SL (s0 : M1) (m : MdX) (nr pr : List D) (B : Nat) (lr : List D) (s : M1) : Prop where
 sf : SF s0 m nr pr s
 lo : s0.next + 4 <= B
 l : s.get B = some (.cells lr)
theorem SL.call {s0 : M1} {m : MdX} {nr pr lr : List D} {B : Nat} {s s' : M1} (h : SL s0 m nr pr B lr s) (hf : Fr [] s s') : SL s0 m nr pr B lr s' :=
 ⟨h.sf.call hf, h.lo, by rw [hf.2 _ (M7 h.l) (by simp), h.l]⟩
theorem SL.setL {s0 : M1} {m : MdX} {nr pr lr lr' : List D} {B : Nat} {s : M1} (h : SL s0 m nr pr B lr s) : SL s0 m nr pr B lr' (s.set B (some (.cells lr'))) := by
 have := h.lo
 have hf := h.sf
 refine ⟨⟨hf.fr.thenSet _ (.inr (by omega)), by simp only [M1.next_set]; exact hf.nx, ?_, ?_, ?_, ?_⟩, h.lo, by rw [P6 (M7 h.l)]⟩
 ·rw [O9 (by omega), hf.m]
 ·rw [O9 (by omega), hf.p]
 ·rw [O9 (by omega), hf.r]
 ·rw [O9 (by omega), hf.n]
theorem SL.new {s0 : M1} {m : MdX} {nr pr lr : List D} {s : M1} {z : List D} (h : SF s0 m nr pr s) : SL s0 m nr pr s.next lr ((s.push (.cells z)).set s.next (some (.cells lr))) := by
 have h1 := h.call (Fr.push (ids := []) (s := s) (.cells z))
 have := h.nx
 exact SL.setL (lr := z) ⟨h1, by omega, O5 rfl⟩
theorem N8.new {s : M1} {q : Pr} {x : PrD} {a : ByteArray} {k : IntKind} {n : Int} {rest : List D} {o : Option N9} (h : N8 s q x) : N8 ((s.push (.cells (.str a :: .int k n :: rest))).set s.next o) q x :=
 (h.stay (Fr.push (ids := []) _)).set (O5 rfl)
def a3V (fs : FuncId -> Option M6) (fn : Nat) (t : List Nd) (ch : List Ch) (names : List ByteArray) (vars : List Nat) (f b : Nat) : Prop :=
 ∀ g n, Q9 t g b = (n, true) -> ∀ (s : M1) (m : MdX) (p : Pr) (x : PrD) (frm to : Nat), a0g s m t ch -> N8 s p x -> W0 t ch.length p -> p.names = names -> p.vars = vars -> frm < p.places -> to < p.places -> ∀ N, Q2 p N -> N + 4 * (n - b) <= 900000 ->
   EvP fs fn [.agg (N6 m), .agg (M4 p x), .int .i64 (b : Int), .int .i64 (frm : Int), .int .i64 (to : Int)] s (StR s p (V0 t (N1 t (ch.map Ch.name) f) p b frm to))
theorem b1v {l : List Ed} {i f : Nat} (hi : i < l.length) (hf : f < 8) : (Q5 l).flatten[i * 8 + f]? = (l[i].row)[f]? := by
 rw [a43 (a2V l) (by simpa using hi) hf]
 simp [Q5]
theorem b3F : ∀ {l : List Ed} {i : Nat} (hi : i < l.length) (b : Bool), (Q5 l).flatten.set (i * 8 + 6) (.bool b) = (Q5 (l.set i { l[i] with keep := b })).flatten
 | [], i, hi, _ => by simp at hi
 | e :: r, 0, hi, b => by simp [Q5, Ed.row]
 | e :: r, i + 1, hi, b => by
   have ih := b3F (l := r) (i := i) (by simpa using hi) b
   simp only [Q5, List.map_cons, List.flatten_cons, List.set_cons_succ, List.getElem_cons_succ] at ih ⊢
   have hl : e.row.length = 8 := rfl
   rw [List.set_append_right _ _ (by omega), hl, show (i + 1) * 8 + 6 - 8 = i * 8 + 6 by omega, ih]
theorem N8.edge {s : M1} {p : Pr} {x : PrD} {id n i : Nat} {b : Bool} (h : N8 s p x) (hd : x.de = .arr id 0 n 8) (hi : i < p.edges.length) : N8 (s.set id (some (.cells ((Q5 p.edges).flatten.set (i * 8 + 6) (.bool b))))) { p with edges := p.edges.set i { p.edges[i] with keep := b } } x := by
 have he := h.e
 rcases he with ⟨h0, _⟩ | ⟨j, hj, hg⟩ | h0
 ·rw [hd] at h0; cases h0
 rotate_left
 ·rw [hd] at h0; cases h0
 ·rw [hd] at hj
  cases hj
  have ne : ∀ (rows : List (List D)), rows.flatten[6]? ≠ some (.bool p.edges[0].keep) -> rows.flatten ≠ (Q5 p.edges).flatten := fun rows h e => by
   apply h
   rw [e]
   have := b1v (l := p.edges) (i := 0) (f := 6) (by omega) (by decide)
   rw [Nat.zero_mul, Nat.zero_add] at this
   rw [this]
   rfl
  have kN : ∀ l : List Nat, (P3 l).flatten = l.map fun (n : Nat) => D.int .i64 (n : Int) := by
   intro l
   induction l with
   | nil => rfl
   | cons a r ih => simp only [P3, List.map_cons, List.flatten_cons] at ih ⊢; rw [ih]; rfl
  refine ⟨h.l.set hg (ne _ ?_), h.r.set hg ?_, .inr (.inl ⟨id, ?_, ?_⟩), h.n.set hg ?_, h.v.set hg (ne _ ?_)⟩
  ·rw [kN, List.getElem?_map]; cases p.locals[6]? <;> simp
  ·intro e
   have h1 := congrArg List.head? e
   revert h1
   match hpe : p.edges, hi with
   | a :: r, _ => cases p.rest <;> simp [S2, Q5, Ed.row]
  ·rw [hd]; simp
  ·rw [P6 (M7 hg), b3F hi]
  ·intro e
   have h1 := congrArg List.head? e
   revert h1
   match hpe : p.edges, hi with
   | a :: r, _ => cases p.names <;> simp [V9, Q5, Ed.row]
  ·rw [kN, List.getElem?_map]; cases p.vars[6]? <;> simp
theorem SF.setO {s0 : M1} {m : MdX} {nr pr : List D} {s : M1} {id : Nat} {o : Option N9} (h : SF s0 m nr pr s) (hid : s0.next + 4 <= id) : SF s0 m nr pr (s.set id o) := by
 refine ⟨h.fr.thenSet _ (.inr (by omega)), by simp only [M1.next_set]; exact h.nx, ?_, ?_, ?_, ?_⟩
 ·rw [O9 (by omega), h.m]
 ·rw [O9 (by omega), h.p]
 ·rw [O9 (by omega), h.r]
 ·rw [O9 (by omega), h.n]
def Z9 (A E : List Ed) (i : Nat) : List Ed := A.take i ++ E.drop i
theorem a48 {A E : List Ed} {i : Nat} (h : A.length = E.length) : (Z9 A E i).length = E.length := by simp [Z9]; omega
theorem b23 {A E : List Ed} {i : Nat} (h : A.length = E.length) (hi : i < E.length) : (Z9 A E i)[i]'(by rw [a48 h]; exact hi) = E[i] := by
 have hl : (A.take i).length = i := by simp; omega
 unfold Z9
 rw [List.getElem_append_right (by omega)]
 simp only [List.getElem_drop, hl]
 congr 1
 omega
theorem b5c {A E : List Ed} {i : Nat} (h : A.length = E.length) (hi : i < E.length) : (Z9 A E i).set i A[i] = Z9 A E (i + 1) := by
 have hl : (A.take i).length = i := by simp; omega
 unfold Z9
 rw [List.set_append_right _ _ (by omega), hl, Nat.sub_self, List.drop_eq_getElem_cons hi, List.set_cons_zero, List.take_succ_eq_append_getElem (by omega), List.append_assoc, List.singleton_append]
theorem b0G (n to : Nat) (l : List Ed) : (a0v n to l).length = l.length := by
 unfold a0v
 rw [List.length_append, List.length_map, <- List.length_append, List.take_append_drop]
theorem c23 {n to : Nat} {l : List Ed} {i : Nat} (hi : i < l.length) (hn : n <= i) : (a0v n to l)[i]'(by rw [b0G]; exact hi) = { l[i] with keep := l[i].to != to && l[i].to != 1 } := by
 unfold a0v
 have hl : (l.take n).length = n := by simp; omega
 rw [List.getElem_append_right (by omega)]
 simp only [List.getElem_map, List.getElem_drop, hl]
 have e : n + (i - n) = i := by omega
 simp only [e]
theorem c1V {n to : Nat} {l : List Ed} (h : n <= l.length) : Z9 (a0v n to l) l n = l := by
 unfold Z9 a0v
 rw [List.take_append_of_le_length (by simp; omega), List.take_take, Nat.min_self, List.take_append_drop]
theorem b47 {A E : List Ed} (h : A.length = E.length) : Z9 A E E.length = A := by
 unfold Z9
 rw [List.drop_length, List.append_nil, <- h, List.take_length]
structure S3 (s0 : M1) (m : MdX) (pr : List D) (s : M1) : Prop where
 fr : Fr [] s0 s
 nx : s0.next + 3 <= s.next
 m : s.get s0.next = some (.cells (N6 m))
 p : s.get (s0.next + 1) = some (.cells pr)
 r : s.get (s0.next + 2) = some (.cells [.str (bs []), .int .i64 0, .nils, .int .i64 0, .nils, .nils, .nils, .nils])
theorem S3.call {s0 : M1} {m : MdX} {pr : List D} {s s' : M1} (h : S3 s0 m pr s) (hf : Fr [] s s') : S3 s0 m pr s' := by
 have := h.nx
 have := hf.1
 refine ⟨h.fr.trans hf (by simp), by omega, ?_, ?_, ?_⟩
 ·rw [hf.2 _ (by omega) (by simp), h.m]
 ·rw [hf.2 _ (by omega) (by simp), h.p]
 ·rw [hf.2 _ (by omega) (by simp), h.r]
theorem S3.setP {s0 : M1} {m : MdX} {pr pr' : List D} {s : M1} (h : S3 s0 m pr s) : S3 s0 m pr' (s.set (s0.next + 1) (some (.cells pr'))) := by
 have := h.nx
 refine ⟨h.fr.thenSet _ (.inr (by omega)), by simp only [M1.next_set]; omega, ?_, ?_, ?_⟩
 ·rw [O9 (by omega), h.m]
 ·rw [P6 (by omega)]
 ·rw [O9 (by omega), h.r]
theorem S3.fin {s0 s : M1} {m : MdX} {pr : List D} {p q : Pr} {x : PrD} (h : S3 s0 m pr s) (hq : N8 s q x) (hz : Z4 s0 x.de) : StR s0 p q (.agg (M4 q x)) (s.set (s0.next + 2) (some (.cells (M4 q x)))) :=
 ⟨x, rfl, h.fr.thenSet _ (.inr (by omega)), hq.set h.r, hz⟩
theorem S3.res {s0 s : M1} {m : MdX} {pr : List D} {q : Pr} {x : PrD} {env : Env} {sl : Nat} (h : S3 s0 m pr s) (hE : env.get sl = .ptr (s0.next + 2) 0) : R9 env (s.set (s0.next + 2) (some (.cells (M4 q x)))) [(sl, some (some 8))] = some (.agg (M4 q x)) := by
 have := h.nx
 simp only [R9, S1, T0, hE, P6 (s := s) (i := s0.next + 2) (by omega)]
 rfl
def a6e (fs : FuncId -> Option M6) (fn : Nat) (t : List Nd) (ch : List Ch) (names : List ByteArray) (vars : List Nat) (f k : Nat) : Prop :=
 ∀ g n, Q9 t g k = (n, true) -> ∀ (s : M1) (m : MdX) (p : Pr) (x : PrD) (frm to : Nat), a0g s m t ch -> N8 s p x -> W0 t ch.length p -> p.names = names -> p.vars = vars -> frm < p.places -> to < p.places -> ∀ N, Q2 p N -> N + 4 * (n - k) <= 900000 ->
   EvP fs fn [.agg (N6 m), .agg (M4 p x), .int .i64 (k : Int), .int .i64 (frm : Int), .int .i64 (to : Int)] s (StR s p (N1 t (ch.map Ch.name) f p k frm to))
end Go.V
namespace Go.Proofs.YtnjlhebkhjcagaaGreat
open Go.V
set_option maxRecDepth 100000
set_option maxHeartbeats 4000000
theorem b3r {s : M1} {d : D} {l : List Nat} {i : Nat} (h : SN s 1 d (P3 l)) (hi : i < l.length) : ∃ p, N3 1 d (.int .i64 (i : Int)) = some p /\ ldV s.get none p = some (.int .i64 ((l.getD i 0 : Nat) : Int)) /\ ∀ id off, p = .ptr id off -> id < s.next :=
 h.get1 (a2f l) (by simpa using hi) (by simp [P3, List.getD, hi]) rfl (by decide)
theorem a0w {p : Pr} {a b : Nat} (h : Q2 p a) (k : a <= b) : Q2 p b := ⟨by have := h.pl; omega, by have := h.rl; omega, by have := h.el; omega⟩
theorem a9f {p : Pr} {a n : Nat} {is : Int} (h : Q2 p a) : Q2 (p.idle n is) a := by
 have g := a6K p n is
 exact ⟨by have := h.pl; have := g.pl; omega, by have := h.rl; have := g.rl; omega, by have := h.el; have := g.el; omega⟩
theorem a0N {p q : Pr} {a b n : Nat} (h : Q2 p a) (g : Gw p q n) (k : a + n <= b) : Q2 q b := ⟨by have := h.pl; have := g.pl; omega, by have := h.rl; have := g.rl; omega, by have := h.el; have := g.el; omega⟩
theorem b9x {s : M1} {m : MdX} {t : List Nd} {ch : List Ch} (hm : a0g s m t ch) (ht : Y4 t) {p : Pr} {x : PrD} (hp : N8 s p x) (hl : Q2 p 900000) {k frm to : Nat} (hk : k < t.length) (hK : (nd t k).kind = 14) {f : Nat} :
 EvP vfs 88 [.agg (N6 m), .agg (M4 p x), .int .i64 (k : Int), .int .i64 (frm : Int), .int .i64 (to : Int)] s (StR s p (N1 t (ch.map Ch.name) (f + 1) p k frm to)) := by
 have hF : N1 t (ch.map Ch.name) (f + 1) p k frm to = p.put frm to 0 k (-1) (-1) (-1) := by simp [N1, hK]
 rw [hF]
 have hidx := hm.tr.at (z := (k : Int)) (by omega) (by omega) (k := .i64)
 rw [Int.toNat_natCast, hK] at hidx
 have on := a0o hm.tr hk
 have op := hp.ones
 have om := hm.ones
 have hl' : Q2 p 1000000 := ⟨by have := hl.pl; omega, by have := hl.rl; omega, by have := hl.el; omega⟩
 have hno := ht.node k hk
 unfold N6 M4
 refine M8 (vf := a0b) rfl ?_
 unfold a0b; refine zE ?_
 try refine zW (aN hidx (aN on (aN op om))) ?_
 refine U3 (Φ := SF s m [.int .i64 14, (nd t k).dw, (nd t k).dn, (nd t k).dk, .int .i64 (nd t k).pos] (M4 p x)) ?_ ?_
 ·refine ⟨(((((Fr.push _).thenPush _).thenPush _).thenPush _).thenSet _ (.inr (by first | omega | (simp only [M1.next_push]; omega)))), by simp only [M1.next_push, M1.next_set]; omega, ?_, ?_, ?_, ?_⟩ <;> (simp (disch := (first|with_reducible assumption|omega|((repeat (first|rw [nP]|rw [nS]))<;>omega)|fail)) only [R7, O5, O9, P6, M1.next_push, M1.next_set]) <;> rfl
 intro s4 h4
 simp only [O8.at, M1.next_push, M1.next_set]
 apply S4 (a1o (to := to) (act := 0) (hp.stay h4.fr) hl')
 ·rfl
 rintro r s9 ⟨x9, rfl, f9, hp9, id9, e9, z9⟩
 have h9 := h4.call f9
 have hz9 : Z4 s x9.de := a2I e9 z9 h4.fr.1
 have op9 := hp9.ones
 have r9 := h9.r
 repeat first
  |with_reducible first|apply vA|apply vB|apply vC
  |((with_reducible apply vD); (focus rfl))
  |((with_reducible first|apply vE|apply vF|apply vG|apply vH); simp only [Env.keep, Env.get, Env.ev, List.map, Nat.reduceEqDiff, ↓reduceIte, P0, N4])
  |((with_reducible first|apply vI|apply vJ|apply vK|apply vL|apply vM|apply vN); (focus (simp (disch := (first|with_reducible assumption|omega|((repeat (first|rw [nP]|rw [nS]))<;>omega)|fail)) only [go_sem, Env.ev, Env.get, ↓reduceIte, r9, op9, M4] <;> rfl)); (first|(with_reducible (first|apply vO|apply vP|apply vQ|apply vR|apply vS|apply vT|apply vU); try simp only [Env.put])|with_reducible refine (?_ : WQ _ _ _ _ _ _)))
  |fail
 exact ⟨.inr trivial, _, h9.res rfl, h9.fin hp9 hz9⟩
theorem c2h {s : M1} {m : MdX} {t : List Nd} {ch : List Ch} (hm : a0g s m t ch) (ht : Y4 t) {p : Pr} {x : PrD} (hp : N8 s p x) (hl : Q2 p 900000) {k frm to : Nat} (hk : k < t.length) (hK : (nd t k).kind = 15) {f : Nat} :
 EvP vfs 88 [.agg (N6 m), .agg (M4 p x), .int .i64 (k : Int), .int .i64 (frm : Int), .int .i64 (to : Int)] s (StR s p (N1 t (ch.map Ch.name) (f + 1) p k frm to)) := by
 have hF : N1 t (ch.map Ch.name) (f + 1) p k frm to = p.put frm 1 0 k (-1) (-1) (-1) := by simp [N1, hK]
 rw [hF]
 have hidx := hm.tr.at (z := (k : Int)) (by omega) (by omega) (k := .i64)
 rw [Int.toNat_natCast, hK] at hidx
 have on := a0o hm.tr hk
 have op := hp.ones
 have om := hm.ones
 have hl' : Q2 p 1000000 := ⟨by have := hl.pl; omega, by have := hl.rl; omega, by have := hl.el; omega⟩
 have hno := ht.node k hk
 unfold N6 M4
 refine M8 (vf := a0b) rfl ?_
 unfold a0b; refine zE ?_
 try refine zW (aN hidx (aN on (aN op om))) ?_
 refine U3 (Φ := SF s m [.int .i64 15, (nd t k).dw, (nd t k).dn, (nd t k).dk, .int .i64 (nd t k).pos] (M4 p x)) ?_ ?_
 ·refine ⟨(((((Fr.push _).thenPush _).thenPush _).thenPush _).thenSet _ (.inr (by first | omega | (simp only [M1.next_push]; omega)))), by simp only [M1.next_push, M1.next_set]; omega, ?_, ?_, ?_, ?_⟩ <;> (simp (disch := (first|with_reducible assumption|omega|((repeat (first|rw [nP]|rw [nS]))<;>omega)|fail)) only [R7, O5, O9, P6, M1.next_push, M1.next_set]) <;> rfl
 intro s4 h4
 simp only [O8.at, M1.next_push, M1.next_set]
 apply S4 (a1o (to := 1) (act := 0) (hp.stay h4.fr) hl')
 ·rfl
 rintro r s9 ⟨x9, rfl, f9, hp9, id9, e9, z9⟩
 have h9 := h4.call f9
 have hz9 : Z4 s x9.de := a2I e9 z9 h4.fr.1
 have op9 := hp9.ones
 have r9 := h9.r
 repeat first
  |with_reducible first|apply vA|apply vB|apply vC
  |((with_reducible apply vD); (focus rfl))
  |((with_reducible first|apply vE|apply vF|apply vG|apply vH); simp only [Env.keep, Env.get, Env.ev, List.map, Nat.reduceEqDiff, ↓reduceIte, P0, N4])
  |((with_reducible first|apply vI|apply vJ|apply vK|apply vL|apply vM|apply vN); (focus (simp (disch := (first|with_reducible assumption|omega|((repeat (first|rw [nP]|rw [nS]))<;>omega)|fail)) only [go_sem, Env.ev, Env.get, ↓reduceIte, r9, op9, M4] <;> rfl)); (first|(with_reducible (first|apply vO|apply vP|apply vQ|apply vR|apply vS|apply vT|apply vU); try simp only [Env.put])|with_reducible refine (?_ : WQ _ _ _ _ _ _)))
  |fail
 exact ⟨.inr trivial, _, h9.res rfl, h9.fin hp9 hz9⟩
theorem c0s {s : M1} {m : MdX} {t : List Nd} {ch : List Ch} (hm : a0g s m t ch) (ht : Y4 t) {p : Pr} {x : PrD} (hp : N8 s p x) (hl : Q2 p 900000) (hnv : p.names.length = p.vars.length) (hn0 : 0 < p.names.length) (hnb : p.names.length <= 1000000) {k frm to : Nat} (hk : k < t.length) (hK : (nd t k).kind = 6) {f : Nat} :
 EvP vfs 88 [.agg (N6 m), .agg (M4 p x), .int .i64 (k : Int), .int .i64 (frm : Int), .int .i64 (to : Int)] s (StR s p (N1 t (ch.map Ch.name) (f + 1) p k frm to)) := by
 have hF : N1 t (ch.map Ch.name) (f + 1) p k frm to = p.put frm to 1 k ((nd t k).kid 0) (p.vars.getD (Z8 p.names ((nd t k).word 0)) 0 : Nat) (-1) := by simp [N1, hK]
 rw [hF]
 have hidx := hm.tr.at (z := (k : Int)) (by omega) (by omega) (k := .i64)
 rw [Int.toNat_natCast, hK] at hidx
 have on := a0o hm.tr hk
 have op := hp.ones
 have om := hm.ones
 have hl' : Q2 p 1000000 := ⟨by have := hl.pl; omega, by have := hl.rl; omega, by have := hl.el; omega⟩
 have hno := ht.node k hk
 have hk1 := hno.one (by omega)
 have k0 : N3 1 (nd t k).dk (.int .i64 0) = some (.fp [.int .i64 ((nd t k).kid 0 : Int)] 0) := a0d hm.tr ht hk (i := 0) (by omega)
 have hwl : (nd t k).words.length = 1 := by rw [hno.wl, hK]; rfl
 have w0 : N3 1 (nd t k).dw (.int .i64 0) = some (.fp [.str ((nd t k).word 0)] 0) := a2e hm.tr hk (i := 0) (by omega)
 have hfl := a6B (s := (nd t k).word 0) hn0
 unfold N6 M4
 refine M8 (vf := a0b) rfl ?_
 unfold a0b; refine zE ?_
 try refine zW (aN hidx (aN on (aN op (aN om (aN k0 w0))))) ?_
 refine U3 (Φ := SF s m [.int .i64 6, (nd t k).dw, (nd t k).dn, (nd t k).dk, .int .i64 (nd t k).pos] (M4 p x)) ?_ ?_
 ·refine ⟨(((((Fr.push _).thenPush _).thenPush _).thenPush _).thenSet _ (.inr (by first | omega | (simp only [M1.next_push]; omega)))), by simp only [M1.next_push, M1.next_set]; omega, ?_, ?_, ?_, ?_⟩ <;> (simp (disch := (first|with_reducible assumption|omega|((repeat (first|rw [nP]|rw [nS]))<;>omega)|fail)) only [R7, O5, O9, P6, M1.next_push, M1.next_set]) <;> rfl
 intro s4 h4
 simp only [O8.at, M1.next_push, M1.next_set]
 refine b5Y (l := [x.dn, .str ((nd t k).word 0)]) rfl (b1z (hp.stay h4.fr).n hnb) ?_
 obtain ⟨id, v1, v2, v3⟩ := b3r (hp.stay h4.fr).v (i := Z8 p.names ((nd t k).word 0)) (by omega)
 try refine zW (aN v1 v2) ?_
 apply S4 (a1o (act := 1) (hp.stay h4.fr) hl')
 ·rfl
 rintro r s9 ⟨x9, rfl, f9, hp9, id9, e9, z9⟩
 have h9 := h4.call f9
 have hz9 : Z4 s x9.de := a2I e9 z9 h4.fr.1
 have op9 := hp9.ones
 have r9 := h9.r
 repeat first
  |with_reducible first|apply vA|apply vB|apply vC
  |((with_reducible apply vD); (focus rfl))
  |((with_reducible first|apply vE|apply vF|apply vG|apply vH); simp only [Env.keep, Env.get, Env.ev, List.map, Nat.reduceEqDiff, ↓reduceIte, P0, N4])
  |((with_reducible first|apply vI|apply vJ|apply vK|apply vL|apply vM|apply vN); (focus (simp (disch := (first|with_reducible assumption|omega|((repeat (first|rw [nP]|rw [nS]))<;>omega)|fail)) only [go_sem, Env.ev, Env.get, ↓reduceIte, r9, op9, M4] <;> rfl)); (first|(with_reducible (first|apply vO|apply vP|apply vQ|apply vR|apply vS|apply vT|apply vU); try simp only [Env.put])|with_reducible refine (?_ : WQ _ _ _ _ _ _)))
  |fail
 exact ⟨.inr trivial, _, h9.res rfl, h9.fin hp9 hz9⟩
theorem c0n {s : M1} {m : MdX} {t : List Nd} {ch : List Ch} (hm : a0g s m t ch) (ht : Y4 t) {p : Pr} {x : PrD} (hp : N8 s p x) (hl : Q2 p 900000) (hcb : ch.length <= 1000000) {k frm to : Nat} (hk : k < t.length) (hK : (nd t k).kind = 7) {f : Nat} :
 EvP vfs 88 [.agg (N6 m), .agg (M4 p x), .int .i64 (k : Int), .int .i64 (frm : Int), .int .i64 (to : Int)] s (StR s p (N1 t (ch.map Ch.name) (f + 1) p k frm to)) := by
 have hF : N1 t (ch.map Ch.name) (f + 1) p k frm to = p.put frm to 2 k ((nd t k).kid 0) (-1) (Z8 (ch.map Ch.name) ((nd t k).word 0) : Nat) := by simp [N1, hK]
 rw [hF]
 have hidx := hm.tr.at (z := (k : Int)) (by omega) (by omega) (k := .i64)
 rw [Int.toNat_natCast, hK] at hidx
 have on := a0o hm.tr hk
 have op := hp.ones
 have om := hm.ones
 have hl' : Q2 p 1000000 := ⟨by have := hl.pl; omega, by have := hl.rl; omega, by have := hl.el; omega⟩
 have hno := ht.node k hk
 have hk1 := hno.one (by omega)
 have k0 : N3 1 (nd t k).dk (.int .i64 0) = some (.fp [.int .i64 ((nd t k).kid 0 : Int)] 0) := a0d hm.tr ht hk (i := 0) (by omega)
 have hwl : (nd t k).words.length = 1 := by rw [hno.wl, hK]; rfl
 have w0 : N3 1 (nd t k).dw (.int .i64 0) = some (.fp [.str ((nd t k).word 0)] 0) := a2e hm.tr hk (i := 0) (by omega)
 unfold N6 M4
 refine M8 (vf := a0b) rfl ?_
 unfold a0b; refine zE ?_
 try refine zT (aN hidx (aN on (aN op (aN om (aN k0 w0))))) ?_
 refine b0n (Φ := SF s m [.int .i64 7, (nd t k).dw, (nd t k).dn, (nd t k).dk, .int .i64 (nd t k).pos] (M4 p x)) ?_ ?_
 ·refine ⟨(((((Fr.push _).thenPush _).thenPush _).thenPush _).thenSet _ (.inr (by first | omega | (simp only [M1.next_push]; omega)))), by simp only [M1.next_push, M1.next_set]; omega, ?_, ?_, ?_, ?_⟩ <;> (simp (disch := (first|with_reducible assumption|omega|((repeat (first|rw [nP]|rw [nS]))<;>omega)|fail)) only [R7, O5, O9, P6, M1.next_push, M1.next_set]) <;> rfl
 intro s4 h4
 simp only [O8.at, M1.next_push, M1.next_set]
 refine b3e (b27 (hm.stay h4.fr) hcb) (fun d s' h => h.2) (by
  intro id hid
  have := h4.nx
  simp only [List.mem_cons, List.not_mem_nil, or_false] at hid
  omega) rfl rfl ?_
 rintro r s5 ⟨rfl, f5⟩
 have h5 := h4.call f5
 apply S4 (a1o (act := 2) (hp.stay h5.fr) hl')
 ·rfl
 rintro r s9 ⟨x9, rfl, f9, hp9, id9, e9, z9⟩
 have h9 := h5.call f9
 have hz9 : Z4 s x9.de := a2I e9 z9 h5.fr.1
 have op9 := hp9.ones
 have r9 := h9.r
 repeat first
  |with_reducible first|apply vA|apply vB|apply vC
  |((with_reducible apply vD); (focus rfl))
  |((with_reducible first|apply vE|apply vF|apply vG|apply vH); simp only [Env.keep, Env.get, Env.ev, List.map, Nat.reduceEqDiff, ↓reduceIte, P0, N4])
  |((with_reducible first|apply vI|apply vJ|apply vK|apply vL|apply vM|apply vN); (focus (simp (disch := (first|with_reducible assumption|omega|((repeat (first|rw [nP]|rw [nS]))<;>omega)|fail)) only [go_sem, Env.ev, Env.get, ↓reduceIte, r9, op9, M4] <;> rfl)); (first|(with_reducible (first|apply vO|apply vP|apply vQ|apply vR|apply vS|apply vT|apply vU); try simp only [Env.put])|with_reducible refine (?_ : WQ _ _ _ _ _ _)))
  |fail
 exact ⟨.inr trivial, _, h9.res rfl, h9.fin hp9 hz9⟩
theorem b8W {s : M1} {m : MdX} {t : List Nd} {ch : List Ch} (hm : a0g s m t ch) (ht : Y4 t) {p : Pr} {x : PrD} (hp : N8 s p x) (hl : Q2 p 900000) {k frm to : Nat} (hfr : frm < p.rest.length) (hk : k < t.length) (hK : (nd t k).kind = 9) {f : Nat} :
 EvP vfs 88 [.agg (N6 m), .agg (M4 p x), .int .i64 (k : Int), .int .i64 (frm : Int), .int .i64 (to : Int)] s (StR s p (N1 t (ch.map Ch.name) (f + 1) p k frm to)) := by
 have hF : N1 t (ch.map Ch.name) (f + 1) p k frm to = (p.idle frm ((nd t k).num 0)).put frm to 4 k ((nd t k).kid 0) (-1) (-1) := by simp [N1, hK]
 rw [hF]
 have hidx := hm.tr.at (z := (k : Int)) (by omega) (by omega) (k := .i64)
 rw [Int.toNat_natCast, hK] at hidx
 have on := a0o hm.tr hk
 have op := hp.ones
 have om := hm.ones
 have hl' : Q2 p 1000000 := ⟨by have := hl.pl; omega, by have := hl.rl; omega, by have := hl.el; omega⟩
 have hno := ht.node k hk
 have hk1 := hno.one (by omega)
 have k0 : N3 1 (nd t k).dk (.int .i64 0) = some (.fp [.int .i64 ((nd t k).kid 0 : Int)] 0) := a0d hm.tr ht hk (i := 0) (by omega)
 have hnl : (nd t k).nums.length = 1 := by rw [hno.nl, hK]; rfl
 have n0 : N3 1 (nd t k).dn (.int .i64 0) = some (.fp [.int .i64 ((nd t k).num 0)] 0) := a2n (hm.tr.nd hk) (i := 0) (by omega)
 unfold N6 M4
 refine M8 (vf := a0b) rfl ?_
 unfold a0b; refine zE ?_
 try refine zW (aN hidx (aN on (aN op (aN om n0)))) ?_
 refine U3 (Φ := SF s m [.int .i64 9, (nd t k).dw, (nd t k).dn, (nd t k).dk, .int .i64 (nd t k).pos] (M4 p x)) ?_ ?_
 ·refine ⟨(((((Fr.push _).thenPush _).thenPush _).thenPush _).thenSet _ (.inr (by first | omega | (simp only [M1.next_push]; omega)))), by simp only [M1.next_push, M1.next_set]; omega, ?_, ?_, ?_, ?_⟩ <;> (simp (disch := (first|with_reducible assumption|omega|((repeat (first|rw [nP]|rw [nS]))<;>omega)|fail)) only [R7, O5, O9, P6, M1.next_push, M1.next_set]) <;> rfl
 intro s4 h4
 simp only [O8.at, M1.next_push, M1.next_set]
 apply S4 (a87 (hp.stay h4.fr) hl' hfr)
 ·rfl
 rintro r s5 ⟨x5, rfl, f5, hp5⟩
 have h5 := h4.call f5
 have op5 := hp5.ones
 have p5 := h5.p
 unfold M4 at p5
 have hp6 : N8 (s5.set (s.next + 1) (some (.cells (M4 (p.idle frm ((nd t k).num 0)) x5)))) (p.idle frm ((nd t k).num 0)) x5 := hp5.set p5
 have h6 : SF s m _ (M4 (p.idle frm ((nd t k).num 0)) x5) (s5.set (s.next + 1) (some (.cells (M4 (p.idle frm ((nd t k).num 0)) x5)))) := h5.setP
 have ip := a6m p frm ((nd t k).num 0)
 have hl6 : Q2 (p.idle frm ((nd t k).num 0)) 1000000 := a9f hl'
 generalize p.idle frm ((nd t k).num 0) = q at *
 repeat first
  |with_reducible first|apply vA|apply vB|apply vC
  |((with_reducible apply vD); (focus rfl))
  |((with_reducible first|apply vE|apply vF|apply vG|apply vH); simp only [Env.keep, Env.get, Env.ev, List.map, Nat.reduceEqDiff, ↓reduceIte, P0, N4])
  |((with_reducible first|apply vI|apply vJ|apply vK|apply vL|apply vM|apply vN); (focus (simp (disch := (first|with_reducible assumption|omega|((repeat (first|rw [nP]|rw [nS]))<;>omega)|fail)) only [go_sem, Env.ev, Env.get, ↓reduceIte, p5, op5, M4] <;> rfl)); (first|(with_reducible (first|apply vO|apply vP|apply vQ|apply vR|apply vS|apply vT|apply vU); try simp only [Env.put])|with_reducible refine (?_ : WQ _ _ _ _ _ _)))
  |fail
 refine U3 (Φ := fun s' => SF s m _ (M4 q x5) s' /\ N8 s' q x5) ⟨h6, hp6⟩ ?_
 rintro s6 ⟨h6, hp6⟩
 have p6 := h6.p
 have n6 := h6.n
 unfold M4 at p6
 try refine zW (aN p6 (aN n6 (aN op5 (aN on k0)))) ?_
 apply S4 (a1o (act := 4) hp6 hl6)
 ·rfl
 rintro r s9 ⟨x9, rfl, f9, hp9, id9, e9, z9⟩
 have h9 := h6.call f9
 have hz9 : Z4 s x9.de := a2I e9 z9 h6.fr.1
 have op9 := hp9.ones
 have r9 := h9.r
 repeat first
  |with_reducible first|apply vA|apply vB|apply vC
  |((with_reducible apply vD); (focus rfl))
  |((with_reducible first|apply vE|apply vF|apply vG|apply vH); simp only [Env.keep, Env.get, Env.ev, List.map, Nat.reduceEqDiff, ↓reduceIte, P0, N4])
  |((with_reducible first|apply vI|apply vJ|apply vK|apply vL|apply vM|apply vN); (focus (simp (disch := (first|with_reducible assumption|omega|((repeat (first|rw [nP]|rw [nS]))<;>omega)|fail)) only [go_sem, Env.ev, Env.get, ↓reduceIte, r9, op9, M4] <;> rfl)); (first|(with_reducible (first|apply vO|apply vP|apply vQ|apply vR|apply vS|apply vT|apply vU); try simp only [Env.put])|with_reducible refine (?_ : WQ _ _ _ _ _ _)))
  |fail
 exact ⟨.inr trivial, _, h9.res rfl, h9.fin hp9 hz9⟩
theorem b65 {s : M1} {m : MdX} {t : List Nd} {ch : List Ch} (hm : a0g s m t ch) (ht : Y4 t) {p : Pr} {x : PrD} (hp : N8 s p x) (hl : Q2 p 900000) (hnv : p.names.length = p.vars.length) (hn0 : 0 < p.names.length) (hnb : p.names.length <= 1000000) (hcb : ch.length <= 1000000) {k frm to : Nat} (hfr : frm < p.rest.length) (hk : k < t.length) (hK : (nd t k).kind = 8) {f : Nat} :
 EvP vfs 88 [.agg (N6 m), .agg (M4 p x), .int .i64 (k : Int), .int .i64 (frm : Int), .int .i64 (to : Int)] s (StR s p (N1 t (ch.map Ch.name) (f + 1) p k frm to)) := by
 have hF : N1 t (ch.map Ch.name) (f + 1) p k frm to = (p.idle frm ((nd t k).num 0)).put frm to 3 k (-1) (p.vars.getD (Z8 p.names ((nd t k).word 1)) 0 : Nat) (Z8 (ch.map Ch.name) ((nd t k).word 0) : Nat) := by simp [N1, hK]
 rw [hF]
 have hidx := hm.tr.at (z := (k : Int)) (by omega) (by omega) (k := .i64)
 rw [Int.toNat_natCast, hK] at hidx
 have on := a0o hm.tr hk
 have op := hp.ones
 have om := hm.ones
 have hl' : Q2 p 1000000 := ⟨by have := hl.pl; omega, by have := hl.rl; omega, by have := hl.el; omega⟩
 have hno := ht.node k hk
 have hwl : (nd t k).words.length = 2 := by rw [hno.wl, hK]; rfl
 have w0 : N3 1 (nd t k).dw (.int .i64 0) = some (.fp [.str ((nd t k).word 0)] 0) := a2e hm.tr hk (i := 0) (by omega)
 have w1 : N3 1 (nd t k).dw (.int .i64 1) = some (.fp [.str ((nd t k).word 1)] 0) := a2e hm.tr hk (i := 1) (by omega)
 have hnl : (nd t k).nums.length = 1 := by rw [hno.nl, hK]; rfl
 have n0 : N3 1 (nd t k).dn (.int .i64 0) = some (.fp [.int .i64 ((nd t k).num 0)] 0) := a2n (hm.tr.nd hk) (i := 0) (by omega)
 have hfl := a6B (s := (nd t k).word 1) hn0
 unfold N6 M4
 refine M8 (vf := a0b) rfl ?_
 unfold a0b; refine zE ?_
 try refine zW (aN hidx (aN on (aN op (aN om n0)))) ?_
 refine U3 (Φ := SF s m [.int .i64 8, (nd t k).dw, (nd t k).dn, (nd t k).dk, .int .i64 (nd t k).pos] (M4 p x)) ?_ ?_
 ·refine ⟨(((((Fr.push _).thenPush _).thenPush _).thenPush _).thenSet _ (.inr (by first | omega | (simp only [M1.next_push]; omega)))), by simp only [M1.next_push, M1.next_set]; omega, ?_, ?_, ?_, ?_⟩ <;> (simp (disch := (first|with_reducible assumption|omega|((repeat (first|rw [nP]|rw [nS]))<;>omega)|fail)) only [R7, O5, O9, P6, M1.next_push, M1.next_set]) <;> rfl
 intro s4 h4
 simp only [O8.at, M1.next_push, M1.next_set]
 apply S4 (a87 (hp.stay h4.fr) hl' hfr)
 ·rfl
 rintro r s5 ⟨x5, rfl, f5, hp5⟩
 have h5 := h4.call f5
 have op5 := hp5.ones
 have p5 := h5.p
 unfold M4 at p5
 have hp6 : N8 (s5.set (s.next + 1) (some (.cells (M4 (p.idle frm ((nd t k).num 0)) x5)))) (p.idle frm ((nd t k).num 0)) x5 := hp5.set p5
 have h6 : SF s m _ (M4 (p.idle frm ((nd t k).num 0)) x5) (s5.set (s.next + 1) (some (.cells (M4 (p.idle frm ((nd t k).num 0)) x5)))) := h5.setP
 have ip := a6m p frm ((nd t k).num 0)
 have hl6 : Q2 (p.idle frm ((nd t k).num 0)) 1000000 := a9f hl'
 generalize p.idle frm ((nd t k).num 0) = q at *
 have hnb' : q.names.length <= 1000000 := by rw [ip.2.2.2]; exact hnb
 have hfl' : Z8 q.names ((nd t k).word 1) < q.vars.length := by rw [ip.2.2.2, ip.2.2.1]; omega
 rw [<- ip.2.2.1, <- ip.2.2.2]
 repeat first
  |(with_reducible refine a7D ?_)
  |((with_reducible apply a7l); (focus (simp (disch := (first|with_reducible assumption|omega|((repeat (first|rw [nP]|rw [nS]))<;>omega)|fail)) only [go_sem, Env.ev, Env.get, ↓reduceIte, p5, op5, M4] <;> rfl)))
  |((with_reducible apply a63); (focus (simp only [Env.ev, Env.get, Nat.reduceEqDiff, ↓reduceIte, O8.at, Nat.add_zero, Nat.zero_add, p5, op5, M4] <;> rfl)); (focus (simp (disch := (first|with_reducible assumption|omega|((repeat (first|rw [nP]|rw [nS]))<;>omega)|fail)) only [go_sem, Env.ev, Env.get, ↓reduceIte, p5, op5, M4] <;> rfl)))
  |((with_reducible apply a8h); (focus (simp only [Env.ev, Env.get, Nat.reduceEqDiff, ↓reduceIte, O8.at, Nat.add_zero, Nat.zero_add, p5, op5, M4] <;> rfl)); (focus (simp (disch := (first|with_reducible assumption|omega|((repeat (first|rw [nP]|rw [nS]))<;>omega)|fail)) only [go_sem, Env.ev, Env.get, ↓reduceIte, p5, op5, M4] <;> rfl)))
  |with_reducible first|apply vA|apply vB|apply vC
  |((with_reducible apply vD); (focus rfl))
  |((with_reducible first|apply vE|apply vF|apply vG|apply vH); simp only [Env.keep, Env.get, Env.ev, List.map, Nat.reduceEqDiff, ↓reduceIte, P0, N4])
  |((with_reducible first|apply vI|apply vJ|apply vK|apply vL|apply vM|apply vN); (focus (simp (disch := (first|with_reducible assumption|omega|((repeat (first|rw [nP]|rw [nS]))<;>omega)|fail)) only [go_sem, Env.ev, Env.get, ↓reduceIte, p5, op5, M4] <;> rfl)); (first|(with_reducible (first|apply vO|apply vP|apply vQ|apply vR|apply vS|apply vT|apply vU); try simp only [Env.put])|with_reducible refine (?_ : WQ _ _ _ _ _ _)))
  |fail
 refine b0n (Φ := fun s' => SF s m _ (M4 q x5) s' /\ N8 s' q x5) ⟨h6, hp6⟩ ?_
 rintro s6 ⟨h6, hp6⟩
 have p6 := h6.p
 have n6 := h6.n
 have m6 := h6.m
 unfold M4 at p6
 unfold N6 at m6
 try refine zT (aN p6 (aN n6 (aN m6 (aN op5 (aN on (aN om (aN w0 w1))))))) ?_
 refine b74 (b1z hp6.n hnb') rfl ?_
 obtain ⟨id, v1, v2, v3⟩ := b3r hp6.v (i := Z8 q.names ((nd t k).word 1)) (by omega)
 repeat first
 |(apply c2j v2; (focus (simp only [Env.ev, Env.get, Nat.reduceEqDiff, ↓reduceIte])))
 |refine zT (aN v1 (aN p6 (aN n6 (aN m6 (aN op5 (aN on (aN om (aN w0 w1)))))))) ?_
 refine b3e (b27 (hm.stay h6.fr) hcb) (fun d s' h => h.2) (by
  intro i hid
  have := h6.nx
  simp only [List.mem_cons, List.mem_append, List.not_mem_nil, or_false] at hid
  by_cases hv : i ∈ a40 id
  ·obtain ⟨off, e⟩ := b76 hv
   exact v3 _ _ e
  ·simp only [hv, false_or, or_false] at hid
   omega) rfl rfl ?_
 rintro r s7 ⟨rfl, f7⟩
 have h7 := h6.call f7
 try refine zW0 ?_
 apply S4 (a1o (act := 3) (hp6.stay f7) hl6)
 ·rfl
 rintro r s9 ⟨x9, rfl, f9, hp9, id9, e9, z9⟩
 have h9 := h7.call f9
 have hz9 : Z4 s x9.de := a2I e9 z9 h7.fr.1
 have op9 := hp9.ones
 have r9 := h9.r
 repeat first
  |with_reducible first|apply vA|apply vB|apply vC
  |((with_reducible apply vD); (focus rfl))
  |((with_reducible first|apply vE|apply vF|apply vG|apply vH); simp only [Env.keep, Env.get, Env.ev, List.map, Nat.reduceEqDiff, ↓reduceIte, P0, N4])
  |((with_reducible first|apply vI|apply vJ|apply vK|apply vL|apply vM|apply vN); (focus (simp (disch := (first|with_reducible assumption|omega|((repeat (first|rw [nP]|rw [nS]))<;>omega)|fail)) only [go_sem, Env.ev, Env.get, ↓reduceIte, r9, op9, M4] <;> rfl)); (first|(with_reducible (first|apply vO|apply vP|apply vQ|apply vR|apply vS|apply vT|apply vU); try simp only [Env.put])|with_reducible refine (?_ : WQ _ _ _ _ _ _)))
  |fail
 exact ⟨.inr trivial, _, h9.res rfl, h9.fin hp9 hz9⟩
end Go.Proofs.YtnjlhebkhjcagaaGreat
namespace Go.Proofs.YtnjlhebkhjcagaaGreat
open Go.V
set_option maxRecDepth 100000
set_option maxHeartbeats 4000000
theorem c0A {s : M1} {m : MdX} {t : List Nd} {ch : List Ch} {names : List ByteArray} {vars : List Nat} (hm : a0g s m t ch) (ht : Y4 t) {p : Pr} {x : PrD} (hp : N8 s p x) (hi : W0 t ch.length p) (hpn : p.names = names) (hpv : p.vars = vars) {k frm to : Nat} (hfr : frm < p.places) (hto : to < p.places) (hk : k < t.length) (hK : (nd t k).kind = 11) {f : Nat}
 {g n : Nat} (hw : Q9 t g k = (n, true)) {N : Nat} (hl : Q2 p N) (hN : N + 4 * (n - k) <= 900000) (hS : ∀ b ∈ (nd t k).ks, (nd t b).kind = 16 -> ∀ c ∈ (nd t b).ks, a1c t ch.length names vars (N1 t (ch.map Ch.name) f) c /\ StG t (N1 t (ch.map Ch.name) f) c) (hB : ∀ b ∈ (nd t k).ks, (nd t b).kind = 16 -> a3V vfs 115 t ch names vars f b) :
 EvP vfs 88 [.agg (N6 m), .agg (M4 p x), .int .i64 (k : Int), .int .i64 (frm : Int), .int .i64 (to : Int)] s (StR s p (N1 t (ch.map Ch.name) (f + 1) p k frm to)) := by
 have hidx := hm.tr.at (z := (k : Int)) (by omega) (by omega) (k := .i64)
 rw [Int.toNat_natCast, hK] at hidx
 have on := a0o hm.tr hk
 have op := hp.ones
 have om := hm.ones
 have hl' : Q2 p 1000000 := a0w hl (by omega)
 have hno := ht.node k hk
 obtain ⟨g', rfl, hkf⟩ := a15 hw
 have hks := ht.ks hk
 obtain ⟨c1, c2, c3, c4⟩ := hno.cond hK
 have k0 : N3 1 (nd t k).dk (.int .i64 0) = some (.fp [.int .i64 ((nd t k).kid 0 : Int)] 0) := a0d hm.tr ht hk (i := 0) (by omega)
 have k1 : N3 1 (nd t k).dk (.int .i64 1) = some (.fp [.int .i64 ((nd t k).kid 1 : Int)] 0) := a0d hm.tr ht hk (i := 1) (by omega)
 have m1 := X2 (x := nd t k) (i := 1) (by omega)
 have q0 := (hks _ (X2 (x := nd t k) (i := 0) (by omega))).2
 have hlk := FI.len (hm.tr.nd hk).k
 have hF : N1 t (ch.map Ch.name) (f + 1) p k frm to = (let p1 := V0 t (N1 t (ch.map Ch.name) f) (p.place.put frm p.places 4 k ((nd t k).kid 0) (-1) (-1)) ((nd t k).kid 1) p.places to
  if (nd t k).kids.length = 2 then p1.put frm to 5 k ((nd t k).kid 0) (-1) (-1) else V0 t (N1 t (ch.map Ch.name) f) (p1.place.put frm p1.places 5 k ((nd t k).kid 0) (-1) (-1)) ((nd t k).kid 2) p1.places to) := by simp [N1, hK]
 rw [hF]
 simp only
 obtain ⟨b1, u1, v1⟩ : ∃ b1, Q9 t g' ((nd t k).kid 1) = (b1, true) /\ k + 2 <= (nd t k).kid 1 /\ (nd t k).kid 1 < b1 /\ ((nd t k).kids.length = 2 -> b1 <= n) /\ ((nd t k).kids.length = 3 -> ∃ b2, Q9 t g' ((nd t k).kid 2) = (b2, true) /\ b1 = (nd t k).kid 2 /\ (nd t k).kid 2 < b2 /\ b2 <= n) := by
  match hkk : (nd t k).kids, c1, hkf with
  | [z0, z1], _, hkf =>
    obtain ⟨e0, _, b0, _, s0, _, hkf⟩ := hkf.cons
    obtain ⟨e1, _, b1, w1, s1, _, hkf⟩ := hkf.cons
    have := hkf.nil
    have kk : (nd t k).kid 1 = b0 := by simp [Nd.kid, hkk, e1]
    rw [kk]
    exact ⟨b1, w1, by omega, s1, fun _ => by omega, fun h => by simp at h⟩
  | [z0, z1, z2], _, hkf =>
    obtain ⟨e0, _, b0, _, s0, _, hkf⟩ := hkf.cons
    obtain ⟨e1, _, b1, w1, s1, _, hkf⟩ := hkf.cons
    obtain ⟨e2, _, b2, w2, s2, _, hkf⟩ := hkf.cons
    have := hkf.nil
    have kk : (nd t k).kid 1 = b0 := by simp [Nd.kid, hkk, e1]
    have k2 : (nd t k).kid 2 = b1 := by simp [Nd.kid, hkk, e2]
    rw [kk, k2]
    exact ⟨b1, w1, by omega, s1, fun h => by simp at h, fun _ => ⟨b2, w2, rfl, s2, by omega⟩⟩
 obtain ⟨v1, v2, v3, v4⟩ := v1
 unfold N6 M4
 refine M8 (vf := a0b) rfl ?_
 unfold a0b; refine zE ?_
 try refine zW (aN hidx (aN on (aN op om))) ?_
 refine U3 (Φ := SF s m [.int .i64 11, (nd t k).dw, (nd t k).dn, (nd t k).dk, .int .i64 (nd t k).pos] (M4 p x)) ?_ ?_
 ·refine ⟨(((((Fr.push _).thenPush _).thenPush _).thenPush _).thenSet _ (.inr (by first | omega | (simp only [M1.next_push]; omega)))), by simp only [M1.next_push, M1.next_set]; omega, ?_, ?_, ?_, ?_⟩ <;> (simp (disch := (first|with_reducible assumption|omega|((repeat (first|rw [nP]|rw [nS]))<;>omega)|fail)) only [R7, O5, O9, P6, M1.next_push, M1.next_set]) <;> rfl
 intro s4 h4
 simp only [O8.at, M1.next_push, M1.next_set]
 apply S4 (a5e (hp.stay h4.fr) hl')
 ·rfl
 rintro r s5 ⟨x5, rfl, f5, hp5⟩
 have h5 := h4.call f5
 have op5 := hp5.ones
 have nx5 := h5.nx
 have n5 := h5.n
 have m5 := h5.m
 have i5 := a1G hi
 have g5 := a2h p
 have w5 : Q2 p.place (N + 1) := a0N hl (a1P p) (by omega)
 have e5 : p.place.places = p.places + 1 := rfl
 repeat first
  |with_reducible first|apply vA|apply vB|apply vC
  |((with_reducible apply vD); (focus rfl))
  |((with_reducible first|apply vE|apply vF|apply vG|apply vH); simp only [Env.keep, Env.get, Env.ev, List.map, Nat.reduceEqDiff, ↓reduceIte, P0, N4])
  |((with_reducible first|apply vI|apply vJ|apply vK|apply vL|apply vM|apply vN); (focus (simp (disch := (first|with_reducible assumption|omega|((repeat (first|rw [nP]|rw [nS]))<;>omega)|fail)) only [go_sem, Env.ev, Env.get, ↓reduceIte, n5, on, op5, M4, k0, k1] <;> rfl)); (first|(with_reducible (first|apply vO|apply vP|apply vQ|apply vR|apply vS|apply vT|apply vU); try simp only [Env.put])|with_reducible refine (?_ : WQ _ _ _ _ _ _)))
  |fail
 refine U3 (Φ := fun s' => SL s m _ _ s5.next (M4 p.place x5) s' /\ N8 s' p.place x5) ⟨SL.new h5, hp5.new⟩ ?_
 rintro s6 ⟨h6, hp6⟩
 have l6 := h6.l
 have n6 := h6.sf.n
 have m6 := h6.sf.m
 unfold M4 at l6
 unfold N6 at m6
 apply S4 (a1o (to := p.places) (act := 4) (expr := ((nd t k).kid 0 : Nat)) hp6 (a0w w5 (by omega)))
 ·rfl
 rintro r s7 ⟨x7, rfl, f7, hp7, -⟩
 have h7 := h6.call f7
 have op7 := hp7.ones
 have l7 := h7.l
 have n7 := h7.sf.n
 have m7 := h7.sf.m
 have lt7 := M7 l7
 have lo7 := h7.lo
 have nx7 := h7.sf.nx
 unfold M4 at l7
 unfold N6 at m7
 have i7 := a0z (node := k) i5 (a14 (.inl rfl) (frm := frm) (to := p.places) (Nat.lt_succ_of_lt hfr) (Nat.lt_succ_self _) q0 c2)
 have g7 := g5.trans (a0y p.place frm p.places 4 k ((nd t k).kid 0 : Nat) (-1) (-1))
 have w7 : Q2 (p.place.put frm p.places 4 k ((nd t k).kid 0 : Nat) (-1) (-1)) (N + 2) := a0N w5 (a0s _ _ _ _ _ _ _ _) (by omega)
 have e7 : (p.place.put frm p.places 4 k ((nd t k).kid 0 : Nat) (-1) (-1)).places = p.places + 1 := rfl
 generalize p.place.put frm p.places 4 k ((nd t k).kid 0 : Nat) (-1) (-1) = q7 at *
 have hp8 := hp7.set (o := some (.cells (M4 q7 x7))) l7
 have h8 : SL s m _ _ s5.next (M4 q7 x7) (s7.set s5.next (some (.cells (M4 q7 x7)))) := h7.setL
 repeat first
  |with_reducible first|apply vA|apply vB|apply vC
  |((with_reducible apply vD); (focus rfl))
  |((with_reducible first|apply vE|apply vF|apply vG|apply vH); simp only [Env.keep, Env.get, Env.ev, List.map, Nat.reduceEqDiff, ↓reduceIte, P0, N4])
  |((with_reducible first|apply vI|apply vJ|apply vK|apply vL|apply vM|apply vN); (focus (simp (disch := (first|with_reducible assumption|omega|((repeat (first|rw [nP]|rw [nS]))<;>omega)|fail)) only [go_sem, Env.ev, Env.get, ↓reduceIte, l7, n7, m7, on, om, op7, M4, k0, k1] <;> rfl)); (first|(with_reducible (first|apply vO|apply vP|apply vQ|apply vR|apply vS|apply vT|apply vU); try simp only [Env.put])|with_reducible refine (?_ : WQ _ _ _ _ _ _)))
  |fail
 refine U3 (Φ := fun s' => SL s m _ _ s5.next (M4 q7 x7) s' /\ N8 s' q7 x7) ⟨h8, hp8⟩ ?_
 rintro s9 ⟨h9, hp9⟩
 have l9 := h9.l
 have n9 := h9.sf.n
 have m9 := h9.sf.m
 unfold M4 at l9
 unfold N6 at m9
 apply S4 (hB _ m1 c3 _ _ u1 s9 m q7 x7 p.places to (hm.stay h9.sf.fr) hp9 i7 (g7.names.trans hpn) (g7.vars.trans hpv) (by omega) (by omega) _ w7 (by omega))
 ·rfl
 rintro r sa ⟨xa, rfl, fa, hpa, hza⟩
 have ha := h9.call fa
 have opa := hpa.ones
 have la := ha.l
 have na := ha.sf.n
 have ma := ha.sf.m
 have lta := M7 la
 have loa := ha.lo
 have nxa := ha.sf.nx
 unfold M4 at la
 unfold N6 at ma
 have sa1 := a3r (b := (nd t k).kid 1) (frm := p.places) (to := to) (fun c hc => (hS _ m1 c3 c hc).1) i7 (g7.names.trans hpn) (g7.vars.trans hpv) (by omega) (by omega)
 have wa : Q2 (V0 t (N1 t (ch.map Ch.name) f) q7 ((nd t k).kid 1) p.places to) (N + 2 + (4 * (b1 - (nd t k).kid 1) - 3)) := a0N w7 (a1D (hks _ m1).2 u1 fun c hc => (hS _ m1 c3 c hc).2) (by omega)
 have ga := g7.trans sa1.2
 have pla := sa1.2.places
 have ia := sa1.1
 generalize V0 t (N1 t (ch.map Ch.name) f) q7 ((nd t k).kid 1) p.places to = qa at *
 have hpb := hpa.set (o := some (.cells (M4 qa xa))) la
 have hb : SL s m _ _ s5.next (M4 qa xa) (sa.set s5.next (some (.cells (M4 qa xa)))) := ha.setL
 by_cases c5 : (nd t k).kids.length = 2
 ·have c5' : ((nd t k).kids.length == 2) = true := by rw [c5]; rfl
  have c5'' : (((nd t k).kids.length : Int) == 2) = true := by rw [c5]; rfl
  rw [if_pos c5]
  have v3 := v3 c5
  clear v4
  repeat first
   |with_reducible first|apply vA|apply vB|apply vC
   |((with_reducible apply vD); (focus rfl))
   |((with_reducible first|apply vE|apply vF|apply vG|apply vH); simp only [Env.keep, Env.get, Env.ev, List.map, Nat.reduceEqDiff, ↓reduceIte, P0, N4])
   |((with_reducible first|apply vI|apply vJ|apply vK|apply vL|apply vM|apply vN); (focus (simp (disch := (first|with_reducible assumption|omega|((repeat (first|rw [nP]|rw [nS]))<;>omega)|fail)) only [go_sem, Env.ev, Env.get, ↓reduceIte, la, na, ma, on, om, opa, M4, k0, k1, hlk, c5''] <;> rfl)); (first|(with_reducible (first|apply vO|apply vP|apply vQ|apply vR|apply vS|apply vT|apply vU); try simp only [Env.put])|with_reducible refine (?_ : WQ _ _ _ _ _ _)))
   |fail
  refine U3 (Φ := fun s' => SL s m _ _ s5.next (M4 qa xa) s' /\ N8 s' qa xa) ⟨hb, hpb⟩ ?_
  rintro sc ⟨hc, hpc⟩
  have lc := hc.l
  have nc := hc.sf.n
  unfold M4 at lc
  try refine zW (aN lc (aN nc (aN on (aN opa k0)))) ?_
  apply S4 (a1o (to := to) (act := 5) (expr := ((nd t k).kid 0 : Nat)) hpc (a0w wa (by omega)))
  ·rfl
  rintro r sd ⟨xd, rfl, fd, hpd, id9, e9, z9⟩
  have h9 := hc.sf.call fd
  have hz9 : Z4 s xd.de := a2I e9 z9 hc.sf.fr.1
  have hp9 := hpd
  have op9 := hp9.ones
  have r9 := h9.r
  repeat first
   |with_reducible first|apply vA|apply vB|apply vC
   |((with_reducible apply vD); (focus rfl))
   |((with_reducible first|apply vE|apply vF|apply vG|apply vH); simp only [Env.keep, Env.get, Env.ev, List.map, Nat.reduceEqDiff, ↓reduceIte, P0, N4])
   |((with_reducible first|apply vI|apply vJ|apply vK|apply vL|apply vM|apply vN); (focus (simp (disch := (first|with_reducible assumption|omega|((repeat (first|rw [nP]|rw [nS]))<;>omega)|fail)) only [go_sem, Env.ev, Env.get, ↓reduceIte, r9, op9, M4] <;> rfl)); (first|(with_reducible (first|apply vO|apply vP|apply vQ|apply vR|apply vS|apply vT|apply vU); try simp only [Env.put])|with_reducible refine (?_ : WQ _ _ _ _ _ _)))
   |fail
  exact ⟨.inr trivial, _, h9.res rfl, h9.fin hp9 hz9⟩
 ·have c6 : (nd t k).kids.length = 3 := c1.resolve_left c5
  have c5'' : (((nd t k).kids.length : Int) == 2) = false := by rw [c6]; rfl
  rw [if_neg c5]
  obtain ⟨b2, u2, y1, y2, y3⟩ := v4 c6
  clear v4 v3
  have c4 := c4 c6
  have m2 := X2 (x := nd t k) (i := 2) (by omega)
  have k2 : N3 1 (nd t k).dk (.int .i64 2) = some (.fp [.int .i64 ((nd t k).kid 2 : Int)] 0) := a0d hm.tr ht hk (i := 2) (by omega)
  repeat first
   |with_reducible first|apply vA|apply vB|apply vC
   |((with_reducible apply vD); (focus rfl))
   |((with_reducible first|apply vE|apply vF|apply vG|apply vH); simp only [Env.keep, Env.get, Env.ev, List.map, Nat.reduceEqDiff, ↓reduceIte, P0, N4])
   |((with_reducible first|apply vI|apply vJ|apply vK|apply vL|apply vM|apply vN); (focus (simp (disch := (first|with_reducible assumption|omega|((repeat (first|rw [nP]|rw [nS]))<;>omega)|fail)) only [go_sem, Env.ev, Env.get, ↓reduceIte, la, na, ma, on, om, opa, M4, k0, k1, hlk, c5''] <;> rfl)); (first|(with_reducible (first|apply vO|apply vP|apply vQ|apply vR|apply vS|apply vT|apply vU); try simp only [Env.put])|with_reducible refine (?_ : WQ _ _ _ _ _ _)))
   |fail
  refine U3 (Φ := fun s' => SL s m _ _ s5.next (M4 qa xa) s' /\ N8 s' qa xa) ⟨hb, hpb⟩ ?_
  rintro sc ⟨hc, hpc⟩
  have lc := hc.l
  unfold M4 at lc
  try refine zW (aN lc opa) ?_
  apply S4 (a5e hpc (a0w wa (by omega)))
  ·rfl
  rintro r sd ⟨xd, rfl, fd, hpd⟩
  have hd := hc.call fd
  have opd := hpd.ones
  have ld := hd.l
  have nd' := hd.sf.n
  have md := hd.sf.m
  have ltd := M7 ld
  have lod := hd.lo
  have nxd := hd.sf.nx
  unfold M4 at ld
  unfold N6 at md
  have id' := a1G ia
  have gd := ga.trans (a2h qa)
  have wd := a0N wa (a1P qa) (Nat.le_refl _)
  have hpe := hpd.set (o := some (.cells (M4 qa.place xd))) ld
  have he : SL s m _ _ s5.next (M4 qa.place xd) (sd.set s5.next (some (.cells (M4 qa.place xd)))) := hd.setL
  repeat first
   |with_reducible first|apply vA|apply vB|apply vC
   |((with_reducible apply vD); (focus rfl))
   |((with_reducible first|apply vE|apply vF|apply vG|apply vH); simp only [Env.keep, Env.get, Env.ev, List.map, Nat.reduceEqDiff, ↓reduceIte, P0, N4])
   |((with_reducible first|apply vI|apply vJ|apply vK|apply vL|apply vM|apply vN); (focus (simp (disch := (first|with_reducible assumption|omega|((repeat (first|rw [nP]|rw [nS]))<;>omega)|fail)) only [go_sem, Env.ev, Env.get, ↓reduceIte, ld, nd', md, on, om, opd, M4, k0] <;> rfl)); (first|(with_reducible (first|apply vO|apply vP|apply vQ|apply vR|apply vS|apply vT|apply vU); try simp only [Env.put])|with_reducible refine (?_ : WQ _ _ _ _ _ _)))
   |fail
  refine U3 (Φ := fun s' => SL s m _ _ s5.next (M4 qa.place xd) s' /\ N8 s' qa.place xd) ⟨he, hpe⟩ ?_
  rintro sf ⟨hf, hpf⟩
  have lf := hf.l
  have nf := hf.sf.n
  unfold M4 at lf
  try refine zW (aN lf (aN nf (aN on (aN opd k0)))) ?_
  apply S4 (a1o (to := qa.places) (act := 5) (expr := ((nd t k).kid 0 : Nat)) hpf (a0w wd (by omega)))
  ·rfl
  rintro r sg ⟨xg, rfl, fg, hpg, -⟩
  have hg := hf.call fg
  have opg := hpg.ones
  have lg := hg.l
  have ng := hg.sf.n
  have mg := hg.sf.m
  have ltg := M7 lg
  have log := hg.lo
  have nxg := hg.sf.nx
  unfold M4 at lg
  unfold N6 at mg
  have ep : qa.place.places = qa.places + 1 := rfl
  have ig := a0z (node := k) id' (a14 (.inr rfl) (frm := frm) (to := qa.places) (by omega) (Nat.lt_succ_self _) q0 c2)
  have gg := gd.trans (a0y qa.place frm qa.places 5 k ((nd t k).kid 0 : Nat) (-1) (-1))
  have wg := a0N wd (a0s qa.place frm qa.places 5 k ((nd t k).kid 0 : Nat) (-1) (-1)) (Nat.le_refl _)
  have eg : (qa.place.put frm qa.places 5 k ((nd t k).kid 0 : Nat) (-1) (-1)).places = qa.places + 1 := rfl
  generalize qa.place.put frm qa.places 5 k ((nd t k).kid 0 : Nat) (-1) (-1) = qg at *
  have hph := hpg.set (o := some (.cells (M4 qg xg))) lg
  have hh : SL s m _ _ s5.next (M4 qg xg) (sg.set s5.next (some (.cells (M4 qg xg)))) := hg.setL
  repeat first
   |with_reducible first|apply vA|apply vB|apply vC
   |((with_reducible apply vD); (focus rfl))
   |((with_reducible first|apply vE|apply vF|apply vG|apply vH); simp only [Env.keep, Env.get, Env.ev, List.map, Nat.reduceEqDiff, ↓reduceIte, P0, N4])
   |((with_reducible first|apply vI|apply vJ|apply vK|apply vL|apply vM|apply vN); (focus (simp (disch := (first|with_reducible assumption|omega|((repeat (first|rw [nP]|rw [nS]))<;>omega)|fail)) only [go_sem, Env.ev, Env.get, ↓reduceIte, lg, ng, mg, on, om, opg, M4, k2] <;> rfl)); (first|(with_reducible (first|apply vO|apply vP|apply vQ|apply vR|apply vS|apply vT|apply vU); try simp only [Env.put])|with_reducible refine (?_ : WQ _ _ _ _ _ _)))
   |fail
  refine U3 (Φ := fun s' => SL s m _ _ s5.next (M4 qg xg) s' /\ N8 s' qg xg) ⟨hh, hph⟩ ?_
  rintro si ⟨hi', hpi⟩
  have li := hi'.l
  have ni := hi'.sf.n
  have mi := hi'.sf.m
  unfold M4 at li
  unfold N6 at mi
  try refine zW (aN li (aN ni (aN mi (aN on (aN om (aN opg k2)))))) ?_
  apply S4 (hB _ m2 c4 _ _ u2 si m qg xg qa.places to (hm.stay hi'.sf.fr) hpi ig (gg.names.trans hpn) (gg.vars.trans hpv) (by omega) (by omega) _ wg (by omega))
  ·rfl
  rintro r sj ⟨xj, rfl, fj, hpj, hzj⟩
  have h9 := hi'.sf.call fj
  have hz9 : Z4 s xj.de := hzj.mono hi'.sf.fr.1
  have hp9 := hpj
  have op9 := hp9.ones
  have r9 := h9.r
  repeat first
   |with_reducible first|apply vA|apply vB|apply vC
   |((with_reducible apply vD); (focus rfl))
   |((with_reducible first|apply vE|apply vF|apply vG|apply vH); simp only [Env.keep, Env.get, Env.ev, List.map, Nat.reduceEqDiff, ↓reduceIte, P0, N4])
   |((with_reducible first|apply vI|apply vJ|apply vK|apply vL|apply vM|apply vN); (focus (simp (disch := (first|with_reducible assumption|omega|((repeat (first|rw [nP]|rw [nS]))<;>omega)|fail)) only [go_sem, Env.ev, Env.get, ↓reduceIte, r9, op9, M4] <;> rfl)); (first|(with_reducible (first|apply vO|apply vP|apply vQ|apply vR|apply vS|apply vT|apply vU); try simp only [Env.put])|with_reducible refine (?_ : WQ _ _ _ _ _ _)))
   |fail
  exact ⟨.inr trivial, _, h9.res rfl, h9.fin hp9 hz9⟩
theorem c1c {s : M1} {m : MdX} {t : List Nd} {ch : List Ch} {names : List ByteArray} {vars : List Nat} (hm : a0g s m t ch) (ht : Y4 t) {p : Pr} {x : PrD} (hp : N8 s p x) (hi : W0 t ch.length p) (hpn : p.names = names) (hpv : p.vars = vars) {k frm to : Nat} (hfr : frm < p.places) (hto : to < p.places) (hk : k < t.length) (hK : (nd t k).kind = 12) {f : Nat}
 {g n : Nat} (hw : Q9 t g k = (n, true)) {N : Nat} (hl : Q2 p N) (hN : N + 4 * (n - k) <= 900000) (hS : ∀ b ∈ (nd t k).ks, (nd t b).kind = 16 -> ∀ c ∈ (nd t b).ks, a1c t ch.length names vars (N1 t (ch.map Ch.name) f) c /\ StG t (N1 t (ch.map Ch.name) f) c) (hB : ∀ b ∈ (nd t k).ks, (nd t b).kind = 16 -> a3V vfs 115 t ch names vars f b) :
 EvP vfs 88 [.agg (N6 m), .agg (M4 p x), .int .i64 (k : Int), .int .i64 (frm : Int), .int .i64 (to : Int)] s (StR s p (N1 t (ch.map Ch.name) (f + 1) p k frm to)) := by
 have hidx := hm.tr.at (z := (k : Int)) (by omega) (by omega) (k := .i64)
 rw [Int.toNat_natCast, hK] at hidx
 have on := a0o hm.tr hk
 have op := hp.ones
 have om := hm.ones
 have hl' : Q2 p 1000000 := a0w hl (by omega)
 have hno := ht.node k hk
 obtain ⟨g', rfl, hkf⟩ := a15 hw
 have hks := ht.ks hk
 obtain ⟨c1, c2, c3⟩ := hno.loop hK
 have k0 : N3 1 (nd t k).dk (.int .i64 0) = some (.fp [.int .i64 ((nd t k).kid 0 : Int)] 0) := a0d hm.tr ht hk (i := 0) (by omega)
 have k1 : N3 1 (nd t k).dk (.int .i64 1) = some (.fp [.int .i64 ((nd t k).kid 1 : Int)] 0) := a0d hm.tr ht hk (i := 1) (by omega)
 have m1 := X2 (x := nd t k) (i := 1) (by omega)
 have q0 := (hks _ (X2 (x := nd t k) (i := 0) (by omega))).2
 have hlk := FI.len (hm.tr.nd hk).k
 have hF : N1 t (ch.map Ch.name) (f + 1) p k frm to = V0 t (N1 t (ch.map Ch.name) f) ((p.place.put frm p.places 4 k ((nd t k).kid 0) (-1) (-1)).put frm to 5 k ((nd t k).kid 0) (-1) (-1)) ((nd t k).kid 1) p.places frm := by simp [N1, hK]
 rw [hF]
 obtain ⟨b1, u1, v1, v2, v3⟩ : ∃ b1, Q9 t g' ((nd t k).kid 1) = (b1, true) /\ k + 2 <= (nd t k).kid 1 /\ (nd t k).kid 1 < b1 /\ b1 <= n := by
  match hkk : (nd t k).kids, c1, hkf with
  | [z0, z1], _, hkf =>
    obtain ⟨e0, _, b0, _, s0, _, hkf⟩ := hkf.cons
    obtain ⟨e1, _, b1, w1, s1, _, hkf⟩ := hkf.cons
    have := hkf.nil
    have kk : (nd t k).kid 1 = b0 := by simp [Nd.kid, hkk, e1]
    rw [kk]
    exact ⟨b1, w1, by omega, s1, by omega⟩
 unfold N6 M4
 refine M8 (vf := a0b) rfl ?_
 unfold a0b; refine zE ?_
 try refine zW (aN hidx (aN on (aN op om))) ?_
 refine U3 (Φ := SF s m [.int .i64 12, (nd t k).dw, (nd t k).dn, (nd t k).dk, .int .i64 (nd t k).pos] (M4 p x)) ?_ ?_
 ·refine ⟨(((((Fr.push _).thenPush _).thenPush _).thenPush _).thenSet _ (.inr (by first | omega | (simp only [M1.next_push]; omega)))), by simp only [M1.next_push, M1.next_set]; omega, ?_, ?_, ?_, ?_⟩ <;> (simp (disch := (first|with_reducible assumption|omega|((repeat (first|rw [nP]|rw [nS]))<;>omega)|fail)) only [R7, O5, O9, P6, M1.next_push, M1.next_set]) <;> rfl
 intro s4 h4
 simp only [O8.at, M1.next_push, M1.next_set]
 apply S4 (a5e (hp.stay h4.fr) hl')
 ·rfl
 rintro r s5 ⟨x5, rfl, f5, hp5⟩
 have h5 := h4.call f5
 have op5 := hp5.ones
 have nx5 := h5.nx
 have n5 := h5.n
 have m5 := h5.m
 have i5 := a1G hi
 have g5 := a2h p
 have w5 : Q2 p.place (N + 1) := a0N hl (a1P p) (by omega)
 have e5 : p.place.places = p.places + 1 := rfl
 repeat first
  |with_reducible first|apply vA|apply vB|apply vC
  |((with_reducible apply vD); (focus rfl))
  |((with_reducible first|apply vE|apply vF|apply vG|apply vH); simp only [Env.keep, Env.get, Env.ev, List.map, Nat.reduceEqDiff, ↓reduceIte, P0, N4])
  |((with_reducible first|apply vI|apply vJ|apply vK|apply vL|apply vM|apply vN); (focus (simp (disch := (first|with_reducible assumption|omega|((repeat (first|rw [nP]|rw [nS]))<;>omega)|fail)) only [go_sem, Env.ev, Env.get, ↓reduceIte, n5, on, op5, M4, k0, k1] <;> rfl)); (first|(with_reducible (first|apply vO|apply vP|apply vQ|apply vR|apply vS|apply vT|apply vU); try simp only [Env.put])|with_reducible refine (?_ : WQ _ _ _ _ _ _)))
  |fail
 refine U3 (Φ := fun s' => SL s m _ _ s5.next (M4 p.place x5) s' /\ N8 s' p.place x5) ⟨SL.new h5, hp5.new⟩ ?_
 rintro s6 ⟨h6, hp6⟩
 have l6 := h6.l
 have n6 := h6.sf.n
 have m6 := h6.sf.m
 unfold M4 at l6
 unfold N6 at m6
 apply S4 (a1o (to := p.places) (act := 4) (expr := ((nd t k).kid 0 : Nat)) hp6 (a0w w5 (by omega)))
 ·rfl
 rintro r s7 ⟨x7, rfl, f7, hp7, -⟩
 have h7 := h6.call f7
 have op7 := hp7.ones
 have l7 := h7.l
 have n7 := h7.sf.n
 have m7 := h7.sf.m
 have lt7 := M7 l7
 have lo7 := h7.lo
 have nx7 := h7.sf.nx
 unfold M4 at l7
 unfold N6 at m7
 have i7 := a0z (node := k) i5 (a14 (.inl rfl) (frm := frm) (to := p.places) (Nat.lt_succ_of_lt hfr) (Nat.lt_succ_self _) q0 c2)
 have g7 := g5.trans (a0y p.place frm p.places 4 k ((nd t k).kid 0 : Nat) (-1) (-1))
 have w7 : Q2 (p.place.put frm p.places 4 k ((nd t k).kid 0 : Nat) (-1) (-1)) (N + 2) := a0N w5 (a0s _ _ _ _ _ _ _ _) (by omega)
 have e7 : (p.place.put frm p.places 4 k ((nd t k).kid 0 : Nat) (-1) (-1)).places = p.places + 1 := rfl
 generalize p.place.put frm p.places 4 k ((nd t k).kid 0 : Nat) (-1) (-1) = q7 at *
 have hp8 := hp7.set (o := some (.cells (M4 q7 x7))) l7
 have h8 : SL s m _ _ s5.next (M4 q7 x7) (s7.set s5.next (some (.cells (M4 q7 x7)))) := h7.setL
 repeat first
  |with_reducible first|apply vA|apply vB|apply vC
  |((with_reducible apply vD); (focus rfl))
  |((with_reducible first|apply vE|apply vF|apply vG|apply vH); simp only [Env.keep, Env.get, Env.ev, List.map, Nat.reduceEqDiff, ↓reduceIte, P0, N4])
  |((with_reducible first|apply vI|apply vJ|apply vK|apply vL|apply vM|apply vN); (focus (simp (disch := (first|with_reducible assumption|omega|((repeat (first|rw [nP]|rw [nS]))<;>omega)|fail)) only [go_sem, Env.ev, Env.get, ↓reduceIte, l7, n7, m7, on, om, op7, M4, k0, k1] <;> rfl)); (first|(with_reducible (first|apply vO|apply vP|apply vQ|apply vR|apply vS|apply vT|apply vU); try simp only [Env.put])|with_reducible refine (?_ : WQ _ _ _ _ _ _)))
  |fail
 refine U3 (Φ := fun s' => SL s m _ _ s5.next (M4 q7 x7) s' /\ N8 s' q7 x7) ⟨h8, hp8⟩ ?_
 rintro s9 ⟨h9, hp9⟩
 have l9 := h9.l
 have n9 := h9.sf.n
 have m9 := h9.sf.m
 unfold M4 at l9
 unfold N6 at m9
 apply S4 (a1o (to := to) (act := 5) (expr := ((nd t k).kid 0 : Nat)) hp9 (a0w w7 (by omega)))
 ·rfl
 rintro r sa ⟨xa, rfl, fa, hpa, -⟩
 have ha := h9.call fa
 have opa := hpa.ones
 have la := ha.l
 have na := ha.sf.n
 have ma := ha.sf.m
 have lta := M7 la
 have loa := ha.lo
 have nxa := ha.sf.nx
 unfold M4 at la
 unfold N6 at ma
 have ia := a0z (node := k) i7 (a14 (.inr rfl) (frm := frm) (to := to) (by omega) (by omega) q0 c2)
 have ga := g7.trans (a0y q7 frm to 5 k ((nd t k).kid 0 : Nat) (-1) (-1))
 have wa : Q2 (q7.put frm to 5 k ((nd t k).kid 0 : Nat) (-1) (-1)) (N + 3) := a0N w7 (a0s _ _ _ _ _ _ _ _) (by omega)
 have ea : (q7.put frm to 5 k ((nd t k).kid 0 : Nat) (-1) (-1)).places = p.places + 1 := e7
 generalize q7.put frm to 5 k ((nd t k).kid 0 : Nat) (-1) (-1) = qa at *
 have hpb := hpa.set (o := some (.cells (M4 qa xa))) la
 have hb : SL s m _ _ s5.next (M4 qa xa) (sa.set s5.next (some (.cells (M4 qa xa)))) := ha.setL
 repeat first
  |with_reducible first|apply vA|apply vB|apply vC
  |((with_reducible apply vD); (focus rfl))
  |((with_reducible first|apply vE|apply vF|apply vG|apply vH); simp only [Env.keep, Env.get, Env.ev, List.map, Nat.reduceEqDiff, ↓reduceIte, P0, N4])
  |((with_reducible first|apply vI|apply vJ|apply vK|apply vL|apply vM|apply vN); (focus (simp (disch := (first|with_reducible assumption|omega|((repeat (first|rw [nP]|rw [nS]))<;>omega)|fail)) only [go_sem, Env.ev, Env.get, ↓reduceIte, la, na, ma, on, om, opa, M4, k0, k1] <;> rfl)); (first|(with_reducible (first|apply vO|apply vP|apply vQ|apply vR|apply vS|apply vT|apply vU); try simp only [Env.put])|with_reducible refine (?_ : WQ _ _ _ _ _ _)))
  |fail
 refine U3 (Φ := fun s' => SL s m _ _ s5.next (M4 qa xa) s' /\ N8 s' qa xa) ⟨hb, hpb⟩ ?_
 rintro sc ⟨hc, hpc⟩
 have lc := hc.l
 have nc := hc.sf.n
 have mc := hc.sf.m
 unfold M4 at lc
 unfold N6 at mc
 try refine zW (aN lc (aN nc (aN mc (aN on (aN om (aN opa k1)))))) ?_
 apply S4 (hB _ m1 c3 _ _ u1 sc m qa xa p.places frm (hm.stay hc.sf.fr) hpc ia (ga.names.trans hpn) (ga.vars.trans hpv) (by omega) (by omega) _ wa (by omega))
 ·rfl
 rintro r sd ⟨xd, rfl, fd, hpd, hzd⟩
 have h9 := hc.sf.call fd
 have hz9 : Z4 s xd.de := hzd.mono hc.sf.fr.1
 have hp9 := hpd
 have op9 := hp9.ones
 have r9 := h9.r
 repeat first
  |with_reducible first|apply vA|apply vB|apply vC
  |((with_reducible apply vD); (focus rfl))
  |((with_reducible first|apply vE|apply vF|apply vG|apply vH); simp only [Env.keep, Env.get, Env.ev, List.map, Nat.reduceEqDiff, ↓reduceIte, P0, N4])
  |((with_reducible first|apply vI|apply vJ|apply vK|apply vL|apply vM|apply vN); (focus (simp (disch := (first|with_reducible assumption|omega|((repeat (first|rw [nP]|rw [nS]))<;>omega)|fail)) only [go_sem, Env.ev, Env.get, ↓reduceIte, r9, op9, M4] <;> rfl)); (first|(with_reducible (first|apply vO|apply vP|apply vQ|apply vR|apply vS|apply vT|apply vU); try simp only [Env.put])|with_reducible refine (?_ : WQ _ _ _ _ _ _)))
  |fail
 exact ⟨.inr trivial, _, h9.res rfl, h9.fin hp9 hz9⟩
end Go.Proofs.YtnjlhebkhjcagaaGreat
namespace Go.Proofs.YtnjlhebkhjcagaaGreat
open Go.V
set_option maxRecDepth 100000
set_option maxHeartbeats 4000000
theorem b7F {s : M1} {m : MdX} {t : List Nd} {ch : List Ch} {names : List ByteArray} {vars : List Nat} (hm : a0g s m t ch) (ht : Y4 t) {p : Pr} {x : PrD} (hp : N8 s p x) (hi : W0 t ch.length p) (hpn : p.names = names) (hpv : p.vars = vars) {k frm to : Nat} (hfr : frm < p.places) (hto : to < p.places) (hk : k < t.length) (hK : (nd t k).kind = 13) {f : Nat}
 {g n : Nat} (hw : Q9 t g k = (n, true)) {N : Nat} (hl : Q2 p N) (hN : N + 4 * (n - k) <= 900000) (hS : ∀ b ∈ (nd t k).ks, (nd t b).kind = 16 -> ∀ c ∈ (nd t b).ks, a1c t ch.length names vars (N1 t (ch.map Ch.name) f) c /\ StG t (N1 t (ch.map Ch.name) f) c) (hB : ∀ b ∈ (nd t k).ks, (nd t b).kind = 16 -> a3V vfs 115 t ch names vars f b) :
 EvP vfs 88 [.agg (N6 m), .agg (M4 p x), .int .i64 (k : Int), .int .i64 (frm : Int), .int .i64 (to : Int)] s (StR s p (N1 t (ch.map Ch.name) (f + 1) p k frm to)) := by
 have hidx := hm.tr.at (z := (k : Int)) (by omega) (by omega) (k := .i64)
 rw [Int.toNat_natCast, hK] at hidx
 have on := a0o hm.tr hk
 have op := hp.ones
 have om := hm.ones
 have hl' : Q2 p 1000000 := a0w hl (by omega)
 have hno := ht.node k hk
 obtain ⟨g', rfl, hkf⟩ := a15 hw
 have hks := ht.ks hk
 obtain ⟨c1, c2⟩ := hno.atom hK
 have k0 : N3 1 (nd t k).dk (.int .i64 0) = some (.fp [.int .i64 ((nd t k).kid 0 : Int)] 0) := a0d hm.tr ht hk (i := 0) (by omega)
 have m0 := X2 (x := nd t k) (i := 0) (by omega)
 have hF : N1 t (ch.map Ch.name) (f + 1) p k frm to = { V0 t (N1 t (ch.map Ch.name) f) p ((nd t k).kid 0) frm to with edges := a0v p.edges.length to (V0 t (N1 t (ch.map Ch.name) f) p ((nd t k).kid 0) frm to).edges } := by simp [N1, hK]
 rw [hF]
 obtain ⟨b1, u1, v1, v2, v3⟩ : ∃ b1, Q9 t g' ((nd t k).kid 0) = (b1, true) /\ k + 1 <= (nd t k).kid 0 /\ (nd t k).kid 0 < b1 /\ b1 <= n := by
  match hkk : (nd t k).kids, c1, hkf with
  | [z0], _, hkf =>
    obtain ⟨e0, _, b0, w0, s0, _, hkf⟩ := hkf.cons
    have := hkf.nil
    have kk : (nd t k).kid 0 = k + 1 := by simp [Nd.kid, hkk, e0]
    rw [kk]
    exact ⟨b0, w0, by omega, s0, by omega⟩
 have hel := hp.e.len
 rw [a2B] at hel
 unfold N6 M4
 refine M8 (vf := a0b) rfl ?_
 unfold a0b; refine zE ?_
 try refine zW (aN hidx (aN on (aN op (aN om (aN hel k0))))) ?_
 refine U3 (Φ := SF s m [.int .i64 13, (nd t k).dw, (nd t k).dn, (nd t k).dk, .int .i64 (nd t k).pos] (M4 p x)) ?_ ?_
 ·refine ⟨(((((Fr.push _).thenPush _).thenPush _).thenPush _).thenSet _ (.inr (by first | omega | (simp only [M1.next_push]; omega)))), by simp only [M1.next_push, M1.next_set]; omega, ?_, ?_, ?_, ?_⟩ <;> (simp (disch := (first|with_reducible assumption|omega|((repeat (first|rw [nP]|rw [nS]))<;>omega)|fail)) only [R7, O5, O9, P6, M1.next_push, M1.next_set]) <;> rfl
 intro s4 h4
 simp only [O8.at, M1.next_push, M1.next_set]
 apply S4 (hB _ m0 c2 _ _ u1 s4 m p x frm to (hm.stay h4.fr) (hp.stay h4.fr) hi hpn hpv hfr hto _ hl (by omega))
 ·rfl
 rintro r s5 ⟨x5, rfl, f5, hp5, hz5⟩
 have h5 := h4.call f5
 have op5 := hp5.ones
 have p5 := h5.p
 unfold M4 at p5
 have sb := a3r (b := (nd t k).kid 0) (frm := frm) (to := to) (fun c hc => (hS _ m0 c2 c hc).1) hi hpn hpv hfr hto
 have wb := a0N hl (a1D (p := p) (frm := frm) (to := to) (hks _ m0).2 u1 fun c hc => (hS _ m0 c2 c hc).2) (Nat.le_refl _)
 have hge : p.edges.length <= (V0 t (N1 t (ch.map Ch.name) f) p ((nd t k).kid 0) frm to).edges.length := by
  obtain ⟨l, hl⟩ := sb.2.edges
  rw [hl, List.length_append]; omega
 generalize V0 t (N1 t (ch.map Ch.name) f) p ((nd t k).kid 0) frm to = q at *
 have hel5 := wb.el
 have hp6 : N8 (s5.set (s.next + 1) (some (.cells (M4 q x5)))) q x5 := hp5.set p5
 have h6 : SF s m _ (M4 q x5) (s5.set (s.next + 1) (some (.cells (M4 q x5)))) := h5.setP
 have nx4 := h4.nx
 repeat first
  |with_reducible first|apply vA|apply vB|apply vC
  |((with_reducible apply vD); (focus rfl))
  |((with_reducible first|apply vE|apply vF|apply vG|apply vH); simp only [Env.keep, Env.get, Env.ev, List.map, Nat.reduceEqDiff, ↓reduceIte, P0, N4])
  |((with_reducible first|apply vI|apply vJ|apply vK|apply vL|apply vM|apply vN); (focus (simp (disch := (first|with_reducible assumption|omega|((repeat (first|rw [nP]|rw [nS]))<;>omega)|fail)) only [go_sem, Env.ev, Env.get, ↓reduceIte, p5, op5, M4] <;> rfl)); (first|(with_reducible (first|apply vO|apply vP|apply vQ|apply vR|apply vS|apply vT|apply vU); try simp only [Env.put])|with_reducible refine (?_ : WQ _ _ _ _ _ _)))
  |fail
 generalize hA : a0v p.edges.length to q.edges = A at *
 have hAl : A.length = q.edges.length := by rw [<- hA, b0G]
 refine S9 (Q := N4 3 _) (fun n' env s' => ∃ i : Nat, p.edges.length <= i /\ i <= q.edges.length /\ n' = q.edges.length - i /\ SF s m [.int .i64 13, (nd t k).dw, (nd t k).dn, (nd t k).dk, .int .i64 (nd t k).pos] (M4 q x5) s' /\ N8 s' { q with edges := Z9 A q.edges i } x5 /\ (env.get 4 = .int .i64 (to : Int) /\ env.get 6 = .ptr (s.next + 1) 0 /\ env.get 10 = .ptr (s.next + 2) 0 /\ env.get 21 = .int .i64 (i : Int))) ?_ (q.edges.length - p.edges.length) _ _ ⟨p.edges.length, Nat.le_refl _, hge, rfl, h6, by rw [<- hA, c1V hge]; exact hp6, by simp [Env.get]⟩
 clear h6 hp6
 rintro n' env s' ⟨i, hi1, hi2, rfl, h6, hp6, hE⟩
 have p6 := h6.p
 have r6 := h6.r
 unfold M4 at p6
 have hel6 := hp6.e.len
 rw [a2B, a48 hAl] at hel6
 by_cases cc : i < q.edges.length
 ·have cc' : ((i : Int) < (q.edges.length : Int)) = True := eq_true (by omega)
  have hs : IntKind.i64.wrap ((i : Int) + 1) = ((i + 1 : Nat) : Int) := by rw [O4 (by omega) (by omega)]; omega
  have hmi : i < (Z9 A q.edges i).length := by rw [a48 hAl]; exact cc
  obtain ⟨a1, a2, a3, a4, a5⟩ := hz5
  rcases hp6.e with ⟨h0, _⟩ | ⟨id, hde, hg⟩ | h0
  ·rw [a4] at h0; cases h0
  rotate_left
  ·rw [a4] at h0; cases h0
  ·have hidn : s4.next <= id := by
    rw [a4] at hde
    cases hde
    exact a5
   have hid := h6.nx
   rw [a2B, a48 hAl] at hde
   have hto' : (Q5 (Z9 A q.edges i)).flatten[i * 8 + 1]? = some (.int .i64 (q.edges[i].to : Int)) := by
    rw [b1v hmi (by decide), b23 hAl cc]; rfl
   have hix : N3 8 x5.de (.int .i64 (i : Int)) = some (.ptr id (i * 8)) := by
    rw [hde]
    simp only [N3]
    rw [if_pos ⟨trivial, by omega, by omega⟩]
    simp
   have hAi : A[i]'(by omega) = { q.edges[i] with keep := q.edges[i].to != to && q.edges[i].to != 1 } := by
    subst hA
    exact c23 cc hi1
   have key : ∀ b, (q.edges[i].to != to && q.edges[i].to != 1) = b -> SF s m [.int .i64 13, (nd t k).dw, (nd t k).dn, (nd t k).dk, .int .i64 (nd t k).pos] (M4 q x5) (s'.set id (some (.cells ((Q5 (Z9 A q.edges i)).flatten.set (i * 8 + 6) (.bool b))))) /\ N8 (s'.set id (some (.cells ((Q5 (Z9 A q.edges i)).flatten.set (i * 8 + 6) (.bool b))))) { q with edges := Z9 A q.edges (i + 1) } x5 := fun b hb => by
    refine ⟨h6.setO (by omega), ?_⟩
    have := hp6.edge (b := b) (i := i) hde hmi
    have e2 : (Z9 A q.edges i).set i { (Z9 A q.edges i)[i] with keep := b } = Z9 A q.edges (i + 1) := by
     rw [<- b5c hAl cc, hAi, hb, b23 hAl cc]
    simp only [e2] at this
    exact this
   have hfl : i * 8 + 6 < (Q5 (Z9 A q.edges i)).flatten.length := by rw [a4Y (a2V _), a2B, a48 hAl]; omega
   by_cases d1 : q.edges[i].to = to
   ·have d1' : ((q.edges[i].to : Int) != (to : Int)) = false := by rw [d1]; simp
    have kk := key false (by rw [d1]; simp)
    repeat first
    |(refine a5K (x := .bool false) hg hfl rfl ?_ rfl ?_; (focus (simp only [Env.ev, Env.get, Nat.reduceEqDiff, ↓reduceIte])))
    |refine zW (aN hE (aN p6 (aN hel6 (aN op5 (aN cc' (aN hix (aN hg (aN hto' (aN d1' hs))))))))) ?_
    exact ⟨q.edges.length - (i + 1), by omega, i + 1, by omega, by omega, rfl, kk.1, kk.2, (rG hE)⟩
   ·have d1' : ((q.edges[i].to : Int) != (to : Int)) = true := by rw [bne_iff_ne]; omega
    by_cases d2 : q.edges[i].to = 1
    ·have d2' : ((q.edges[i].to : Int) != 1) = false := by rw [d2]; rfl
     have kk := key false (by rw [d2]; simp)
     repeat first
     |(refine a5K (x := .bool false) hg hfl rfl ?_ rfl ?_; (focus (simp only [Env.ev, Env.get, Nat.reduceEqDiff, ↓reduceIte])))
     |refine zW (aN hE (aN p6 (aN hel6 (aN op5 (aN cc' (aN hix (aN hg (aN hto' (aN d1' (aN d2' hs)))))))))) ?_
     exact ⟨q.edges.length - (i + 1), by omega, i + 1, by omega, by omega, rfl, kk.1, kk.2, (rG hE)⟩
    ·have d2' : ((q.edges[i].to : Int) != 1) = true := by rw [bne_iff_ne]; omega
     have kk := key true (by rw [Bool.and_eq_true, bne_iff_ne, bne_iff_ne]; exact ⟨d1, d2⟩)
     repeat first
     |(refine a5K (x := .bool true) hg hfl rfl ?_ rfl ?_; (focus (simp only [Env.ev, Env.get, Nat.reduceEqDiff, ↓reduceIte])))
     |refine zW (aN hE (aN p6 (aN hel6 (aN op5 (aN cc' (aN hix (aN hg (aN hto' (aN d1' (aN d2' hs)))))))))) ?_
     exact ⟨q.edges.length - (i + 1), by omega, i + 1, by omega, by omega, rfl, kk.1, kk.2, (rG hE)⟩
 ·have cc' : ((i : Int) < (q.edges.length : Int)) = False := eq_false (by omega)
  obtain rfl : i = q.edges.length := by omega
  rw [b47 hAl] at hp6
  have hx : R9 env s' [] = some (.tup []) := rfl
  repeat first
   |with_reducible first|apply vA|apply vB|apply vC
   |((with_reducible apply vD); (focus rfl))
   |((with_reducible first|apply vE|apply vF|apply vG|apply vH); simp only [Env.keep, Env.get, Env.ev, List.map, Nat.reduceEqDiff, ↓reduceIte, P0, N4])
   |((with_reducible first|apply vI|apply vJ|apply vK|apply vL|apply vM|apply vN); (focus (simp (disch := (first|with_reducible assumption|omega|((repeat (first|rw [nP]|rw [nS]))<;>omega)|fail)) only [go_sem, Env.ev, Env.get, ↓reduceIte, hE, p6, r6, hel6, op5, cc', M4] <;> rfl)); (first|(with_reducible (first|apply vO|apply vP|apply vQ|apply vR|apply vS|apply vT|apply vU); try simp only [Env.put])|with_reducible refine (?_ : WQ _ _ _ _ _ _)))
   |fail
  refine ⟨.inr trivial, .agg (M4 { q with edges := A } x5), ?_, ?_⟩
  ·exact h6.res (q := { q with edges := A }) (x := x5) (by simp only [Env.get, Nat.reduceEqDiff, ↓reduceIte, hE])
  ·exact h6.fin (q := { q with edges := A }) hp6 (hz5.mono h4.fr.1)
theorem c0i {s : M1} {m : MdX} {t : List Nd} {ch : List Ch} {names : List ByteArray} {vars : List Nat} (hm : a0g s m t ch) (ht : Y4 t) {p : Pr} {x : PrD} (hp : N8 s p x) (hi : W0 t ch.length p) (hpn : p.names = names) (hpv : p.vars = vars) {k frm to : Nat} (hfr : frm < p.places) (hto : to < p.places) (hk : k < t.length) (hK : (nd t k).kind = 10) {f : Nat}
 {g n : Nat} (hw : Q9 t g k = (n, true)) {N : Nat} (hl : Q2 p N) (hN : N + 4 * (n - k) <= 900000) (hS : ∀ b ∈ (nd t k).ks, (nd t b).kind = 16 -> ∀ c ∈ (nd t b).ks, a1c t ch.length names vars (N1 t (ch.map Ch.name) f) c /\ StG t (N1 t (ch.map Ch.name) f) c) (hB : ∀ b ∈ (nd t k).ks, (nd t b).kind = 16 -> a3V vfs 115 t ch names vars f b) :
 EvP vfs 88 [.agg (N6 m), .agg (M4 p x), .int .i64 (k : Int), .int .i64 (frm : Int), .int .i64 (to : Int)] s (StR s p (N1 t (ch.map Ch.name) (f + 1) p k frm to)) := by
 have hidx := hm.tr.at (z := (k : Int)) (by omega) (by omega) (k := .i64)
 rw [Int.toNat_natCast, hK] at hidx
 have on := a0o hm.tr hk
 have op := hp.ones
 have om := hm.ones
 have hl' : Q2 p 1000000 := a0w hl (by omega)
 have hno := ht.node k hk
 obtain ⟨g', rfl, hkf⟩ := a15 hw
 have hks := ht.ks hk
 obtain ⟨c1, c2⟩ := hno.choose hK
 have hnl : (nd t k).nums.length = 1 := by rw [hno.nl, hK]; rfl
 have n0 : N3 1 (nd t k).dn (.int .i64 0) = some (.fp [.int .i64 ((nd t k).num 0)] 0) := a2n (hm.tr.nd hk) (i := 0) (by omega)
 have hlk := FI.len (hm.tr.nd hk).k
 have hkl := (hm.tr.nd hk).kl
 have hF : N1 t (ch.map Ch.name) (f + 1) p k frm to = Z1 t (N1 t (ch.map Ch.name) f) frm to (p.idle frm ((nd t k).num 0)) (nd t k).ks := by simp [N1, hK]
 rw [hF]
 have hrl : frm < p.rest.length := by rw [hi.rest]; exact hfr
 unfold N6 M4
 refine M8 (vf := a0b) rfl ?_
 unfold a0b; refine zE ?_
 try refine zW (aN hidx (aN on (aN op (aN om n0)))) ?_
 refine U3 (Φ := SF s m [.int .i64 10, (nd t k).dw, (nd t k).dn, (nd t k).dk, .int .i64 (nd t k).pos] (M4 p x)) ?_ ?_
 ·refine ⟨(((((Fr.push _).thenPush _).thenPush _).thenPush _).thenSet _ (.inr (by first | omega | (simp only [M1.next_push]; omega)))), by simp only [M1.next_push, M1.next_set]; omega, ?_, ?_, ?_, ?_⟩ <;> (simp (disch := (first|with_reducible assumption|omega|((repeat (first|rw [nP]|rw [nS]))<;>omega)|fail)) only [R7, O5, O9, P6, M1.next_push, M1.next_set]) <;> rfl
 intro s4 h4
 simp only [O8.at, M1.next_push, M1.next_set]
 apply S4 (a87 (hp.stay h4.fr) hl' hrl)
 ·rfl
 rintro r s5 ⟨x5, rfl, f5, hp5⟩
 have h5 := h4.call f5
 have op5 := hp5.ones
 have p5 := h5.p
 unfold M4 at p5
 have hp6 : N8 (s5.set (s.next + 1) (some (.cells (M4 (p.idle frm ((nd t k).num 0)) x5)))) (p.idle frm ((nd t k).num 0)) x5 := hp5.set p5
 have h6 : SF s m _ (M4 (p.idle frm ((nd t k).num 0)) x5) (s5.set (s.next + 1) (some (.cells (M4 (p.idle frm ((nd t k).num 0)) x5)))) := h5.setP
 have ip := a6m p frm ((nd t k).num 0)
 have hl6 : Q2 (p.idle frm ((nd t k).num 0)) N := a9f hl
 have i6 : W0 t ch.length (p.idle frm ((nd t k).num 0)) := b12 hi
 have g6 := b2V p frm ((nd t k).num 0)
 generalize p.idle frm ((nd t k).num 0) = q0 at *
 repeat first
  |with_reducible first|apply vA|apply vB|apply vC
  |((with_reducible apply vD); (focus rfl))
  |((with_reducible first|apply vE|apply vF|apply vG|apply vH); simp only [Env.keep, Env.get, Env.ev, List.map, Nat.reduceEqDiff, ↓reduceIte, P0, N4])
  |((with_reducible first|apply vI|apply vJ|apply vK|apply vL|apply vM|apply vN); (focus (simp (disch := (first|with_reducible assumption|omega|((repeat (first|rw [nP]|rw [nS]))<;>omega)|fail)) only [go_sem, Env.ev, Env.get, ↓reduceIte, p5, op5, M4] <;> rfl)); (first|(with_reducible (first|apply vO|apply vP|apply vQ|apply vR|apply vS|apply vT|apply vU); try simp only [Env.put])|with_reducible refine (?_ : WQ _ _ _ _ _ _)))
  |fail
 refine S9 (Q := N4 1 _) (fun n' env s' => ∃ (j : Nat) (q : Pr) (x : PrD) (a : Nat), j <= (nd t k).kids.length /\ n' = (nd t k).kids.length - j /\ SF s m [.int .i64 10, (nd t k).dw, (nd t k).dn, (nd t k).dk, .int .i64 (nd t k).pos] (M4 q x) s' /\ N8 s' q x /\ W0 t ch.length q /\ a0x p q /\ KF t g' ((nd t k).kids.drop j) a n /\ Q2 q (N + 4 * (a - (k + 1))) /\ (j = 0 ∨ Z4 s x.de) /\ Z1 t (N1 t (ch.map Ch.name) f) frm to q0 (nd t k).ks = Z1 t (N1 t (ch.map Ch.name) f) frm to q (((nd t k).kids.drop j).map Int.toNat) /\
  (env.get 2 = .int .i64 (k : Int) /\ env.get 3 = .int .i64 (frm : Int) /\ env.get 4 = .int .i64 (to : Int) /\ env.get 5 = .ptr s.next 0 /\ env.get 6 = .ptr (s.next + 1) 0 /\ env.get 10 = .ptr (s.next + 2) 0 /\ env.get 11 = .ptr (s.next + 3) 0 /\ env.get 12 = .int .i64 (j : Int))) ?_ (nd t k).kids.length _ _ ⟨0, q0, x5, k + 1, by omega, rfl, h6, hp6, i6, g6, hkf, a0w hl6 (by omega), .inl rfl, rfl, by simp [Env.get]⟩
 clear h6 hp6 op5 p5 hp5 h5
 rintro n' env s' ⟨j, q, xq, a, hj, rfl, h6, hp6, iq, gq, hkq, wq, hzq, hch, hE⟩
 have p6 := h6.p
 have r6 := h6.r
 have n6 := h6.n
 have m6 := h6.m
 have nx6 := h6.nx
 unfold M4 at p6
 unfold N6 at m6
 have opq := hp6.ones
 by_cases cc : j < (nd t k).kids.length
 ·have cc' : ((j : Int) < ((nd t k).kids.length : Int)) = True := eq_true (by omega)
  have hs := a1v cc hkl
  rw [List.drop_eq_getElem_cons cc] at hkq hch
  obtain ⟨ea, qa, b, wb, lb, lb2, hkf'⟩ := hkq.cons
  have hle' := hkf'.le
  have ka : N3 1 (nd t k).dk (.int .i64 (j : Int)) = some (.fp [.int .i64 (a : Int)] 0) := by
   rw [FI.idx (hm.tr.nd hk).k cc (k := .i64), ea]
  have hbm : a ∈ (nd t k).ks := by
   have := List.mem_map_of_mem (f := Int.toNat) (List.getElem_mem cc)
   rw [ea, Int.toNat_natCast] at this
   exact this
  have hab := hks a hbm
  have hb16 := c2 a hbm
  have hadx := hm.tr.at (z := (a : Int)) (by omega) (by omega) (k := .i64)
  rw [Int.toNat_natCast] at hadx
  have ona := a0o hm.tr hab.2
  have hlb := FI.len (hm.tr.nd hab.2).k
  have gp := gq.places
  rw [List.map_cons, Z1, ea, Int.toNat_natCast] at hch
  by_cases cl : a4G t a = true
  ·rw [if_pos cl] at hch
   have hk0 : 0 < (nd t a).kids.length := by
    unfold a4G at cl
    rw [<- a0n]
    cases hks' : (nd t a).ks with
    | nil => rw [hks'] at cl; cases cl
    | cons y ys => simp
   have k12 : (nd t ((nd t a).kid 0)).kind = 12 := by
    unfold a4G at cl
    have : (nd t a).ks = (nd t a).kid 0 :: (nd t a).ks.tail := by
     unfold Nd.ks Nd.kid
     cases hks' : (nd t a).kids with
     | nil => rw [hks'] at hk0; simp at hk0
     | cons y ys => simp
    rw [this] at cl
    simpa using cl
   have hk0' : ((0 : Int) < ((nd t a).kids.length : Int)) = True := eq_true (by omega)
   have ka0 : N3 1 (nd t a).dk (.int .i64 0) = some (.fp [.int .i64 ((nd t a).kid 0 : Int)] 0) := a0d hm.tr ht hab.2 (i := 0) hk0
   have hkk0 := ht.ks hab.2 _ (X2 (x := nd t a) (i := 0) hk0)
   have hcdx := hm.tr.at (z := ((nd t a).kid 0 : Int)) (by omega) (by omega) (k := .i64)
   rw [Int.toNat_natCast, k12] at hcdx
   have onc := a0o hm.tr hkk0.2
   try refine zW (aN hE (aN n6 (aN m6 (aN p6 (aN on (aN om (aN hlk (aN cc' (aN ka (aN hadx (aN ona (aN hlb (aN hk0' (aN ka0 (aN hcdx (aN onc opq)))))))))))))))) ?_
   refine U3 (Φ := fun s2 => SF s m [.int .i64 10, (nd t k).dw, (nd t k).dn, (nd t k).dk, .int .i64 (nd t k).pos] (M4 q xq) s2 /\ N8 s2 q xq) ⟨(h6.call (Fr.push (ids := []) _)).setO (by omega), hp6.stay ((Fr.push (ids := []) _).thenSet _ (.inr (Nat.le_refl _)))⟩ ?_
   rintro s2 ⟨h2, hp2⟩
   apply S4 (a5e hp2 (a0w wq (by omega)))
   ·simp only [Env.evL, Env.ev, Env.get, Nat.reduceEqDiff, ↓reduceIte, hE]; rfl
   rintro r s7 ⟨x7, rfl, f7, hp7⟩
   have h7 := h2.call f7
   have op7 := hp7.ones
   have p7 := h7.p
   have n7 := h7.n
   have nx7 := h7.nx
   unfold M4 at p7
   have hp8 : N8 (s7.set (s.next + 1) (some (.cells (M4 q.place x7)))) q.place x7 := hp7.set p7
   have h8 : SF s m [.int .i64 10, (nd t k).dw, (nd t k).dn, (nd t k).dk, .int .i64 (nd t k).pos] (M4 q.place x7) (s7.set (s.next + 1) (some (.cells (M4 q.place x7)))) := h7.setP
   have w8 := a0N wq (a1P q) (Nat.le_refl _)
   repeat first
    |with_reducible first|apply vA|apply vB|apply vC
    |((with_reducible apply vD); (focus rfl))
    |((with_reducible first|apply vE|apply vF|apply vG|apply vH); simp only [Env.keep, Env.get, Env.ev, List.map, Nat.reduceEqDiff, ↓reduceIte, P0, N4])
    |((with_reducible first|apply vI|apply vJ|apply vK|apply vL|apply vM|apply vN); (focus (simp (disch := (first|with_reducible assumption|omega|((repeat (first|rw [nP]|rw [nS]))<;>omega)|fail)) only [go_sem, Env.ev, Env.get, ↓reduceIte, hE, p7, n7, op7, M4, on, ka] <;> rfl)); (first|(with_reducible (first|apply vO|apply vP|apply vQ|apply vR|apply vS|apply vT|apply vU); try simp only [Env.put])|with_reducible refine (?_ : WQ _ _ _ _ _ _)))
    |fail
   refine U3 (Φ := fun s2 => SF s m [.int .i64 10, (nd t k).dw, (nd t k).dn, (nd t k).dk, .int .i64 (nd t k).pos] (M4 q.place x7) s2 /\ N8 s2 q.place x7) ⟨h8, hp8⟩ ?_
   rintro s8 ⟨h8, hp8⟩
   have p8 := h8.p
   have n8 := h8.n
   unfold M4 at p8
   try refine zW (aN hE (aN p8 (aN n8 (aN op7 (aN on ka))))) ?_
   apply S4 (a1o (to := q.places) (act := 0) (node := a) hp8 (a0w w8 (by omega)))
   ·simp only [Env.evL, Env.ev, Env.get, Nat.reduceEqDiff, ↓reduceIte, hE]; rfl
   rintro r s9 ⟨x9, rfl, f9, hp9, -⟩
   have h9 := h8.call f9
   have op9 := hp9.ones
   have p9 := h9.p
   have n9 := h9.n
   have m9 := h9.m
   have nx9 := h9.nx
   unfold M4 at p9
   unfold N6 at m9
   have w9 := a0N w8 (a0s q.place frm q.places 0 a (-1) (-1) (-1)) (Nat.le_refl _)
   have i9 := a0z (node := a) (a1G iq) (a5a (frm := frm) (to := q.places) (Nat.lt_succ_of_lt (by omega)) (Nat.lt_succ_self _))
   have g9 := (gq.trans (a2h q)).trans (a0y q.place frm q.places 0 a (-1) (-1) (-1))
   have e9 : (q.place.put frm q.places 0 a (-1) (-1) (-1)).places = q.places + 1 := rfl
   have hpA : N8 (s9.set (s.next + 1) (some (.cells (M4 (q.place.put frm q.places 0 a (-1) (-1) (-1)) x9)))) (q.place.put frm q.places 0 a (-1) (-1) (-1)) x9 := hp9.set p9
   have hA : SF s m [.int .i64 10, (nd t k).dw, (nd t k).dn, (nd t k).dk, .int .i64 (nd t k).pos] (M4 (q.place.put frm q.places 0 a (-1) (-1) (-1)) x9) (s9.set (s.next + 1) (some (.cells (M4 (q.place.put frm q.places 0 a (-1) (-1) (-1)) x9)))) := h9.setP
   generalize q.place.put frm q.places 0 a (-1) (-1) (-1) = q9 at *
   repeat first
    |with_reducible first|apply vA|apply vB|apply vC
    |((with_reducible apply vD); (focus rfl))
    |((with_reducible first|apply vE|apply vF|apply vG|apply vH); simp only [Env.keep, Env.get, Env.ev, List.map, Nat.reduceEqDiff, ↓reduceIte, P0, N4])
    |((with_reducible first|apply vI|apply vJ|apply vK|apply vL|apply vM|apply vN); (focus (simp (disch := (first|with_reducible assumption|omega|((repeat (first|rw [nP]|rw [nS]))<;>omega)|fail)) only [go_sem, Env.ev, Env.get, ↓reduceIte, hE, p9, n9, m9, op9, M4, on, om, ka] <;> rfl)); (first|(with_reducible (first|apply vO|apply vP|apply vQ|apply vR|apply vS|apply vT|apply vU); try simp only [Env.put])|with_reducible refine (?_ : WQ _ _ _ _ _ _)))
    |fail
   refine U3 (Φ := fun s2 => SF s m [.int .i64 10, (nd t k).dw, (nd t k).dn, (nd t k).dk, .int .i64 (nd t k).pos] (M4 q9 x9) s2 /\ N8 s2 q9 x9) ⟨hA, hpA⟩ ?_
   rintro sB ⟨hB', hpB⟩
   have pB := hB'.p
   have nB := hB'.n
   have mB := hB'.m
   unfold M4 at pB
   unfold N6 at mB
   try refine zW (aN hE (aN pB (aN nB (aN mB (aN op9 (aN on (aN om ka))))))) ?_
   apply S4 (hB _ hbm hb16 _ _ wb sB m q9 x9 q.places to (hm.stay hB'.fr) hpB i9 (g9.names.trans hpn) (g9.vars.trans hpv) (by omega) (by omega) _ w9 (by omega))
   ·simp only [Env.evL, Env.ev, Env.get, Nat.reduceEqDiff, ↓reduceIte, hE]; rfl
   rintro r sz ⟨xz, rfl, fz, hpz, hzz⟩
   have hz := hB'.call fz
   have opz := hpz.ones
   have pz := hz.p
   unfold M4 at pz
   have sbk := a3r (b := a) (frm := q.places) (to := to) (fun c hc => (hS _ hbm hb16 c hc).1) i9 (g9.names.trans hpn) (g9.vars.trans hpv) (by omega) (by omega)
   have wz := a0N w9 (a1D (p := q9) (frm := q.places) (to := to) (hks _ hbm).2 wb fun c hc => (hS _ hbm hb16 c hc).2) (Nat.le_refl _)
   have hch2 : Z1 t (N1 t (ch.map Ch.name) f) frm to q0 (nd t k).ks = Z1 t (N1 t (ch.map Ch.name) f) frm to (V0 t (N1 t (ch.map Ch.name) f) q9 a q.places to) (((nd t k).kids.drop (j + 1)).map Int.toNat) := hch
   generalize V0 t (N1 t (ch.map Ch.name) f) q9 a q.places to = qz at *
   have hpz6 : N8 (sz.set (s.next + 1) (some (.cells (M4 qz xz)))) qz xz := hpz.set pz
   have hz6 : SF s m _ (M4 qz xz) (sz.set (s.next + 1) (some (.cells (M4 qz xz)))) := hz.setP
   repeat first
    |with_reducible first|apply vA|apply vB|apply vC
    |((with_reducible apply vD); (focus rfl))
    |((with_reducible first|apply vE|apply vF|apply vG|apply vH); simp only [Env.keep, Env.get, Env.ev, List.map, Nat.reduceEqDiff, ↓reduceIte, P0, N4])
    |((with_reducible first|apply vI|apply vJ|apply vK|apply vL|apply vM|apply vN); (focus (simp (disch := (first|with_reducible assumption|omega|((repeat (first|rw [nP]|rw [nS]))<;>omega)|fail)) only [go_sem, Env.ev, Env.get, ↓reduceIte, hE, pz, opz, M4, hs] <;> rfl)); (first|(with_reducible (first|apply vO|apply vP|apply vQ|apply vR|apply vS|apply vT|apply vU); try simp only [Env.put])|with_reducible refine (?_ : WQ _ _ _ _ _ _)))
    |fail
   exact ⟨(nd t k).kids.length - (j + 1), by omega, j + 1, qz, xz, b, by omega, rfl, hz6, hpz6, sbk.1, g9.trans sbk.2, hkf', a0w wz (by omega), .inr (hzz.mono hB'.fr.1), hch2, (rG hE)⟩
  ·rw [if_neg cl] at hch
   by_cases ck : 0 < (nd t a).kids.length
   ·have hk0' : ((0 : Int) < ((nd t a).kids.length : Int)) = True := eq_true (by omega)
    have ka0 : N3 1 (nd t a).dk (.int .i64 0) = some (.fp [.int .i64 ((nd t a).kid 0 : Int)] 0) := a0d hm.tr ht hab.2 (i := 0) ck
    have hkk0 := ht.ks hab.2 _ (X2 (x := nd t a) (i := 0) ck)
    have hcdx := hm.tr.at (z := ((nd t a).kid 0 : Int)) (by omega) (by omega) (k := .i64)
    rw [Int.toNat_natCast] at hcdx
    have onc := a0o hm.tr hkk0.2
    have k12 : ((nd t ((nd t a).kid 0)).kind == 12) = false := by
     unfold a4G at cl
     have : (nd t a).ks = (nd t a).kid 0 :: (nd t a).ks.tail := by
      unfold Nd.ks Nd.kid
      cases hks' : (nd t a).kids with
      | nil => rw [hks'] at ck; simp at ck
      | cons y ys => simp
     rw [this] at cl
     simpa using cl
    try refine zW (aN hE (aN n6 (aN m6 (aN p6 (aN on (aN om (aN hlk (aN cc' (aN ka (aN hadx (aN ona (aN hlb (aN hk0' (aN ka0 (aN hcdx (aN onc (aN k12 opq))))))))))))))))) ?_
    refine U3 (Φ := fun s2 => SF s m [.int .i64 10, (nd t k).dw, (nd t k).dn, (nd t k).dk, .int .i64 (nd t k).pos] (M4 q xq) s2 /\ N8 s2 q xq) ⟨(h6.call (Fr.push (ids := []) _)).setO (by omega), hp6.stay ((Fr.push (ids := []) _).thenSet _ (.inr (Nat.le_refl _)))⟩ ?_
    rintro s2 ⟨h2, hp2⟩
    apply S4 (hB _ hbm hb16 _ _ wb s2 m q xq frm to (hm.stay h2.fr) hp2 iq (gq.names.trans hpn) (gq.vars.trans hpv) (by omega) (by omega) _ wq (by omega))
    ·simp only [Env.evL, Env.ev, Env.get, Nat.reduceEqDiff, ↓reduceIte, hE]; rfl
    rintro r sz ⟨xz, rfl, fz, hpz, hzz⟩
    have hz := h2.call fz
    have opz := hpz.ones
    have pz := hz.p
    unfold M4 at pz
    have sbk := a3r (b := a) (frm := frm) (to := to) (fun c hc => (hS _ hbm hb16 c hc).1) iq (gq.names.trans hpn) (gq.vars.trans hpv) (by omega) (by omega)
    have wz := a0N wq (a1D (p := q) (frm := frm) (to := to) (hks _ hbm).2 wb fun c hc => (hS _ hbm hb16 c hc).2) (Nat.le_refl _)
    have hch2 : Z1 t (N1 t (ch.map Ch.name) f) frm to q0 (nd t k).ks = Z1 t (N1 t (ch.map Ch.name) f) frm to (V0 t (N1 t (ch.map Ch.name) f) q a frm to) (((nd t k).kids.drop (j + 1)).map Int.toNat) := hch
    generalize V0 t (N1 t (ch.map Ch.name) f) q a frm to = qz at *
    have hpz6 : N8 (sz.set (s.next + 1) (some (.cells (M4 qz xz)))) qz xz := hpz.set pz
    have hz6 : SF s m _ (M4 qz xz) (sz.set (s.next + 1) (some (.cells (M4 qz xz)))) := hz.setP
    repeat first
     |with_reducible first|apply vA|apply vB|apply vC
     |((with_reducible apply vD); (focus rfl))
     |((with_reducible first|apply vE|apply vF|apply vG|apply vH); simp only [Env.keep, Env.get, Env.ev, List.map, Nat.reduceEqDiff, ↓reduceIte, P0, N4])
     |((with_reducible first|apply vI|apply vJ|apply vK|apply vL|apply vM|apply vN); (focus (simp (disch := (first|with_reducible assumption|omega|((repeat (first|rw [nP]|rw [nS]))<;>omega)|fail)) only [go_sem, Env.ev, Env.get, ↓reduceIte, hE, pz, opz, M4, hs] <;> rfl)); (first|(with_reducible (first|apply vO|apply vP|apply vQ|apply vR|apply vS|apply vT|apply vU); try simp only [Env.put])|with_reducible refine (?_ : WQ _ _ _ _ _ _)))
     |fail
    exact ⟨(nd t k).kids.length - (j + 1), by omega, j + 1, qz, xz, b, by omega, rfl, hz6, hpz6, sbk.1, gq.trans sbk.2, hkf', a0w wz (by omega), .inr (hzz.mono h2.fr.1), hch2, (rG hE)⟩
   ·have hk0' : ((0 : Int) < ((nd t a).kids.length : Int)) = False := eq_false (by omega)
    try refine zW (aN hE (aN n6 (aN m6 (aN p6 (aN on (aN om (aN hlk (aN cc' (aN ka (aN hadx (aN ona (aN hlb (aN hk0' opq))))))))))))) ?_
    refine U3 (Φ := fun s2 => SF s m [.int .i64 10, (nd t k).dw, (nd t k).dn, (nd t k).dk, .int .i64 (nd t k).pos] (M4 q xq) s2 /\ N8 s2 q xq) ⟨(h6.call (Fr.push (ids := []) _)).setO (by omega), hp6.stay ((Fr.push (ids := []) _).thenSet _ (.inr (Nat.le_refl _)))⟩ ?_
    rintro s2 ⟨h2, hp2⟩
    apply S4 (hB _ hbm hb16 _ _ wb s2 m q xq frm to (hm.stay h2.fr) hp2 iq (gq.names.trans hpn) (gq.vars.trans hpv) (by omega) (by omega) _ wq (by omega))
    ·simp only [Env.evL, Env.ev, Env.get, Nat.reduceEqDiff, ↓reduceIte, hE]; rfl
    rintro r sz ⟨xz, rfl, fz, hpz, hzz⟩
    have hz := h2.call fz
    have opz := hpz.ones
    have pz := hz.p
    unfold M4 at pz
    have sbk := a3r (b := a) (frm := frm) (to := to) (fun c hc => (hS _ hbm hb16 c hc).1) iq (gq.names.trans hpn) (gq.vars.trans hpv) (by omega) (by omega)
    have wz := a0N wq (a1D (p := q) (frm := frm) (to := to) (hks _ hbm).2 wb fun c hc => (hS _ hbm hb16 c hc).2) (Nat.le_refl _)
    have hch2 : Z1 t (N1 t (ch.map Ch.name) f) frm to q0 (nd t k).ks = Z1 t (N1 t (ch.map Ch.name) f) frm to (V0 t (N1 t (ch.map Ch.name) f) q a frm to) (((nd t k).kids.drop (j + 1)).map Int.toNat) := hch
    generalize V0 t (N1 t (ch.map Ch.name) f) q a frm to = qz at *
    have hpz6 : N8 (sz.set (s.next + 1) (some (.cells (M4 qz xz)))) qz xz := hpz.set pz
    have hz6 : SF s m _ (M4 qz xz) (sz.set (s.next + 1) (some (.cells (M4 qz xz)))) := hz.setP
    repeat first
     |with_reducible first|apply vA|apply vB|apply vC
     |((with_reducible apply vD); (focus rfl))
     |((with_reducible first|apply vE|apply vF|apply vG|apply vH); simp only [Env.keep, Env.get, Env.ev, List.map, Nat.reduceEqDiff, ↓reduceIte, P0, N4])
     |((with_reducible first|apply vI|apply vJ|apply vK|apply vL|apply vM|apply vN); (focus (simp (disch := (first|with_reducible assumption|omega|((repeat (first|rw [nP]|rw [nS]))<;>omega)|fail)) only [go_sem, Env.ev, Env.get, ↓reduceIte, hE, pz, opz, M4, hs] <;> rfl)); (first|(with_reducible (first|apply vO|apply vP|apply vQ|apply vR|apply vS|apply vT|apply vU); try simp only [Env.put])|with_reducible refine (?_ : WQ _ _ _ _ _ _)))
     |fail
    exact ⟨(nd t k).kids.length - (j + 1), by omega, j + 1, qz, xz, b, by omega, rfl, hz6, hpz6, sbk.1, gq.trans sbk.2, hkf', a0w wz (by omega), .inr (hzz.mono h2.fr.1), hch2, (rG hE)⟩
 ·have cc' : ((j : Int) < ((nd t k).kids.length : Int)) = False := eq_false (by omega)
  rw [List.drop_eq_nil_of_le (by omega)] at hch
  have hz9 : Z4 s xq.de := by
   rcases hzq with h | h
   ·omega
   ·exact h
  rw [hch]
  repeat first
   |with_reducible first|apply vA|apply vB|apply vC
   |((with_reducible apply vD); (focus rfl))
   |((with_reducible first|apply vE|apply vF|apply vG|apply vH); simp only [Env.keep, Env.get, Env.ev, List.map, Nat.reduceEqDiff, ↓reduceIte, P0, N4])
   |((with_reducible first|apply vI|apply vJ|apply vK|apply vL|apply vM|apply vN); (focus (simp (disch := (first|with_reducible assumption|omega|((repeat (first|rw [nP]|rw [nS]))<;>omega)|fail)) only [go_sem, Env.ev, Env.get, ↓reduceIte, hE, n6, m6, p6, r6, on, om, hlk, cc', opq, M4] <;> rfl)); (first|(with_reducible (first|apply vO|apply vP|apply vQ|apply vR|apply vS|apply vT|apply vU); try simp only [Env.put])|with_reducible refine (?_ : WQ _ _ _ _ _ _)))
   |fail
  exact ⟨.inr trivial, .agg (M4 q xq), h6.res (by simp only [Env.get, Nat.reduceEqDiff, ↓reduceIte, hE]), h6.fin hp6 hz9⟩
end Go.Proofs.YtnjlhebkhjcagaaGreat
namespace Go.Proofs.YtnjlhebkhjcagaaGreat
open Go.V
set_option maxRecDepth 100000
set_option maxHeartbeats 4000000
theorem a7B {t : List Nd} {ch : List Ch} {names : List ByteArray} {vars : List Nat} {f g node : Nat} : ∀ (ks : List Int) (dk : D) (a n : Nat), KF t g ks a n -> FI dk ks -> (∀ c ∈ ks.map Int.toNat, a6e vfs 88 t ch names vars f c /\ a1c t ch.length names vars (N1 t (ch.map Ch.name) f) c /\ StG t (N1 t (ch.map Ch.name) f) c) ->
 ∀ (s : M1) (m : MdX) (p : Pr) (x : PrD) (frm to : Nat), a0g s m t ch -> N8 s p x -> W0 t ch.length p -> p.names = names -> p.vars = vars -> frm < p.places -> to < p.places -> ∀ N, Q2 p N -> N + 4 * (n - a) + 1 <= 900000 ->
 EvP vfs 59 [.agg (N6 m), .agg (M4 p x), dk, .int .i64 (node : Int), .int .i64 (frm : Int), .int .i64 (to : Int)] s (StR s p (a1t (N1 t (ch.map Ch.name) f) node p (ks.map Int.toNat) frm to))
 | [], dk, a, n, hkf, hdk, hS, s, m, p, x, frm, to, hm, hp, hi, hpn, hpv, hfr, hto, N, hl, hN => by
   have hlen := FI.len hdk
   have l0 : (((([] : List Int).length : Nat) : Int) == 0) = true := rfl
   have op := hp.ones
   have om := hm.ones
   have hl' : Q2 p 1000000 := a0w hl (by omega)
   show EvP _ _ _ _ (StR s p (p.put frm to 0 node (-1) (-1) (-1)))
   unfold N6 M4
   refine M8 (vf := a3p) rfl ?_
   unfold a3p; refine zE ?_
   try refine zW (aN op (aN om (aN hlen l0))) ?_
   refine U3 (Φ := S3 s m (M4 p x)) ?_ ?_
   ·refine ⟨((Fr.push _).thenPush _).thenPush _, by simp only [M1.next_push]; omega, ?_, ?_, ?_⟩ <;> (simp (disch := (first|with_reducible assumption|omega|((repeat (first|rw [nP]|rw [nS]))<;>omega)|fail)) only [R7, O5, O9, P6, M1.next_push, M1.next_set]) <;> rfl
   intro s4 h4
   simp only [O8.at, M1.next_push]
   apply S4 (a1o (act := 0) (hp.stay h4.fr) hl')
   ·rfl
   rintro r s9 ⟨x9, rfl, f9, hp9, id9, e9, z9⟩
   have h9 := h4.call f9
   have hz9 : Z4 s x9.de := a2I e9 z9 h4.fr.1
   have op9 := hp9.ones
   have r9 := h9.r
   repeat first
    |with_reducible first|apply vA|apply vB|apply vC
    |((with_reducible apply vD); (focus rfl))
    |((with_reducible first|apply vE|apply vF|apply vG|apply vH); simp only [Env.keep, Env.get, Env.ev, List.map, Nat.reduceEqDiff, ↓reduceIte, P0, N4])
    |((with_reducible first|apply vI|apply vJ|apply vK|apply vL|apply vM|apply vN); (focus (simp (disch := (first|with_reducible assumption|omega|((repeat (first|rw [nP]|rw [nS]))<;>omega)|fail)) only [go_sem, Env.ev, Env.get, ↓reduceIte, r9, op9, M4] <;> rfl)); (first|(with_reducible (first|apply vO|apply vP|apply vQ|apply vR|apply vS|apply vT|apply vU); try simp only [Env.put])|with_reducible refine (?_ : WQ _ _ _ _ _ _)))
    |fail
   exact ⟨.inr trivial, _, h9.res rfl, h9.fin hp9 hz9⟩
 | [z], dk, a, n, hkf, hdk, hS, s, m, p, x, frm, to, hm, hp, hi, hpn, hpv, hfr, hto, N, hl, hN => by
   obtain ⟨rfl, q1, b, wb, lb, lb2, hkf⟩ := hkf.cons
   obtain rfl := hkf.nil
   have hlen := FI.len hdk
   have l0 : ((([(a : Int)].length : Nat) : Int) == 0) = false := rfl
   have l1 : ((([(a : Int)].length : Nat) : Int) == 1) = true := rfl
   have ki : N3 1 dk (.int .i64 0) = some (.fp [.int .i64 (a : Int)] 0) := FI.idx hdk (i := 0) (by simp)
   have op := hp.ones
   have om := hm.ones
   obtain ⟨hst, -, -⟩ := hS a (by simp)
   show EvP _ _ _ _ (StR s p (N1 t (ch.map Ch.name) f p a frm to))
   unfold N6 M4
   refine M8 (vf := a3p) rfl ?_
   unfold a3p; refine zE ?_
   try refine zW (aN op (aN om (aN hlen (aN l0 (aN l1 ki))))) ?_
   refine U3 (Φ := S3 s m (M4 p x)) ?_ ?_
   ·refine ⟨((Fr.push _).thenPush _).thenPush _, by simp only [M1.next_push]; omega, ?_, ?_, ?_⟩ <;> (simp (disch := (first|with_reducible assumption|omega|((repeat (first|rw [nP]|rw [nS]))<;>omega)|fail)) only [R7, O5, O9, P6, M1.next_push, M1.next_set]) <;> rfl
   intro s4 h4
   simp only [O8.at, M1.next_push]
   apply S4 (hst _ _ wb s4 m p x frm to (hm.stay h4.fr) (hp.stay h4.fr) hi hpn hpv hfr hto N hl (by omega))
   ·rfl
   rintro r s9 ⟨x9, rfl, f9, hp9, hzz⟩
   have h9 := h4.call f9
   have hz9 : Z4 s x9.de := hzz.mono h4.fr.1
   have op9 := hp9.ones
   have r9 := h9.r
   repeat first
    |with_reducible first|apply vA|apply vB|apply vC
    |((with_reducible apply vD); (focus rfl))
    |((with_reducible first|apply vE|apply vF|apply vG|apply vH); simp only [Env.keep, Env.get, Env.ev, List.map, Nat.reduceEqDiff, ↓reduceIte, P0, N4])
    |((with_reducible first|apply vI|apply vJ|apply vK|apply vL|apply vM|apply vN); (focus (simp (disch := (first|with_reducible assumption|omega|((repeat (first|rw [nP]|rw [nS]))<;>omega)|fail)) only [go_sem, Env.ev, Env.get, ↓reduceIte, r9, op9, M4] <;> rfl)); (first|(with_reducible (first|apply vO|apply vP|apply vQ|apply vR|apply vS|apply vT|apply vU); try simp only [Env.put])|with_reducible refine (?_ : WQ _ _ _ _ _ _)))
    |fail
   exact ⟨.inr trivial, _, h9.res rfl, h9.fin hp9 hz9⟩
 | z :: z' :: zs, dk, a, n, hkf, hdk, hS, s, m, p, x, frm, to, hm, hp, hi, hpn, hpv, hfr, hto, N, hl, hN => by
   obtain ⟨rfl, q1, b, wb, lb, lb2, hkf⟩ := hkf.cons
   have hle := hkf.le
   have hlen := FI.len hdk
   have l0 : (((((a : Int) :: z' :: zs).length : Nat) : Int) == 0) = false := by rw [beq_eq_false_iff_ne]; simp only [List.length_cons]; omega
   have l1 : (((((a : Int) :: z' :: zs).length : Nat) : Int) == 1) = false := by rw [beq_eq_false_iff_ne]; simp only [List.length_cons]; omega
   have ki : N3 1 dk (.int .i64 0) = some (.fp [.int .i64 (a : Int)] 0) := FI.idx hdk (i := 0) (by simp)
   obtain ⟨dk', sl, hdk'⟩ := FL.drop hdk (n := 1) (by simp) (k := .i64)
   have one : ((1 : Nat) : Int) = 1 := rfl
   rw [one] at sl
   have hdk' : FI dk' (z' :: zs) := hdk'
   have op := hp.ones
   have om := hm.ones
   have hl' : Q2 p 1000000 := a0w hl (by omega)
   obtain ⟨hst, hso, hsg⟩ := hS a (by simp)
   show EvP _ _ _ _ (StR s p (a1t (N1 t (ch.map Ch.name) f) node (N1 t (ch.map Ch.name) f p.place a frm p.places) ((z' :: zs).map Int.toNat) p.places to))
   unfold N6 M4
   refine M8 (vf := a3p) rfl ?_
   unfold a3p; refine zE ?_
   try refine zW (aN op (aN om (aN hlen (aN l0 (aN l1 ki))))) ?_
   refine U3 (Φ := S3 s m (M4 p x)) ?_ ?_
   ·refine ⟨((Fr.push _).thenPush _).thenPush _, by simp only [M1.next_push]; omega, ?_, ?_, ?_⟩ <;> (simp (disch := (first|with_reducible assumption|omega|((repeat (first|rw [nP]|rw [nS]))<;>omega)|fail)) only [R7, O5, O9, P6, M1.next_push, M1.next_set]) <;> rfl
   intro s4 h4
   simp only [O8.at, M1.next_push]
   apply S4 (a5e (hp.stay h4.fr) hl')
   ·rfl
   rintro r s5 ⟨x5, rfl, f5, hp5⟩
   have h5 := h4.call f5
   have op5 := hp5.ones
   have p5 := h5.p
   have m5 := h5.m
   have nx5 := h5.nx
   unfold M4 at p5
   unfold N6 at m5
   have hp6 : N8 (s5.set (s.next + 1) (some (.cells (M4 p.place x5)))) p.place x5 := hp5.set p5
   have h6 : S3 s m (M4 p.place x5) (s5.set (s.next + 1) (some (.cells (M4 p.place x5)))) := h5.setP
   have w5 : Q2 p.place (N + 1) := a0N hl (a1P p) (by omega)
   have e5 : p.place.places = p.places + 1 := rfl
   repeat first
    |with_reducible first|apply vA|apply vB|apply vC
    |((with_reducible apply vD); (focus rfl))
    |((with_reducible first|apply vE|apply vF|apply vG|apply vH); simp only [Env.keep, Env.get, Env.ev, List.map, Nat.reduceEqDiff, ↓reduceIte, P0, N4])
    |((with_reducible first|apply vI|apply vJ|apply vK|apply vL|apply vM|apply vN); (focus (simp (disch := (first|with_reducible assumption|omega|((repeat (first|rw [nP]|rw [nS]))<;>omega)|fail)) only [go_sem, Env.ev, Env.get, ↓reduceIte, p5, m5, op5, om, M4, ki] <;> rfl)); (first|(with_reducible (first|apply vO|apply vP|apply vQ|apply vR|apply vS|apply vT|apply vU); try simp only [Env.put])|with_reducible refine (?_ : WQ _ _ _ _ _ _)))
    |fail
   refine U3 (Φ := fun s' => S3 s m (M4 p.place x5) s' /\ N8 s' p.place x5) ⟨h6, hp6⟩ ?_
   rintro s6 ⟨h6, hp6⟩
   have p6 := h6.p
   have m6 := h6.m
   unfold M4 at p6
   unfold N6 at m6
   try refine zW (aN p6 (aN m6 (aN op5 (aN om ki)))) ?_
   apply S4 (hst _ _ wb s6 m p.place x5 frm p.places (hm.stay h6.fr) hp6 (a1G hi) hpn hpv (by omega) (by omega) _ w5 (by omega))
   ·rfl
   rintro r s7 ⟨x7, rfl, f7, hp7, hz7⟩
   have h7 := h6.call f7
   have op7 := hp7.ones
   have p7 := h7.p
   have m7 := h7.m
   have nx7 := h7.nx
   unfold M4 at p7
   unfold N6 at m7
   have sok := hso p.place frm p.places (a1G hi) hpn hpv (by omega) (by omega)
   have w7 := a0N w5 (hsg _ _ wb p.place frm p.places) (Nat.le_refl _)
   have g7 := (a2h p).trans sok.2
   have pl7 := sok.2.places
   have hp8 : N8 (s7.set (s.next + 1) (some (.cells (M4 (N1 t (ch.map Ch.name) f p.place a frm p.places) x7)))) (N1 t (ch.map Ch.name) f p.place a frm p.places) x7 := hp7.set p7
   have h8 : S3 s m (M4 (N1 t (ch.map Ch.name) f p.place a frm p.places) x7) (s7.set (s.next + 1) (some (.cells (M4 (N1 t (ch.map Ch.name) f p.place a frm p.places) x7)))) := h7.setP
   have i7 := sok.1
   generalize N1 t (ch.map Ch.name) f p.place a frm p.places = q7 at *
   repeat first
    |with_reducible first|apply vA|apply vB|apply vC
    |((with_reducible apply vD); (focus rfl))
    |((with_reducible first|apply vE|apply vF|apply vG|apply vH); simp only [Env.keep, Env.get, Env.ev, List.map, Nat.reduceEqDiff, ↓reduceIte, P0, N4])
    |((with_reducible first|apply vI|apply vJ|apply vK|apply vL|apply vM|apply vN); (focus (simp (disch := (first|with_reducible assumption|omega|((repeat (first|rw [nP]|rw [nS]))<;>omega)|fail)) only [go_sem, Env.ev, Env.get, ↓reduceIte, p7, m7, op7, om, M4] <;> rfl)); (first|(with_reducible (first|apply vO|apply vP|apply vQ|apply vR|apply vS|apply vT|apply vU); try simp only [Env.put])|with_reducible refine (?_ : WQ _ _ _ _ _ _)))
    |fail
   refine U3 (Φ := fun s' => S3 s m (M4 q7 x7) s' /\ N8 s' q7 x7) ⟨h8, hp8⟩ ?_
   rintro s8 ⟨h8, hp8⟩
   have p8 := h8.p
   have m8 := h8.m
   unfold M4 at p8
   unfold N6 at m8
   repeat first
   |(refine a5M (o := .slice _ _ _ _) (d := dk') sl ?_)
   |refine zW (aN p8 (aN m8 (aN op7 om))) ?_
   apply S4 (a7B (z' :: zs) dk' b n hkf hdk' (fun c hc => hS c (by simp only [List.map_cons, List.mem_cons] at hc ⊢; right; exact hc)) s8 m q7 x7 p.places to (hm.stay h8.fr) hp8 i7 (g7.names.trans hpn) (g7.vars.trans hpv) (by omega) (by omega) _ w7 (by omega))
   ·rfl
   rintro r s9 ⟨x9, rfl, f9, hp9, hzz⟩
   have h9 := h8.call f9
   have hz9 : Z4 s x9.de := hzz.mono h8.fr.1
   have op9 := hp9.ones
   have r9 := h9.r
   repeat first
    |with_reducible first|apply vA|apply vB|apply vC
    |((with_reducible apply vD); (focus rfl))
    |((with_reducible first|apply vE|apply vF|apply vG|apply vH); simp only [Env.keep, Env.get, Env.ev, List.map, Nat.reduceEqDiff, ↓reduceIte, P0, N4])
    |((with_reducible first|apply vI|apply vJ|apply vK|apply vL|apply vM|apply vN); (focus (simp (disch := (first|with_reducible assumption|omega|((repeat (first|rw [nP]|rw [nS]))<;>omega)|fail)) only [go_sem, Env.ev, Env.get, ↓reduceIte, r9, op9, M4] <;> rfl)); (first|(with_reducible (first|apply vO|apply vP|apply vQ|apply vR|apply vS|apply vT|apply vU); try simp only [Env.put])|with_reducible refine (?_ : WQ _ _ _ _ _ _)))
    |fail
   exact ⟨.inr trivial, _, h9.res rfl, h9.fin hp9 hz9⟩
theorem b9Z {t : List Nd} (ht : Y4 t) {ch : List Ch} {names : List ByteArray} {vars : List Nat} {f b : Nat} (hb : b < t.length) (hS : ∀ c ∈ (nd t b).ks, a6e vfs 88 t ch names vars f c /\ a1c t ch.length names vars (N1 t (ch.map Ch.name) f) c /\ StG t (N1 t (ch.map Ch.name) f) c) : a3V vfs 115 t ch names vars f b := by
 intro g n hw s m p x frm to hm hp hi hpn hpv hfr hto N hl hN
 obtain ⟨g', rfl, hkf⟩ := a15 hw
 have hle := hkf.le
 have hidx := hm.tr.at (z := (b : Int)) (by omega) (by omega) (k := .i64)
 rw [Int.toNat_natCast] at hidx
 have on := a0o hm.tr hb
 have op := hp.ones
 have om := hm.ones
 show EvP _ _ _ _ (StR s p (a1t (N1 t (ch.map Ch.name) f) b p ((nd t b).kids.map Int.toNat) frm to))
 unfold N6 M4
 refine M8 (vf := a7c) rfl ?_
 unfold a7c; refine zE ?_
 try refine zW (aN op (aN om (aN hidx on))) ?_
 refine U3 (Φ := S3 s m (M4 p x)) ?_ ?_
 ·refine ⟨((Fr.push _).thenPush _).thenPush _, by simp only [M1.next_push]; omega, ?_, ?_, ?_⟩ <;> (simp (disch := (first|with_reducible assumption|omega|((repeat (first|rw [nP]|rw [nS]))<;>omega)|fail)) only [R7, O5, O9, P6, M1.next_push, M1.next_set]) <;> rfl
 intro s4 h4
 simp only [O8.at, M1.next_push]
 apply S4 (a7B (node := b) (nd t b).kids (nd t b).dk (b + 1) n hkf (hm.tr.nd hb).k hS s4 m p x frm to (hm.stay h4.fr) (hp.stay h4.fr) hi hpn hpv hfr hto N hl (by omega))
 ·rfl
 rintro r s9 ⟨x9, rfl, f9, hp9, hzz⟩
 have h9 := h4.call f9
 have hz9 : Z4 s x9.de := hzz.mono h4.fr.1
 have op9 := hp9.ones
 have r9 := h9.r
 repeat first
  |with_reducible first|apply vA|apply vB|apply vC
  |((with_reducible apply vD); (focus rfl))
  |((with_reducible first|apply vE|apply vF|apply vG|apply vH); simp only [Env.keep, Env.get, Env.ev, List.map, Nat.reduceEqDiff, ↓reduceIte, P0, N4])
  |((with_reducible first|apply vI|apply vJ|apply vK|apply vL|apply vM|apply vN); (focus (simp (disch := (first|with_reducible assumption|omega|((repeat (first|rw [nP]|rw [nS]))<;>omega)|fail)) only [go_sem, Env.ev, Env.get, ↓reduceIte, r9, op9, M4] <;> rfl)); (first|(with_reducible (first|apply vO|apply vP|apply vQ|apply vR|apply vS|apply vT|apply vU); try simp only [Env.put])|with_reducible refine (?_ : WQ _ _ _ _ _ _)))
  |fail
 exact ⟨.inr trivial, _, h9.res rfl, h9.fin hp9 hz9⟩
theorem b2Y {t : List Nd} (ht : Y4 t) {ch : List Ch} (hcb : ch.length <= 1000000) {names : List ByteArray} {vars : List Nat} (hnb : names.length <= 1000000) {P : Nat -> Prop} (hc : ∀ j, j < t.length -> P j -> ∀ k ∈ (nd t j).ks, P k) (hs : ∀ k, P k -> a6v t ch.length (ch.map Ch.name) names vars k) : ∀ (f k : Nat), k < t.length -> P k -> a1W (nd t k).kind -> t.length - k < f -> a6e vfs 88 t ch names vars f k
 | 0, k, _, _, _, h => by omega
 | f + 1, k, hk, hP, hst, hf => by
   intro g n hw s m p x frm to hm hp hi hpn hpv hfr hto N hl hN
   have hno := ht.node k hk
   have hks := ht.ks hk
   have hSi := hs k hP
   have sub : ∀ b ∈ (nd t k).ks, (nd t b).kind = 16 -> ∀ c ∈ (nd t b).ks, a6e vfs 88 t ch names vars f c /\ a1c t ch.length names vars (N1 t (ch.map Ch.name) f) c /\ StG t (N1 t (ch.map Ch.name) f) c := fun b hb hb16 c hc' => by
    have h1 := hks b hb
    have h2 := ht.ks h1.2 c hc'
    have h3 := (ht.node b h1.2).block hb16 c hc'
    have hPc := hc b h1.2 (hc k hk hP b hb) c hc'
    exact ⟨b2Y ht hcb hnb hc hs f c h2.2 hPc h3 (by omega), a6q ht hc hs f c h2.2 hPc h3 (by omega), a6I ht _ f c h2.2 h3 (by omega)⟩
   have hS : ∀ b ∈ (nd t k).ks, (nd t b).kind = 16 -> ∀ c ∈ (nd t b).ks, a1c t ch.length names vars (N1 t (ch.map Ch.name) f) c /\ StG t (N1 t (ch.map Ch.name) f) c := fun b hb hb16 c hc => (sub b hb hb16 c hc).2
   have hB : ∀ b ∈ (nd t k).ks, (nd t b).kind = 16 -> a3V vfs 115 t ch names vars f b := fun b hb hb16 => b9Z ht (hks b hb).2 (sub b hb hb16)
   have hl9 : Q2 p 900000 := a0w hl (by omega)
   have hnv : p.names.length = p.vars.length := by rw [hpn, hpv]; exact hSi.same
   have hnb' : p.names.length <= 1000000 := by rw [hpn]; exact hnb
   have hrl : frm < p.rest.length := by rw [hi.rest]; exact hfr
   have hcs : (nd t k).kind = 6 ∨ (nd t k).kind = 7 ∨ (nd t k).kind = 8 ∨ (nd t k).kind = 9 ∨ (nd t k).kind = 10 ∨ (nd t k).kind = 11 ∨ (nd t k).kind = 12 ∨ (nd t k).kind = 13 ∨ (nd t k).kind = 14 ∨ (nd t k).kind = 15 := by
    unfold a1W at hst
    omega
   rcases hcs with h | h | h | h | h | h | h | h | h | h
   ·exact c0s hm ht hp hl9 hnv (by rw [hpn]; exact hSi.v (.inl h)) hnb' hk h
   ·exact c0n hm ht hp hl9 hcb hk h
   ·exact b65 hm ht hp hl9 hnv (by rw [hpn]; exact hSi.v (.inr h)) hnb' hcb hrl hk h
   ·exact b8W hm ht hp hl9 hrl hk h
   ·exact c0i hm ht hp hi hpn hpv hfr hto hk h hw hl hN hS hB
   ·exact c0A hm ht hp hi hpn hpv hfr hto hk h hw hl hN hS hB
   ·exact c1c hm ht hp hi hpn hpv hfr hto hk h hw hl hN hS hB
   ·exact b7F hm ht hp hi hpn hpv hfr hto hk h hw hl hN hS hB
   ·exact b9x hm ht hp hl9 hk h
   ·exact c2h hm ht hp hl9 hk h
end Go.Proofs.YtnjlhebkhjcagaaGreat
namespace Go.V
abbrev Hs := List (Nat × List D)
def Has (s : M1) (R : Hs) : Prop := ∀ x ∈ R, s.get x.1 = some (.cells x.2)
structure Hp (s : M1) (W R : Hs) : Prop where
 nd : (W.map Prod.fst).Nodup
 ap : ∀ w ∈ W, ∀ r ∈ R, w.1 ≠ r.1
 w : Has s W
 r : Has s R
theorem Has.append {s : M1} {A B : Hs} (h : Has s A) (k : Has s B) : Has s (A ++ B) := by
 intro x hx
 rcases List.mem_append.1 hx with hx | hx
 ·exact h x hx
 ·exact k x hx
theorem Has.left {s : M1} {A B : Hs} (h : Has s (A ++ B)) : Has s A := fun x hx => h x (List.mem_append_left _ hx)
theorem Has.right {s : M1} {A B : Hs} (h : Has s (A ++ B)) : Has s B := fun x hx => h x (List.mem_append_right _ hx)
theorem Has.fr {s s' : M1} {A : Hs} (h : Has s A) (hf : Fr [] s s') : Has s' A := fun x hx => by
 rw [hf.2 _ (M7 (h x hx)) (by simp), h x hx]
theorem Hp.fr {s s' : M1} {W R : Hs} (h : Hp s W R) (hf : Fr [] s s') : Hp s' W R := ⟨h.nd, h.ap, h.w.fr hf, h.r.fr hf⟩
theorem Hp.push {s : M1} {W R : Hs} (h : Hp s W R) (o : N9) : Hp (s.push o) W R := h.fr (Fr.push o)
theorem Hp.pushW {s : M1} {W R : Hs} (h : Hp s W R) (cs : List D) : Hp (s.push (.cells cs)) ((s.next, cs) :: W) R := by
 refine ⟨?_, ?_, ?_, (h.push _).r⟩
 ·rw [List.map_cons, List.nodup_cons]
  refine ⟨fun hm => ?_, h.nd⟩
  obtain ⟨x, hx, e⟩ := List.mem_map.1 hm
  have := M7 (h.w x hx)
  simp only at e
  omega
 ·intro w hw r hr
  rcases List.mem_cons.1 hw with rfl | hw
  ·have := M7 (h.r r hr)
   simp only; omega
  ·exact h.ap w hw r hr
 ·intro x hx
  rcases List.mem_cons.1 hx with rfl | hx
  ·exact O5 rfl
  ·exact (h.push _).w x hx
theorem Hp.get {s : M1} {A B R : Hs} {id : Nat} {cs : List D} (h : Hp s (A ++ (id, cs) :: B) R) : s.get id = some (.cells cs) := h.w (id, cs) (by simp)
theorem Hp.sub {s : M1} {W W' R R' : Hs} (h : Hp s W R) (hw : W'.Sublist W) (hr : ∀ x ∈ R', x ∈ R) : Hp s W' R' :=
 ⟨h.nd.sublist (hw.map _), fun w hm r hn => h.ap w (hw.subset hm) r (hr r hn), fun x hx => h.w x (hw.subset hx), fun x hx => h.r x (hr x hx)⟩
theorem Hp.perm {s : M1} {W W' R : Hs} (h : Hp s W R) (hw : W'.Perm W) : Hp s W' R :=
 ⟨(hw.map _).nodup_iff.2 h.nd, fun w hm r hn => h.ap w (hw.subset hm) r hn, fun x hx => h.w x (hw.subset hx), h.r⟩
theorem Hp.set {s : M1} {A B R : Hs} {id : Nat} {cs : List D} (h : Hp s (A ++ (id, cs) :: B) R) (cs' : List D) : Hp (s.set id (some (.cells cs'))) (A ++ (id, cs') :: B) R := by
 have hl := M7 h.get
 have hn := h.nd
 rw [List.map_append, List.map_cons, List.nodup_append] at hn
 obtain ⟨n1, n2, n3⟩ := hn
 rw [List.nodup_cons] at n2
 refine ⟨?_, ?_, ?_, ?_⟩
 ·rw [List.map_append, List.map_cons, List.nodup_append, List.nodup_cons]
  exact ⟨n1, n2, n3⟩
 ·intro w hw r hr
  rcases List.mem_append.1 hw with hw | hw
  ·exact h.ap w (by simp [hw]) r hr
  ·rcases List.mem_cons.1 hw with rfl | hw
   ·exact h.ap (id, cs) (by simp) r hr
   ·exact h.ap w (by simp [hw]) r hr
 ·intro x hx
  rcases List.mem_append.1 hx with hx | hx
  ·rw [O9, h.w x (by simp [hx])]
   exact n3 _ (List.mem_map_of_mem hx) _ (by simp)
  ·rcases List.mem_cons.1 hx with rfl | hx
   ·exact P6 hl
   ·rw [O9, h.w x (by simp [hx])]
    rintro e
    exact n2.1 (e ▸ (List.mem_map.2 ⟨x, hx, rfl⟩))
 ·intro x hx
  rw [O9, h.r x hx]
  exact fun e => h.ap (id, cs) (by simp) x hx e.symm
theorem Hp.kill {s : M1} {A B R : Hs} {id : Nat} {cs : List D} (h : Hp s (A ++ (id, cs) :: B) R) : Hp (s.set id none) (A ++ B) R := by
 have hn := h.nd
 rw [List.map_append, List.map_cons, List.nodup_append] at hn
 obtain ⟨n1, n2, n3⟩ := hn
 rw [List.nodup_cons] at n2
 have h' : Hp s (A ++ B) R := h.sub (List.Sublist.append_left (List.sublist_cons_self _ _) _) fun _ hx => hx
 refine ⟨h'.nd, h'.ap, ?_, ?_⟩
 ·intro x hx
  rw [O9, h'.w x hx]
  rcases List.mem_append.1 hx with hx | hx
  ·exact n3 _ (List.mem_map_of_mem hx) _ (by simp)
  ·rintro e
   exact n2.1 (e ▸ (List.mem_map.2 ⟨x, hx, rfl⟩))
 ·intro x hx
  rw [O9, h.r x hx]
  exact fun e => h.ap (id, cs) (by simp) x hx e.symm
theorem Hp.addR {s : M1} {W R E : Hs} (h : Hp s W R) (he : Has s E) (hc : ∀ w ∈ W, ∀ x ∈ E, w.2 ≠ x.2) : Hp s W (E ++ R) := by
 refine ⟨h.nd, fun w hw r hr => ?_, h.w, he.append h.r⟩
 rcases List.mem_append.1 hr with hr | hr
 ·intro e
  have h1 := h.w w hw
  rw [e, he r hr] at h1
  simp only [Option.some.injEq, N9.cells.injEq] at h1
  exact hc w hw r hr h1.symm
 ·exact h.ap w hw r hr
theorem a2X {fs : FuncId -> Option M6} {vars : List Nat} {c : Z3} {env : Env} {s : M1} {id : Nat} {P : Env -> M1 -> Prop} {Q : U7 -> Env -> M1 -> Prop} (h : WP fs vars c env s (N4 id fun e env s => e = .normal /\ P env s)) (k : ∀ env s, P env s -> Q .normal env s) : WP fs vars c env s (N4 id Q) := by
 refine h.mono fun e env s hp => ?_
 cases e with
 | normal => exact k _ _ hp.2
 | ret => cases hp.1
 | exit i =>
   simp only [N4] at hp ⊢
   split
   ·rename_i hi
    rw [if_pos hi] at hp
    exact k _ _ hp.2
   ·rename_i hi
    rw [if_neg hi] at hp
    cases hp.1
def Rp (d : D) (sz : Nat) (rows : List (List D)) (E : Hs) : Prop := (d = .nils /\ rows = [] /\ E = []) ∨ ∃ id, d = .arr id 0 rows.length sz /\ E = [(id, rows.flatten)] /\ rows ≠ []
theorem Rp.sn {s : M1} {d : D} {sz : Nat} {rows : List (List D)} {E : Hs} (h : Rp d sz rows E) (he : Has s E) : SN s sz d rows := by
 rcases h with ⟨h1, h2, _⟩ | ⟨id, h1, rfl, _⟩
 ·exact .inl ⟨h1, h2⟩
 ·exact .inr (.inl ⟨id, h1, he (id, rows.flatten) (by simp)⟩)
theorem Rp.one {d : D} {sz : Nat} {rows : List (List D)} {E : Hs} (h : Rp d sz rows E) : M9 d = true := by
 rcases h with ⟨rfl, _⟩ | ⟨id, rfl, _⟩ <;> rfl
theorem Rp.len {d : D} {sz : Nat} {rows : List (List D)} {E : Hs} (h : Rp d sz rows E) : S6 false d = some (.int .i64 (rows.length : Int)) := by
 rcases h with ⟨rfl, rfl, _⟩ | ⟨id, rfl, _⟩ <;> rfl
theorem Rp.app {s : M1} {d : D} {sz bytes idt : Nat} {rows : List (List D)} {row : List D} {A B E R : Hs} (h : Rp d sz rows E) (hp : Hp s (A ++ E ++ B) R) (ht : s.get idt = some (.cells row)) (hr : row.length = sz) (hrs : ∀ r ∈ rows, r.length = sz) (hb : bytes <= 1000) (hl : rows.length <= 1000000000) :
 ∃ d' s', S7 sz bytes d (.arr idt 0 1 sz) s = some (d', s') /\ ∃ E', Rp d' sz (rows ++ [row]) E' /\ Hp s' (A ++ E' ++ B) R /\ s.next <= s'.next := by
 have b3 : bytes <= 2 ^ 20 := Nat.le_trans hb (by decide)
 have r1 : X0 s.get (.arr idt 0 1 sz) = some row := by
  simp only [X0, ht, Nat.zero_add, Nat.one_mul, List.drop_zero]
  rw [if_pos (by omega), List.take_of_length_le (by omega)]
 have r2 : a1h (.arr idt 0 1 sz) = some 1 := rfl
 have r3 : a0l sz (.arr idt 0 1 sz) = true := by simp [a0l]
 rcases h with ⟨rfl, rfl, rfl⟩ | ⟨id, rfl, rfl, hne⟩
 ·refine ⟨.arr s.next 0 1 sz, s.push (.cells row), ?_, [(s.next, row)], .inr ⟨s.next, rfl, by simp, by simp⟩, ?_, by simp⟩
  ·unfold S7
   simp only [r1, r2, r3, b3, decide_true, Bool.and_self, if_true]
   rw [if_neg (by omega), if_pos ⟨by omega, by omega⟩]
  ·refine (hp.pushW row).perm ?_
   simp only [List.append_nil, List.append_assoc, List.singleton_append]
   exact List.perm_middle
 ·have hf := a4Y hrs
  have hg : s.get id = some (.cells rows.flatten) := by
   refine hp.w (id, rows.flatten) ?_
   simp
  have b1 : (rows.length + 1) * bytes <= 2 ^ 45 := Nat.le_trans (Nat.mul_le_mul (show rows.length + 1 <= 1000000001 by omega) hb) (by decide)
  have b2 : rows.length + 1 <= 2 ^ 45 := by omega
  refine ⟨.arr s.next 0 (rows.length + 1) sz, (s.set id none).push (.cells (rows.flatten ++ row)), ?_, [(s.next, rows.flatten ++ row)], .inr ⟨s.next, by simp, by simp, by simp⟩, ?_, by simp⟩
  ·unfold S7
   simp only [r1, r2, r3, b3, decide_true, Bool.and_self, if_true, hg, Nat.zero_add, hf, and_self, List.drop_zero]
   rw [if_neg (by omega), if_pos ⟨b1, b2⟩]
  ·have h1 : Hp (s.set id none) (A ++ B) R := by
    refine Hp.kill (cs := rows.flatten) ?_
    simpa only [List.append_assoc, List.singleton_append] using hp
   have h2 := h1.pushW (rows.flatten ++ row)
   rw [M1.next_set] at h2
   refine h2.perm ?_
   simp only [List.append_assoc, List.singleton_append]
   exact List.perm_middle
def InR (P : M1 -> Prop) (R : Hs) : Prop := ∀ s, Has s R -> P s
theorem InR.mono {P : M1 -> Prop} {R R' : Hs} (h : InR P R) (hr : ∀ x ∈ R, x ∈ R') : InR P R' := fun s hs => h s fun x hx => hs x (hr x hx)
theorem SN.parts {s : M1} {sz : Nat} {d : D} {rows : List (List D)} (h : SN s sz d rows) : ∃ E : Hs, Has s E /\ (∀ e ∈ E, e.2 = rows.flatten) /\ InR (fun s => SN s sz d rows) E := by
 rcases h with h | ⟨id, h, hg⟩ | h
 ·exact ⟨[], by simp [Has], by simp, fun s _ => .inl h⟩
 ·exact ⟨[(id, rows.flatten)], by simpa [Has] using hg, by simp, fun s hs => .inr (.inl ⟨id, h, hs (id, rows.flatten) (by simp)⟩)⟩
 ·exact ⟨[], by simp [Has], by simp, fun s _ => .inr (.inr h)⟩
def a20 (cs : List D) : Prop := (∃ l, cs = (P3 l).flatten) ∨ (∃ l, cs = (S2 l).flatten) ∨ (∃ l, cs = (Q5 l).flatten) ∨ (∃ l, cs = (V9 l).flatten)
theorem a20.ne_box {cs rest : List D} {d : D} {t : List Nd} (h : a20 cs) (hd : N7 d t) : d :: rest ≠ cs := by
 have hd := hd.fl
 rcases h with ⟨l, rfl⟩ | ⟨l, rfl⟩ | ⟨l, rfl⟩ | ⟨l, rfl⟩ <;> cases l <;> rcases hd with ⟨rfl, _⟩ | rfl <;> simp [P3, S2, Q5, V9, Ed.row]
theorem a20.ne_si {cs rest : List D} {a : ByteArray} {k : IntKind} {n : Int} (h : a20 cs) : D.str a :: .int k n :: rest ≠ cs := by
 rcases h with ⟨l, rfl⟩ | ⟨l, rfl⟩ | ⟨l, rfl⟩ | ⟨l, rfl⟩
 ·cases l <;> simp [P3]
 ·cases l <;> simp [S2]
 ·cases l <;> simp [Q5, Ed.row]
 ·match l with
  | [] => simp [V9]
  | [y] => simp [V9]
  | y :: z :: r => simp [V9]
theorem N8.parts {s : M1} {p : Pr} {x : PrD} (h : N8 s p x) : ∃ E : Hs, Has s E /\ (∀ e ∈ E, a20 e.2) /\ InR (fun s => N8 s p x) E := by
 obtain ⟨E1, a1, b1, c1⟩ := h.l.parts
 obtain ⟨E2, a2, b2, c2⟩ := h.r.parts
 obtain ⟨E3, a3, b3, c3⟩ := h.e.parts
 obtain ⟨E4, a4, b4, c4⟩ := h.n.parts
 obtain ⟨E5, a5, b5, c5⟩ := h.v.parts
 refine ⟨E1 ++ (E2 ++ (E3 ++ (E4 ++ E5))), a1.append (a2.append (a3.append (a4.append a5))), ?_, fun s hs => ⟨c1 s hs.left, c2 s hs.right.left, c3 s hs.right.right.left, c4 s hs.right.right.right.left, c5 s hs.right.right.right.right⟩⟩
 intro e he
 simp only [List.mem_append] at he
 rcases he with he | he | he | he | he
 ·exact .inl ⟨_, b1 e he⟩
 ·exact .inr (.inl ⟨_, b2 e he⟩)
 ·exact .inr (.inr (.inl ⟨_, b3 e he⟩))
 ·exact .inr (.inr (.inr ⟨_, b4 e he⟩))
 ·exact .inl ⟨_, b5 e he⟩
def X4 (l : List Vr) : List (List D) := l.map Vr.row
theorem a6w (l : List Vr) : ∀ r ∈ X4 l, r.length = 3 := by intro r h; obtain ⟨b, _, rfl⟩ := List.mem_map.1 h; rfl
@[simp] theorem a9w (l : List Vr) : (X4 l).length = l.length := by simp [X4]
def a0I (l : List (Pr × PrD)) : List (List D) := l.map fun q => M4 q.1 q.2
theorem b2w (l : List (Pr × PrD)) : ∀ r ∈ a0I l, r.length = 8 := by intro r h; obtain ⟨b, _, rfl⟩ := List.mem_map.1 h; rfl
@[simp] theorem c1M (l : List (Pr × PrD)) : (a0I l).length = l.length := by simp [a0I]
theorem b3q (l : List Vr) (v : Vr) : X4 l ++ [v.row] = X4 (l ++ [v]) := by simp [X4]
theorem c25 (l : List Ch) (v : Ch) : a0f l ++ [v.row] = a0f (l ++ [v]) := by simp [a0f]
theorem a6J (l : List Nat) (v : Nat) : P3 l ++ [[.int .i64 (v : Int)]] = P3 (l ++ [v]) := by simp [P3]
theorem b0P (l : List ByteArray) (v : ByteArray) : V9 l ++ [[.str v]] = V9 (l ++ [v]) := by simp [V9]
theorem b6V (l : List (Pr × PrD)) (p : Pr) (x : PrD) : a0I l ++ [M4 p x] = a0I (l ++ [(p, x)]) := by simp [a0I]
theorem Rp.si {d : D} {sz : Nat} {rows : List (List D)} {E : Hs} (h : Rp d sz rows E) (hr : ∀ r ∈ rows, ∃ a k n rest, r = D.str a :: .int k n :: rest) : ∀ e ∈ E, ∃ a k n rest, e.2 = D.str a :: .int k n :: rest := by
 rcases h with ⟨_, _, rfl⟩ | ⟨id, _, rfl, hne⟩
 ·simp
 ·intro e he
  simp at he
  subst he
  cases rows with
  | nil => exact (hne rfl).elim
  | cons r rs =>
    obtain ⟨a, k, n, rest, rfl⟩ := hr r (by simp)
    exact ⟨a, k, n, rest ++ rs.flatten, by simp⟩
theorem b8l (l : List Vr) : ∀ r ∈ X4 l, ∃ a k n rest, r = D.str a :: .int k n :: rest := by
 intro r h; obtain ⟨b, _, rfl⟩ := List.mem_map.1 h; exact ⟨_, _, _, _, rfl⟩
theorem c0C (l : List (Pr × PrD)) : ∀ r ∈ a0I l, ∃ a k n rest, r = D.str a :: .int k n :: rest := by
 intro r h; obtain ⟨b, _, rfl⟩ := List.mem_map.1 h; exact ⟨_, _, _, _, rfl⟩
end Go.V
namespace Go.V
def a3B (x : Nd) : Ch := ⟨x.word 0, x.num 0, x.num 1, x.num 2 == 1, x.num 3 == 1⟩
def a1r (x : Nd) : Vr := ⟨x.word 0, x.num 0, x.num 1⟩
structure Ga where
 ch : List Ch
 vs : List Vr
 sf : List Nat
 dead : Bool
def one1 (t : List Nd) (a : Ga) (k : Nat) : Ga :=
 if (nd t k).kind = 1 then { a with ch := a.ch ++ [a3B (nd t k)] }
 else if (nd t k).kind = 2 then { a with vs := a.vs ++ [a1r (nd t k)] }
 else if (nd t k).kind = 4 then { a with sf := a.sf ++ [(nd t k).kid 0] }
 else if (nd t k).kind = 5 then { a with dead := true } else a
def T9 (t : List Nd) (l : List Nat) : Ga := l.foldl (one1 t) ⟨[], [], [], false⟩
theorem c31 (t : List Nd) (l : List Nat) (k : Nat) : T9 t (l ++ [k]) = one1 t (T9 t l) k := by simp [T9]
theorem a86 (t : List Nd) (l : List Nat) : (T9 t l).ch.length <= l.length /\ (T9 t l).vs.length <= l.length /\ (T9 t l).sf.length <= l.length := by
 have key : ∀ (l : List Nat) (a : Ga) (n : Nat), a.ch.length <= n /\ a.vs.length <= n /\ a.sf.length <= n -> (l.foldl (one1 t) a).ch.length <= n + l.length /\ (l.foldl (one1 t) a).vs.length <= n + l.length /\ (l.foldl (one1 t) a).sf.length <= n + l.length := by
  intro l
  induction l with
  | nil => intro a n h; simpa using h
  | cons k l ih =>
    intro a n h
    have := ih (one1 t a k) (n + 1) (by
     obtain ⟨h1, h2, h3⟩ := h
     unfold one1
     by_cases c1 : (nd t k).kind = 1
     ·rw [if_pos c1]; simp only [List.length_append, List.length_singleton]; omega
     rw [if_neg c1]
     by_cases c2 : (nd t k).kind = 2
     ·rw [if_pos c2]; simp only [List.length_append, List.length_singleton]; omega
     rw [if_neg c2]
     by_cases c4 : (nd t k).kind = 4
     ·rw [if_pos c4]; simp only [List.length_append, List.length_singleton]; omega
     rw [if_neg c4]
     by_cases c5 : (nd t k).kind = 5
     ·rw [if_pos c5]; simp only; omega
     rw [if_neg c5]; omega)
    simp only [List.foldl_cons, List.length_cons]
    omega
 have := key l ⟨[], [], [], false⟩ 0 (by simp)
 simpa [T9] using this
def O1 (t : List Nd) (x : Nd) : Nat := (x.ks.takeWhile fun k => (nd t k).kind == 2).length
def U5 (t : List Nd) (x : Nd) : List Nd := (x.ks.take (O1 t x)).map (nd t)
theorem a6H (t : List Nd) (x : Nd) : O1 t x <= x.ks.length := (List.takeWhile_prefix _).length_le
@[simp] theorem a16 (t : List Nd) (x : Nd) : (U5 t x).length = O1 t x := by simp [U5, a6H]
theorem a6D {t : List Nd} {x : Nd} {i : Nat} (h : i < O1 t x) (hi : i < x.ks.length) : (nd t x.ks[i]).kind = 2 := by
 have key : ∀ (l : List Nat) (p : Nat -> Bool) (i : Nat) (h : i < l.length), i < (l.takeWhile p).length -> p l[i] = true := by
  intro l p
  induction l with
  | nil => intro i h; simp at h
  | cons a l ih =>
    intro i h hi
    cases hp : p a
    ·simp [List.takeWhile_cons, hp] at hi
    ·cases i with
     | zero => exact hp
     | succ i => exact ih i (by simpa using h) (by simpa [List.takeWhile_cons, hp] using hi)
 have := key x.ks (fun k => (nd t k).kind == 2) i hi h
 simpa using this
theorem b3h {t : List Nd} {x : Nd} (hi : O1 t x < x.ks.length) : (nd t x.ks[O1 t x]).kind ≠ 2 := by
 have key : ∀ (l : List Nat) (p : Nat -> Bool) (h : (l.takeWhile p).length < l.length), p l[(l.takeWhile p).length] = false := by
  intro l p
  induction l with
  | nil => intro h; simp at h
  | cons a l ih =>
    intro h
    cases hp : p a
    ·simp [List.takeWhile_cons, hp]
    ·have h' : (l.takeWhile p).length < l.length := by simpa [List.takeWhile_cons, hp] using h
     have := ih h'
     simpa [List.takeWhile_cons, hp] using this
 have := key x.ks (fun k => (nd t k).kind == 2) hi
 intro e
 rw [beq_eq_false_iff_ne] at this
 exact this e
def pr0 (x : Nd) (c seen : Nat) (vs : List Vr) (l : List Nd) : Pr :=
 ⟨x.word 0, c, (List.range l.length).map (vs.length + ·), 2, [false, true], [], (vs.take seen).map Vr.name ++ l.map (fun y => y.word 0), List.range seen ++ (List.range l.length).map (vs.length + ·)⟩
def a3h (t : List Nd) (ch : List ByteArray) (k seen c : Nat) (vs : List Vr) : Pr :=
 a1t (N1 t ch (t.length + 1)) k (pr0 (nd t k) c seen vs (U5 t (nd t k))) ((nd t k).ks.drop (O1 t (nd t k))) 0 1
def T8 (t : List Nd) (ch : List ByteArray) (k seen : Nat) : Nat -> List Vr × List Pr -> List Vr × List Pr
 | 0, a => a
 | c + 1, a => ((T8 t ch k seen c a).1 ++ (U5 t (nd t k)).map a1r, (T8 t ch k seen c a).2 ++ [a3h t ch k seen c (T8 t ch k seen c a).1])
structure Gb where
 seen : Nat
 vs : List Vr
 ps : List Pr
def a0U (t : List Nd) (ch : List ByteArray) (a : Gb) (k : Nat) : Gb :=
 if (nd t k).kind = 3 then ⟨a.seen, (T8 t ch k a.seen ((nd t k).num 0).toNat (a.vs, a.ps)).1, (T8 t ch k a.seen ((nd t k).num 0).toNat (a.vs, a.ps)).2⟩
 else if (nd t k).kind = 2 then ⟨a.seen + 1, a.vs, a.ps⟩ else a
def Z2 (t : List Nd) (ch : List ByteArray) (vs : List Vr) (l : List Nat) : Gb := l.foldl (a0U t ch) ⟨0, vs, []⟩
theorem b3y (t : List Nd) (ch : List ByteArray) (vs : List Vr) (l : List Nat) (k : Nat) : Z2 t ch vs (l ++ [k]) = a0U t ch (Z2 t ch vs l) k := by simp [Z2]
structure Mo where
 tree : List Nd
 globals : Nat
 chans : List Ch
 vars : List Vr
 procs : List Pr
 safe : List Nat
 dead : Bool
def gat (t : List Nd) : Ga := T9 t (nd t 0).ks
def chs (t : List Nd) : List ByteArray := (gat t).ch.map Ch.name
def gbt (t : List Nd) : Gb := Z2 t (chs t) (gat t).vs (nd t 0).ks
def a2a (t : List Nd) : Mo := ⟨t, (gat t).vs.length, (gat t).ch, (gbt t).vs, (gbt t).ps, (gat t).sf, (gat t).dead⟩
theorem a84 (t : List Nd) (ch : List ByteArray) (k seen : Nat) : ∀ (c : Nat) (a : List Vr × List Pr), ∃ l, (T8 t ch k seen c a).1 = a.1 ++ l
 | 0, a => ⟨[], by simp [T8]⟩
 | c + 1, a => by
   obtain ⟨l, hl⟩ := a84 t ch k seen c a
   exact ⟨l ++ (U5 t (nd t k)).map a1r, by simp [T8, hl]⟩
theorem c3t (t : List Nd) (ch : List ByteArray) (a : Gb) (k : Nat) : ∃ l, (a0U t ch a k).vs = a.vs ++ l := by
 unfold a0U
 split
 ·exact a84 t ch k a.seen _ (a.vs, a.ps)
 ·split <;> exact ⟨[], by simp⟩
theorem a8w (t : List Nd) (ch : List ByteArray) (vs : List Vr) : ∀ (l : List Nat), ∃ m, (Z2 t ch vs l).vs = vs ++ m := by
 intro l
 have key : ∀ (l : List Nat) (a : Gb), (∃ m, a.vs = vs ++ m) -> ∃ m, (l.foldl (a0U t ch) a).vs = vs ++ m := by
  intro l
  induction l with
  | nil => intro a h; exact h
  | cons k l ih =>
    intro a ⟨m, hm⟩
    obtain ⟨m2, hm2⟩ := c3t t ch a k
    exact ih _ ⟨m ++ m2, by rw [hm2, hm, List.append_assoc]⟩
 exact key l _ ⟨[], by simp⟩
theorem b1s (t : List Nd) (ch : List ByteArray) (vs : List Vr) (l : List Nat) : (Z2 t ch vs l).seen = (T9 t l).vs.length := by
 have key : ∀ (l : List Nat) (a : Ga) (b : Gb), b.seen = a.vs.length -> (l.foldl (a0U t ch) b).seen = (l.foldl (one1 t) a).vs.length := by
  intro l
  induction l with
  | nil => intro a b h; exact h
  | cons k l ih =>
    intro a b h
    simp only [List.foldl_cons]
    refine ih _ _ ?_
    unfold a0U one1
    by_cases c3 : (nd t k).kind = 3
    ·simp [c3, h]
    ·by_cases c2 : (nd t k).kind = 2
     ·simp [c2, h]
     ·rw [if_neg c3, if_neg c2]
      repeat' split
      all_goals simp_all
 exact key l _ _ rfl
theorem b7q (t : List Nd) (l m : List Nat) : (T9 t l).vs.length <= (T9 t (l ++ m)).vs.length := by
 have key : ∀ (m : List Nat) (a : Ga), a.vs.length <= (m.foldl (one1 t) a).vs.length := by
  intro m
  induction m with
  | nil => intro a; exact Nat.le_refl _
  | cons k m ih =>
    intro a
    refine Nat.le_trans ?_ (ih (one1 t a k))
    unfold one1
    repeat' split
    all_goals simp
 simp only [T9, List.foldl_append]
 exact key m _
theorem X8.length {t : List Nd} : ∀ {ks : List Int} {a n : Nat}, X8 t ks a n -> ks.length + a <= n
 | [], a, n, h => by simp only [X8] at h; simp; omega
 | k :: ks, a, n, h => by
   obtain ⟨_, b, h1, h2⟩ := h
   have := h1.lt
   have := h2.length
   simp only [List.length_cons]; omega
theorem KF.mem {t : List Nd} {g : Nat} : ∀ {ks : List Int} {a n : Nat}, KF t g ks a n -> n <= t.length -> ∀ k ∈ ks, ∃ b, Q9 t g k.toNat = (b, true) /\ k.toNat < b /\ b <= n /\ (k.toNat : Int) = k /\ a <= k.toNat
 | [], a, n, h, _ => by simp
 | z :: zs, a, n, h, hn => by
   obtain ⟨rfl, h1, b, h2, h3, h4, h5⟩ := h.cons
   have hle := h5.le
   intro k hk
   rcases List.mem_cons.1 hk with rfl | hk
   ·exact ⟨b, by simpa using h2, by simpa using h3, hle, by simp, by simp⟩
   ·obtain ⟨c, c1, c2, c3, c4, c5⟩ := h5.mem hn k hk
    exact ⟨c, c1, c2, c3, c4, by omega⟩
theorem O0.kf {t : List Nd} (h : O0 t) : KF t 19 (nd t 0).kids 1 t.length := by
 obtain ⟨g', hg, hk⟩ := a15 h.walk
 obtain rfl : g' = 19 := by omega
 exact hk
theorem O0.item {t : List Nd} (h : O0 t) {k : Nat} (hk : k ∈ (nd t 0).ks) : 1 <= k /\ k < t.length /\ ∃ b, Q9 t 19 k = (b, true) /\ k < b /\ b <= t.length /\ KF t 18 (nd t k).kids (k + 1) b := by
 obtain ⟨z, hz, rfl⟩ := List.mem_map.1 hk
 obtain ⟨b, b1, b2, b3, b4, b5⟩ := h.kf.mem (Nat.le_refl _) z hz
 obtain ⟨g', hg, hkf⟩ := a15 b1
 obtain rfl : g' = 18 := by omega
 exact ⟨b5, by omega, b, b1, b2, b3, hkf⟩
theorem KF.length {t : List Nd} {g : Nat} : ∀ {ks : List Int} {a n : Nat}, KF t g ks a n -> ks.length + a <= n
 | [], a, n, h => by have := h.nil; simp; omega
 | z :: zs, a, n, h => by
   obtain ⟨_, _, b, _, h1, _, h2⟩ := h.cons
   have := h2.length
   simp only [List.length_cons]; omega
theorem KF.drop {t : List Nd} {g : Nat} : ∀ (i : Nat) {ks : List Int} {a n : Nat}, KF t g ks a n -> ∃ b, a <= b /\ KF t g (ks.drop i) b n
 | 0, ks, a, n, h => ⟨a, Nat.le_refl _, h⟩
 | i + 1, [], a, n, h => ⟨a, Nat.le_refl _, h⟩
 | i + 1, z :: zs, a, n, h => by
   obtain ⟨_, _, b, _, h1, _, h2⟩ := h.cons
   obtain ⟨c, c1, c2⟩ := h2.drop i
   exact ⟨c, by omega, c2⟩
theorem a9x {x : Nd} {i : Nat} (h : i < x.kids.length) : x.ks.take (i + 1) = x.ks.take i ++ [x.kid i] := by
 have h' : i < x.ks.length := by rw [a0n]; exact h
 rw [List.take_succ_eq_append_getElem h']
 congr 2
 simp [Nd.ks, Nd.kid, List.getD, h]
theorem a3n {x : Nd} {i : Nat} (h : i < x.ks.length) : x.ks[i] = x.kid i := by
 have h' : i < x.kids.length := by rw [<- a0n]; exact h
 simp [Nd.ks, Nd.kid, List.getD, h']
theorem a13 {t : List Nd} {d : D} (hT : N7 d t) {k : Nat} (hk : k < t.length) {i : Nat} (hi : i < (nd t k).nums.length) : N3 1 (nd t k).dn (.int .i64 (i : Int)) = some (.fp [.int .i64 ((nd t k).num i)] 0) := by
 rw [a3z hi]; exact FI.idx (hT.nd hk).n hi
theorem Hp.newR {s : M1} {W R : Hs} (h : Hp s W R) (z : N9) (cs : List D) : Hp ((s.push z).set s.next (some (.cells cs))) W ((s.next, cs) :: R) := by
 have hf : Fr [] s ((s.push z).set s.next (some (.cells cs))) := (Fr.push _).thenSet _ (.inr (Nat.le_refl _))
 have h' := h.fr hf
 refine ⟨h'.nd, fun w hw r hr => ?_, h'.w, fun x hx => ?_⟩
 ·rcases List.mem_cons.1 hr with rfl | hr
  ·have := M7 (h.w w hw)
   simp only; omega
  ·exact h.ap w hw r hr
 ·rcases List.mem_cons.1 hx with rfl | hx
  ·exact P6 (by simp)
  ·exact h'.r x hx
theorem Hp.newW {s : M1} {W R : Hs} (h : Hp s W R) (z : N9) (cs : List D) : Hp ((s.push z).set s.next (some (.cells cs))) ((s.next, cs) :: W) R := by
 have hf : Fr [] s ((s.push z).set s.next (some (.cells cs))) := (Fr.push _).thenSet _ (.inr (Nat.le_refl _))
 have h' := h.fr hf
 refine ⟨?_, fun w hw r hr => ?_, fun x hx => ?_, h'.r⟩
 ·rw [List.map_cons, List.nodup_cons]
  refine ⟨fun hm => ?_, h.nd⟩
  obtain ⟨x, hx, e⟩ := List.mem_map.1 hm
  have := M7 (h.w x hx)
  simp only at e
  omega
 ·rcases List.mem_cons.1 hw with rfl | hw
  ·have := M7 (h.r r hr)
   simp only; omega
  ·exact h.ap w hw r hr
 ·rcases List.mem_cons.1 hx with rfl | hx
  ·exact P6 (by simp)
  ·exact h'.w x hx
theorem Hp.pushR {s : M1} {W R : Hs} (h : Hp s W R) (cs : List D) : Hp (s.push (.cells cs)) W ((s.next, cs) :: R) := by
 have h' := h.push (.cells cs)
 refine ⟨h'.nd, fun w hw r hr => ?_, h'.w, fun x hx => ?_⟩
 ·rcases List.mem_cons.1 hr with rfl | hr
  ·have := M7 (h.w w hw)
   simp only; omega
  ·exact h.ap w hw r hr
 ·rcases List.mem_cons.1 hx with rfl | hx
  ·exact O5 rfl
  ·exact h'.r x hx
end Go.V
namespace Go.V
theorem O0.sub {t : List Nd} (h : O0 t) : Sub t 0 t.length := (a19 20 h.ok.pos h.walk).1
theorem a47 {x : Nd} {j : Nat} (h : (j : Int) ∈ x.kids) : j ∈ x.ks := List.mem_map.2 ⟨_, h, by simp⟩
theorem a8p {t : List Nd} (h : Y4 t) {p : Nat} (hp : p < t.length) {k : Nat} (hk : k ∈ (nd t p).ks) :
 ((nd t p).kind = 0 /\ 1 <= (nd t k).kind /\ (nd t k).kind <= 5) ∨ ((nd t p).kind = 3 /\ ((nd t k).kind = 2 ∨ a1W (nd t k).kind)) ∨ ((nd t p).kind ≠ 3 /\ (nd t p).kind ≠ 0 /\ 6 <= (nd t k).kind) := by
 have hno := h.node p hp
 have hr := hno.kr
 have hne : (nd t p).kids ≠ [] := by intro e; simp [Nd.ks, e] at hk
 have kidx : ∃ i, i < (nd t p).kids.length /\ k = (nd t p).kid i := by
  obtain ⟨i, hi, e⟩ := List.getElem_of_mem hk
  exact ⟨i, by rw [<- a0n]; exact hi, by rw [<- e, a3n hi]⟩
 obtain ⟨i, hi, rfl⟩ := kidx
 by_cases c0 : (nd t p).kind = 0
 ·exact .inl ⟨c0, hno.prog c0 _ hk⟩
 by_cases c3 : (nd t p).kind = 3
 ·obtain ⟨v, _, h1, h2⟩ := hno.proc c3
  rw [<- List.take_append_drop v (nd t p).ks] at hk
  rcases List.mem_append.1 hk with hk | hk
  ·exact .inr (.inl ⟨c3, .inl (h1 _ hk)⟩)
  ·exact .inr (.inl ⟨c3, .inr (h2 _ hk)⟩)
 refine .inr (.inr ⟨c3, c0, ?_⟩)
 by_cases a : (nd t p).kind = 4 ∨ (nd t p).kind = 6 ∨ (nd t p).kind = 7 ∨ (nd t p).kind = 9 ∨ (nd t p).kind = 20 ∨ (nd t p).kind = 21
 ·have := hno.one a
  obtain rfl : i = 0 := by omega
  have := this.2.1
  omega
 by_cases b : (nd t p).kind = 10
 ·have := (hno.choose b).2 _ hk; omega
 by_cases c : (nd t p).kind = 11
 ·obtain ⟨h1, h2, h3, h4⟩ := hno.cond c
  have h2 := h2.1
  rcases (show i = 0 ∨ i = 1 ∨ i = 2 by omega) with rfl | rfl | rfl
  ·omega
  ·omega
  ·have := h4 (by omega); omega
 by_cases d : (nd t p).kind = 12
 ·obtain ⟨h1, h2, h3⟩ := hno.loop d
  have h2 := h2.1
  rcases (show i = 0 ∨ i = 1 by omega) with rfl | rfl <;> omega
 by_cases e : (nd t p).kind = 13
 ·obtain ⟨h1, h2⟩ := hno.atom e
  obtain rfl : i = 0 := by omega
  omega
 by_cases f : (nd t p).kind = 16
 ·have := (hno.block f _ hk).1; omega
 by_cases g : (nd t p).kind = 22
 ·obtain ⟨h1, h2, h3, _⟩ := hno.bin g
  have h2 := h2.1
  have h3 := h3.1
  rcases (show i = 0 ∨ i = 1 by omega) with rfl | rfl <;> omega
 ·exact (hne (hno.none (by omega))).elim
theorem a8V {t : List Nd} (h : O0 t) {j : Nat} (h0 : 0 < j) (hj : j < t.length) : ∃ p, p < t.length /\ p < j /\ j ∈ (nd t p).ks := by
 obtain ⟨p, _, h2, h3⟩ := h.sub.up j h0 hj
 have := h.ok.kids p h2 _ h3
 exact ⟨p, h2, by omega, a47 h3⟩
theorem b3M {t : List Nd} (h : O0 t) {j : Nat} (hj : j < t.length) (hk : (nd t j).kind = 0) : j = 0 := by
 by_cases h0 : j = 0
 ·exact h0
 obtain ⟨p, p1, _, p3⟩ := a8V h (by omega) hj
 rcases a8p h.ok p1 p3 with ⟨_, k1, _⟩ | ⟨_, k1 | k1⟩ | ⟨_, _, k1⟩
 ·omega
 ·omega
 ·have := k1.1; omega
 ·omega
theorem a8W {t : List Nd} (h : O0 t) {j : Nat} (hj : j < t.length) (hk : (nd t j).kind = 1 ∨ (nd t j).kind = 3 ∨ (nd t j).kind = 4 ∨ (nd t j).kind = 5) : j ∈ (nd t 0).ks := by
 have h0 : j ≠ 0 := by rintro rfl; have := h.ok.root; omega
 obtain ⟨p, p1, _, p3⟩ := a8V h (by omega) hj
 rcases a8p h.ok p1 p3 with ⟨k0, k1, _⟩ | ⟨_, k1 | k1⟩ | ⟨_, _, k1⟩
 ·obtain rfl := b3M h p1 k0
  exact p3
 ·omega
 ·have := k1.1; omega
 ·omega
theorem a6U {t : List Nd} {x : Nd} (h : ∃ v, v <= x.ks.length /\ (∀ k ∈ x.ks.take v, (nd t k).kind = 2) /\ ∀ k ∈ x.ks.drop v, a1W (nd t k).kind) : (∀ k ∈ x.ks.drop (O1 t x), a1W (nd t k).kind) /\ ∀ k ∈ x.ks, (nd t k).kind = 2 -> k ∈ x.ks.take (O1 t x) := by
 obtain ⟨v, hv, h1, h2⟩ := h
 have hl := a6H t x
 have e : O1 t x = v := by
  rcases Nat.lt_trichotomy (O1 t x) v with hlt | heq | hgt
  ·have hi : O1 t x < x.ks.length := by omega
   have := b3h hi
   exact (this (h1 _ (List.mem_take_iff_getElem.2 ⟨O1 t x, by omega, rfl⟩))).elim
  ·exact heq
  ·have hi : v < x.ks.length := by omega
   have a := a6D hgt hi
   have b := h2 x.ks[v] (by rw [List.mem_drop_iff_getElem]; exact ⟨0, by omega, by simp⟩)
   have := b.1; omega
 rw [e]
 refine ⟨h2, fun k hk h3 => ?_⟩
 rw [<- List.take_append_drop v x.ks] at hk
 rcases List.mem_append.1 hk with hk | hk
 ·exact hk
 ·have := (h2 k hk).1; omega
theorem a67 {t : List Nd} (h : O0 t) {j : Nat} (hj : j < t.length) (hk : (nd t j).kind = 2) : j ∈ (nd t 0).ks ∨ ∃ p, p ∈ (nd t 0).ks /\ (nd t p).kind = 3 /\ j ∈ (nd t p).ks.take (O1 t (nd t p)) := by
 have h0 : j ≠ 0 := by rintro rfl; have := h.ok.root; omega
 obtain ⟨p, p1, _, p3⟩ := a8V h (by omega) hj
 rcases a8p h.ok p1 p3 with ⟨k0, k1, _⟩ | ⟨k3, k1⟩ | ⟨_, _, k1⟩
 ·obtain rfl := b3M h p1 k0
  exact .inl p3
 ·exact .inr ⟨p, a8W h p1 (.inr (.inl k3)), k3, (a6U ((h.ok.node p p1).proc k3)).2 j p3 hk⟩
 ·omega
theorem a3b (t : List Nd) (l : List Nat) : T9 t l = ⟨(l.filter fun k => (nd t k).kind == 1).map fun k => a3B (nd t k), (l.filter fun k => (nd t k).kind == 2).map fun k => a1r (nd t k), (l.filter fun k => (nd t k).kind == 4).map fun k => (nd t k).kid 0, l.any fun k => (nd t k).kind == 5⟩ := by
 have key : ∀ (l : List Nat) (a : Ga), l.foldl (one1 t) a = ⟨a.ch ++ (l.filter fun k => (nd t k).kind == 1).map fun k => a3B (nd t k), a.vs ++ (l.filter fun k => (nd t k).kind == 2).map fun k => a1r (nd t k), a.sf ++ (l.filter fun k => (nd t k).kind == 4).map fun k => (nd t k).kid 0, a.dead || l.any fun k => (nd t k).kind == 5⟩ := by
  intro l
  induction l with
  | nil => intro a; simp
  | cons k l ih =>
    intro a
    rw [List.foldl_cons, ih]
    unfold one1
    by_cases c1 : (nd t k).kind = 1
    ·simp [c1]
    by_cases c2 : (nd t k).kind = 2
    ·simp [c2]
    by_cases c4 : (nd t k).kind = 4
    ·simp [c4]
    by_cases c5 : (nd t k).kind = 5
    ·simp [c5]
    ·have c5' : ((nd t k).kind == 5) = false := by rw [beq_eq_false_iff_ne]; exact c5
     simp [c1, c2, c4, c5, c5']
 rw [T9, key]
 simp
theorem b0j {t : List Nd} : ∀ {ks : List Int} {a n : Nat}, X8 t ks a n -> (ks.map Int.toNat).Pairwise (· < ·) /\ ∀ k ∈ ks.map Int.toNat, a <= k
 | [], a, n, _ => by simp
 | k :: ks, a, n, h => by
   obtain ⟨rfl, b, h1, h2⟩ := h
   have := h1.lt
   obtain ⟨s1, s2⟩ := b0j h2
   refine ⟨?_, ?_⟩
   ·rw [List.map_cons, List.pairwise_cons]
    exact ⟨fun x hx => by have := s2 x hx; simp; omega, s1⟩
   ·intro x hx
    rw [List.map_cons, List.mem_cons] at hx
    rcases hx with rfl | hx
    ·simp
    ·have := s2 x hx; omega
theorem O0.sorted {t : List Nd} (h : O0 t) : (nd t 0).ks.Pairwise (· < ·) := (b0j h.subs).1
theorem before {l : List Nat} (h : l.Pairwise (· < ·)) {i : Nat} (hi : i < l.length) {j : Nat} (hj : j ∈ l) (hl : j < l[i]) : j ∈ l.take i := by
 obtain ⟨m, hm, rfl⟩ := List.getElem_of_mem hj
 have hmi : m < i := by
  rcases Nat.lt_trichotomy m i with h1 | h1 | h1
  ·exact h1
  ·subst h1; omega
  ·have := List.pairwise_iff_getElem.1 h i m hi hm h1
   omega
 exact List.mem_take_iff_getElem.2 ⟨m, by omega, rfl⟩
theorem b7T {t : List Nd} (h : O0 t) {i : Nat} (hi : i < (nd t 0).ks.length) {b j : Nat} {w : ByteArray} (hk : (nd t (nd t 0).ks[i]).kind = 3) (hs : Sub t (nd t 0).ks[i] b) (hit : ∀ q, (nd t 0).ks[i] <= q -> q < b -> item t q = (nd t 0).ks[i]) (h1 : (nd t 0).ks[i] <= j) (h2 : j < b) (hw : a0L t 2 j w) :
 w ∈ (T9 t ((nd t 0).ks.take i)).vs.map Vr.name ∨ w ∈ (U5 t (nd t (nd t 0).ks[i])).map (fun y => y.word 0) := by
 obtain ⟨m, m1, m2, m3, m4⟩ := hw
 have hbl := hs.le
 have hml : m < t.length := by omega
 rw [a3b]
 simp only [List.map_map, List.mem_map, List.mem_filter, beq_iff_eq, Function.comp_apply]
 rw [hit j h1 h2] at m3
 rcases a67 h hml m2 with v | ⟨p, p1, p2, p3⟩
 ·left
  refine ⟨m, ⟨before h.sorted hi v ?_, m2⟩, m4⟩
  rcases Nat.lt_or_ge m (nd t 0).ks[i] with hlt | hge
  ·exact hlt
  ·have e1 := hit m hge (by omega)
   have e2 := a3m h (x := m) (by
    obtain ⟨z, hz, e⟩ := List.mem_map.1 v
    have := (h.subs.mem z hz).1
    rw [show (m : Int) = z by omega]
    exact hz)
   rw [e2] at e1
   rw [e1] at m2
   omega
 ·right
  have hpm : m ∈ (nd t p).ks := List.mem_of_mem_take p3
  obtain ⟨hp1, hp2, c, c1, c2, c3, c4⟩ := h.item p1
  have hpz : (p : Int) ∈ (nd t 0).kids := by
   obtain ⟨z, hz, e⟩ := List.mem_map.1 p1
   have := (h.subs.mem z hz).1
   rw [show (p : Int) = z by omega]
   exact hz
  have hsp := (a19 19 hp2 c1).1
  obtain ⟨b', b1, b2, b3⟩ := b0I h (x := p) (i := m) hpz
  have hkm : p < m /\ m < b' := by
   obtain ⟨z, hz, e⟩ := List.mem_map.1 hpm
   have := b1.down p (Nat.le_refl _) b1.lt z hz
   omega
  have hmp := b3 m (by omega) hkm.2
  rw [hmp] at m3
  have hpe : p = (nd t 0).ks[i] := by
   rcases m3 with e | e
   ·omega
   ·exact e
  subst hpe
  unfold U5
  exact ⟨nd t m, List.mem_map_of_mem p3, m4⟩
theorem c2c {t : List Nd} (h : O0 t) {j : Nat} {w : ByteArray} (hj : j < t.length) (hw : a0L t 1 j w) : w ∈ chs t := by
 obtain ⟨m, m1, m2, m3, m4⟩ := hw
 have hm := a8W h (by omega) (.inl m2)
 unfold chs gat
 rw [a3b]
 simp only [List.map_map, List.mem_map, List.mem_filter, beq_iff_eq, Function.comp_apply]
 exact ⟨m, ⟨hm, m2⟩, m4⟩
end Go.V
namespace Go.V
theorem Hp.freeze {s : M1} {W W' F R : Hs} (h : Hp s W R) (hp : W.Perm (W' ++ F)) : Hp s W' (F ++ R) := by
 have h' := h.perm hp.symm
 have hn := h'.nd
 rw [List.map_append, List.nodup_append] at hn
 refine ⟨hn.1, fun w hw r hr => ?_, h'.w.left, h'.w.right.append h'.r⟩
 rcases List.mem_append.1 hr with hr | hr
 ·exact hn.2.2 _ (List.mem_map_of_mem hw) _ (List.mem_map_of_mem hr)
 ·exact h'.ap w (List.mem_append_left _ hw) r hr
theorem a20.ne_nil {cs rest : List D} (h : a20 cs) : D.nils :: rest ≠ cs := by
 rcases h with ⟨l, rfl⟩ | ⟨l, rfl⟩ | ⟨l, rfl⟩ | ⟨l, rfl⟩ <;> cases l <;> simp [P3, S2, Q5, V9, Ed.row]
structure a6Z (s : M1) (m : MdX) (mo : Mo) (ps : List (Pr × PrD)) : Prop where
 tr : N7 m.dt mo.tree
 c : SN s 5 m.dc (a0f mo.chans)
 v : SN s 3 m.dv (X4 mo.vars)
 p : SN s 8 m.dp (a0I ps)
 eq : ps.map Prod.fst = mo.procs
 at' : ∀ q ∈ ps, N8 s q.1 q.2
 sf : SN s 1 m.ds (P3 mo.safe)
 g : m.g = (mo.globals : Int)
 b : m.b = mo.dead
structure MkI (s : M1) (d dc ds : D) (g : Int) (b : Bool) (z : List D) (R0 : Hs) (vs : List Vr) (ps' : List Pr) (dv dp : D) (Ev Ep R : Hs) (ps : List (Pr × PrD)) : Prop where
 v : Rp dv 3 (X4 vs) Ev
 p : Rp dp 8 (a0I ps) Ep
 eq : ps.map Prod.fst = ps'
 at' : ∀ q ∈ ps, InR (fun s => N8 s q.1 q.2) R
 sub : ∀ x ∈ R0, x ∈ R
 h : Hp s ((0, z) :: (2, [d, .int .i64 g, dc, dv, dp, ds, .bool b]) :: (Ev ++ Ep)) R
theorem a7S {t : List Nd} (h : O0 t) (ht : a0O t) {k : Nat} (hk : k ∈ (nd t 0).ks) (h3 : (nd t k).kind = 3) : 1 <= (nd t k).num 0 /\ (nd t k).num 0 <= 4 := by
 obtain ⟨k1, k2, _⟩ := h.item hk
 have hf := (ht.fine k k2).proc h3
 have hz : (k : Int) ∈ (nd t 0).kids := by
  obtain ⟨z, hz, e⟩ := List.mem_map.1 hk
  have := (h.subs.mem z hz).1
  rw [show (k : Int) = z by omega]
  exact hz
 have hi := a3m h hz
 have hs := a8m h (kind := 3) (i := k) (by omega)
 have h2 := hf.2
 rw [P7] at h2
 have e : a0V t 3 k = min ((nd t k).num 0) 100 := by
  unfold a0V a1M
  rw [if_neg (by decide), hi, if_pos h3]
 split at h2
 ·rw [e] at h2; omega
 ·rename_i hc
  have : ¬ P7 t 3 k < 100 := fun hlt => hc ⟨hlt, h3⟩
  omega
theorem c1G {vs : List Vr} {v : Nat} (h : v < vs.length) : (X4 vs).flatten[v * 3]? = some (.str vs[v].name) := by
 have := a43 (a6w vs) (i := v) (f := 0) (by simpa using h) (by decide)
 rw [Nat.add_zero] at this
 rw [this]
 simp [X4, Vr.row]
theorem Rp.arr {d : D} {sz : Nat} {rows : List (List D)} {E : Hs} (h : Rp d sz rows E) (hn : 0 < rows.length) : ∃ id, d = .arr id 0 rows.length sz /\ E = [(id, rows.flatten)] := by
 rcases h with ⟨_, rfl, _⟩ | ⟨id, h1, h2, _⟩
 ·simp at hn
 ·exact ⟨id, h1, h2⟩
theorem c3W {vs : List Vr} {v : Nat} (h : v < vs.length) : (vs.take (v + 1)).map Vr.name = (vs.take v).map Vr.name ++ [vs[v].name] := by
 rw [List.take_succ_eq_append_getElem h, List.map_append, List.map_singleton]
theorem a91 (n k : Nat) : (List.range (k + 1)).map (n + ·) = (List.range k).map (n + ·) ++ [n + k] := by
 rw [List.range_succ, List.map_append, List.map_singleton]
theorem b0y (t : List Nd) (l m : List Nat) : ∃ r, (T9 t (l ++ m)).vs = (T9 t l).vs ++ r := by
 rw [a3b, a3b]
 simp only [List.filter_append, List.map_append]
 exact ⟨_, rfl⟩
theorem b1h (t : List Nd) (ch : List ByteArray) (i : Nat) : (Z2 t ch (gat t).vs ((nd t 0).ks.take i)).vs.take (Z2 t ch (gat t).vs ((nd t 0).ks.take i)).seen = (T9 t ((nd t 0).ks.take i)).vs /\ (Z2 t ch (gat t).vs ((nd t 0).ks.take i)).seen <= (Z2 t ch (gat t).vs ((nd t 0).ks.take i)).vs.length /\ (Z2 t ch (gat t).vs ((nd t 0).ks.take i)).seen <= (gat t).vs.length := by
 obtain ⟨m, hm⟩ := a8w t ch (gat t).vs ((nd t 0).ks.take i)
 obtain ⟨r, hr⟩ := b0y t ((nd t 0).ks.take i) ((nd t 0).ks.drop i)
 rw [List.take_append_drop] at hr
 have hg : (gat t).vs = (T9 t ((nd t 0).ks.take i)).vs ++ r := hr
 rw [b1s, hm, hg]
 refine ⟨?_, ?_, ?_⟩
 ·rw [List.append_assoc, List.take_left]
 ·simp only [List.length_append]; omega
 ·simp only [List.length_append]; omega
theorem b34 {t : List Nd} {ch : List ByteArray} {k seen c : Nat} {a : List Vr × List Pr} (h : seen <= a.1.length) : (T8 t ch k seen c a).1.take seen = a.1.take seen /\ a.1.length <= (T8 t ch k seen c a).1.length := by
 obtain ⟨l, hl⟩ := a84 t ch k seen c a
 rw [hl, List.take_append_of_le_length h]
 exact ⟨rfl, by simp⟩
theorem b6X {t : List Nd} {x : Nd} {k : Nat} (h : k < O1 t x) : (U5 t x).take (k + 1) = (U5 t x).take k ++ [nd t (x.kid k)] := by
 have h0 : k < (U5 t x).length := by simpa using h
 rw [List.take_succ_eq_append_getElem h0]
 congr 2
 simp only [U5, List.getElem_map, List.getElem_take]
 rw [a3n]
theorem Sub.uniq {t : List Nd} {i b b' : Nat} (h : Sub t i b) (h' : Sub t i b') : b = b' := by
 have key : ∀ {b b' : Nat}, Sub t i b -> Sub t i b' -> ¬ b < b' := by
  intro b b' h h' hlt
  obtain ⟨p, p1, p2, p3⟩ := h'.up b h.lt hlt
  have h3 := h'.down p p1 p2 _ p3
  have := h.down p p1 (by omega) _ p3
  omega
 have := key h h'
 have := key h' h
 omega
theorem a5r {t : List Nd} (h : O0 t) {k : Nat} (hk : k ∈ (nd t 0).ks) : (k : Int) ∈ (nd t 0).kids := by
 obtain ⟨z, hz, e⟩ := List.mem_map.1 hk
 have := (h.subs.mem z hz).1
 rw [show (k : Int) = z by omega]
 exact hz
theorem a3C {t : List Nd} (h : O0 t) {k b : Nat} (hk : k ∈ (nd t 0).ks) (hs : Sub t k b) : ∀ q, k <= q -> q < b -> item t q = k := by
 obtain ⟨b', b1, _, b3⟩ := b0I h (x := k) (i := k) (a5r h hk)
 rw [hs.uniq b1]
 exact b3
theorem b1V {t : List Nd} (h : O0 t) (hS : a1F t) {i K b : Nat} (hi : i < (nd t 0).ks.length) (hK : (nd t 0).ks[i] = K) (h3 : (nd t K).kind = 3) (hs : Sub t K b) {seen c : Nat} {vs : List Vr} (hv : vs.take seen = (T9 t ((nd t 0).ks.take i)).vs) (hl : seen <= vs.length) :
 ∀ j, K <= j /\ j < b -> a6v t (gat t).ch.length ((gat t).ch.map Ch.name) (pr0 (nd t K) c seen vs (U5 t (nd t K))).names (pr0 (nd t K) c seen vs (U5 t (nd t K))).vars j := by
 intro j ⟨j1, j2⟩
 have hle := hs.le
 have hm : K ∈ (nd t 0).ks := hK ▸ List.getElem_mem hi
 have hit := a3C h hm hs
 subst hK
 have hvar : ∀ w, a0L t 2 j w -> 0 < (pr0 (nd t (nd t 0).ks[i]) c seen vs (U5 t (nd t (nd t 0).ks[i]))).names.length := fun w hw => by
  have := b7T h hi h3 hs hit j1 j2 hw
  rw [<- hv, <- List.mem_append] at this
  exact List.length_pos_of_mem this
 refine ⟨?_, by simp, fun hk => ?_, fun hk => ?_⟩
 ·simp only [pr0, List.length_append, List.length_map, List.length_take, List.length_range]; omega
 ·rcases hk with hk | hk
  ·exact hvar _ (hS.use j (by omega) (.inl hk))
  ·exact hvar _ (hS.recv j (by omega) hk)
 ·exact List.length_pos_of_mem (c2c h (by omega) (hS.chan j (by omega) (by omega)))
end Go.V
namespace Go.Proofs.YtnjlhebkhjcagaaGreat
open Go.V
set_option maxRecDepth 100000
set_option maxHeartbeats 4000000
theorem c3C {d : D} {t : List Nd} (hT : N7 d t) (hR : O0 t) :
 EvP vfs 34 [d] M1.empty fun r s' => r = .tup [.agg [.nils, .int .i64 0, .nils, .nils, .nils, .nils, .bool false], .bool false] ∨ (a1F t /\ a0O t /\ ∃ m ps, r = .tup [.agg (N6 m), .bool true] /\ a6Z s' m (a2a t) ps /\ m.dp ≠ .lst 8 (a0I ps)) := by
 have hlen := hT.len
 have hle := hR.ok.le
 have hpos := hR.ok.pos
 have hks := hR.subs.length
 obtain ⟨e, a, hc, hp⟩ := b5E hT hR
 obtain ⟨sc, hc⟩ := hc
 by_cases c0 : e = 0
 rotate_left
 ·have c0' : (e != 0) = true := by rw [bne_iff_ne]; exact c0
  refine M8 (vf := a5f) rfl ?_
  unfold a5f; refine zE ?_
  repeat first
  |(refine a1I rfl (fz1 hT.fz) hc rfl rfl ?_)
  |refine zW c0' ?_
  exact ⟨.inr trivial, _, rR, .inl rfl⟩
 subst c0
 have c0' : ((0 : Int) != 0) = false := rfl
 have h0 := hT.at (z := 0) (by omega) (by omega) (k := .i64)
 have x0 := hT.nd (i := 0) (by omega)
 have z0 : (0 : Int).toNat = 0 := rfl
 rw [z0] at h0
 have o1 := FL.one x0.w
 have o2 := FL.one x0.n
 have o3 := FL.one x0.k
 have hkl := FI.len x0.k
 have od := FL.one hT.fl
 refine M8 (vf := a5f) rfl ?_
 unfold a5f; refine zE ?_
 repeat first
 |(refine a1I rfl (fz1 hT.fz) hc rfl rfl ?_)
 |refine zW (aN c0' od) ?_
 refine a2X (P := fun env s => ∃ (dc dv ds : D) (Ec Ev Es : Hs),
  Rp dc 5 (a0f (gat t).ch) Ec /\ Rp dv 3 (X4 (gat t).vs) Ev /\ Rp ds 1 (P3 (gat t).sf) Es /\
  Hp s ((0, [.nils, .int .i64 0, .nils, .nils, .nils, .nils, .bool false]) :: (2, [d, .int .i64 0, dc, dv, .nils, ds, .bool (gat t).dead]) :: (Ec ++ (Ev ++ Es))) [] /\ (env.get 0 = d /\ env.get 2 = .ptr 0 0 /\ env.get 5 = .ptr 2 0)) ?_ ?_
 ·refine S9 (Q := N4 0 _) (fun n env s => ∃ (i : Nat) (dc dv ds : D) (Ec Ev Es : Hs), i <= (nd t 0).kids.length /\ n = (nd t 0).kids.length - i /\
   Rp dc 5 (a0f (T9 t ((nd t 0).ks.take i)).ch) Ec /\ Rp dv 3 (X4 (T9 t ((nd t 0).ks.take i)).vs) Ev /\ Rp ds 1 (P3 (T9 t ((nd t 0).ks.take i)).sf) Es /\
   Hp s ((0, [.nils, .int .i64 0, .nils, .nils, .nils, .nils, .bool false]) :: (2, [d, .int .i64 0, dc, dv, .nils, ds, .bool (T9 t ((nd t 0).ks.take i)).dead]) :: (Ec ++ (Ev ++ Es))) [] /\ (env.get 0 = d /\ env.get 2 = .ptr 0 0 /\ env.get 5 = .ptr 2 0 /\ env.get 6 = .int .i64 (i : Int))) ?_ (nd t 0).kids.length _ _ ?_
  rotate_left
  ·refine ⟨0, .nils, .nils, .nils, [], [], [], by omega, rfl, .inl ⟨rfl, rfl, rfl⟩, .inl ⟨rfl, rfl, rfl⟩, .inl ⟨rfl, rfl, rfl⟩, ?_, by simp [Env.get, O8.at]; rfl⟩
   refine ⟨by simp, by simp, ?_, by simp [Has]⟩
   intro x hx
   simp only [List.append_nil, List.mem_cons, List.not_mem_nil, or_false] at hx
   rcases hx with rfl | rfl <;> rfl
  ·rintro n env s ⟨i, dc, dv, ds, Ec, Ev, Es, hi, rfl, rc, rv, rs, hh, hE⟩
   have hb := a86 t ((nd t 0).ks.take i)
   have hb1 : ((nd t 0).ks.take i).length <= i := by simp; omega
   have hM := Hp.get (A := [(0, _)]) hh
   have hMl := M7 hM
   by_cases c1 : i < (nd t 0).kids.length
   ·have c1' : ((i : Int) < ((nd t 0).kids.length : Int)) = True := eq_true (by omega)
    have hs : IntKind.i64.wrap ((i : Int) + 1) = ((i + 1 : Nat) : Int) := by rw [O4 (by omega) (by omega)]; omega
    have hki := a0d hT hR.ok (k := 0) (by omega) c1
    have hkm := X2 c1
    have hkt := a9x c1
    generalize (nd t 0).kid i = K at *
    obtain ⟨K1, K2, -⟩ := hR.item hkm
    have hidx := hT.at (z := (K : Int)) (by omega) (by omega) (k := .i64)
    rw [Int.toNat_natCast] at hidx
    have on := a0o hT K2
    have hno := hR.ok.node K K2
    have hpr := hR.ok.node 0 (by omega)
    have hw := a2e hT K2 (i := 0)
    have n0 := a13 hT K2 (i := 0)
    have n1 := a13 hT K2 (i := 1)
    have n2 := a13 hT K2 (i := 2)
    have n3 := a13 hT K2 (i := 3)
    have k0 := a0d hT hR.ok K2 (i := 0)
    have e0 : ((0 : Nat) : Int) = 0 := rfl
    have e1 : ((1 : Nat) : Int) = 1 := rfl
    have e2 : ((2 : Nat) : Int) = 2 := rfl
    have e3 : ((3 : Nat) : Int) = 3 := rfl
    rw [hno.wl, e0] at hw
    rw [hno.nl] at n0 n1 n2 n3
    rw [e0] at n0 k0
    rw [e1] at n1
    rw [e2] at n2
    rw [e3] at n3
    have hnx : T9 t ((nd t 0).ks.take (i + 1)) = one1 t (T9 t ((nd t 0).ks.take i)) K := by rw [hkt, c31]
    generalize hA : T9 t ((nd t 0).ks.take i) = a at *
    have fr : ∀ z o, Fr [] s ((s.push z).set s.next (some o)) := fun z o => (Fr.push _).thenSet _ (.inr (Nat.le_refl _))
    by_cases q1 : (nd t K).kind = 1
    ·rw [q1] at hw n0 n1 n2 n3
     have hw := hw (by decide)
     have n0 := n0 (by decide)
     have n1 := n1 (by decide)
     have n2 := n2 (by decide)
     have n3 := n3 (by decide)
     have q1' : ((nd t K).kind == 1) = true := by rw [q1]; rfl
     have e : one1 t a K = { a with ch := a.ch ++ [a3B (nd t K)] } := by unfold one1; rw [if_pos q1]
     rw [e] at hnx
     try refine zW (aN hE (aN hM (aN o1 (aN o2 (aN o3 (aN h0 (aN hkl (aN c1' (aN hki (aN hidx (aN on (aN q1' (aN rc.one (aN rv.one (aN rs.one (aN od (aN hw (aN n0 (aN n1 (aN n2 n3)))))))))))))))))))) ?_
     refine a02 (Rp.app (A := [(0, _), (2, _)]) (B := Ev ++ Es) rc (hh.fr ((fr _ _).thenPush _)) (O5 rfl) rfl (a9m _) (by decide) (by simp; omega)) rfl rfl ?_
     rintro d' s' ⟨E', rc', hh', hn'⟩
     have od' := rc'.one
     simp only [List.append_assoc, List.cons_append, List.nil_append] at hh'
     have hM' := Hp.get (A := [(0, _)]) hh'
     have hMl' := M7 hM'
     simp only [M1.next_push, M1.next_set] at hn'
     try refine zW (aN hM' (aN od' (aN rv.one (aN rs.one (aN od (aN hE hs)))))) ?_
     refine ⟨(nd t 0).kids.length - (i + 1), by omega, i + 1, d', dv, ds, E', Ev, Es, by omega, rfl, ?_, ?_, ?_, ?_, (rG hE)⟩
     ·rw [hnx]; show Rp d' 5 (a0f (a.ch ++ [a3B (nd t K)])) E'; rw [<- c25]; exact rc'
     ·rw [hnx]; exact rv
     ·rw [hnx]; exact rs
     ·rw [hnx]
      exact Hp.set (A := [(0, _)]) hh' [d, .int .i64 0, d', dv, .nils, ds, .bool a.dead]
    have q1' : ((nd t K).kind == 1) = false := by rw [beq_eq_false_iff_ne]; exact q1
    by_cases q2 : (nd t K).kind = 2
    ·rw [q2] at hw n0 n1
     have hw := hw (by decide)
     have n0 := n0 (by decide)
     have n1 := n1 (by decide)
     have q2' : ((nd t K).kind == 2) = true := by rw [q2]; rfl
     have e : one1 t a K = { a with vs := a.vs ++ [a1r (nd t K)] } := by unfold one1; rw [if_neg q1, if_pos q2]
     rw [e] at hnx
     try refine zW (aN hE (aN hM (aN o1 (aN o2 (aN o3 (aN h0 (aN hkl (aN c1' (aN hki (aN hidx (aN on (aN q1' (aN q2' (aN rc.one (aN rv.one (aN rs.one (aN od (aN hw (aN n0 n1))))))))))))))))))) ?_
     refine a02 (Rp.app (A := [(0, _), (2, _)] ++ Ec) (B := Es) rv (by simpa only [List.append_assoc, List.cons_append, List.nil_append] using (hh.fr ((fr _ _).thenPush _))) (O5 rfl) rfl (a6w _) (by decide) (by simp; omega)) rfl rfl ?_
     rintro d' s' ⟨E', rv', hh', hn'⟩
     have od' := rv'.one
     simp only [List.append_assoc, List.cons_append, List.nil_append] at hh'
     have hM' := Hp.get (A := [(0, _)]) hh'
     have hMl' := M7 hM'
     simp only [M1.next_push, M1.next_set] at hn'
     try refine zW (aN hM' (aN rc.one (aN od' (aN rs.one (aN od (aN hE hs)))))) ?_
     refine ⟨(nd t 0).kids.length - (i + 1), by omega, i + 1, dc, d', ds, Ec, E', Es, by omega, rfl, ?_, ?_, ?_, ?_, (rG hE)⟩
     ·rw [hnx]; exact rc
     ·rw [hnx]; show Rp d' 3 (X4 (a.vs ++ [a1r (nd t K)])) E'; rw [<- b3q]; exact rv'
     ·rw [hnx]; exact rs
     ·rw [hnx]
      exact Hp.set (A := [(0, _)]) hh' [d, .int .i64 0, dc, d', .nils, ds, .bool a.dead]
    have q2' : ((nd t K).kind == 2) = false := by rw [beq_eq_false_iff_ne]; exact q2
    by_cases q4 : (nd t K).kind = 4
    ·have hone := hno.one (.inl q4)
     have k0 := k0 (by omega)
     have q4' : ((nd t K).kind == 4) = true := by rw [q4]; rfl
     have e : one1 t a K = { a with sf := a.sf ++ [(nd t K).kid 0] } := by unfold one1; rw [if_neg q1, if_neg q2, if_pos q4]
     rw [e] at hnx
     try refine zW (aN hE (aN hM (aN o1 (aN o2 (aN o3 (aN h0 (aN hkl (aN c1' (aN hki (aN hidx (aN on (aN q1' (aN q2' (aN q4' (aN rc.one (aN rv.one (aN rs.one (aN od k0)))))))))))))))))) ?_
     refine a02 (Rp.app (A := [(0, _), (2, _)] ++ Ec ++ Ev) (B := []) rs (by simpa only [List.append_assoc, List.cons_append, List.nil_append, List.append_nil] using (hh.fr ((fr _ _).thenPush _))) (O5 rfl) rfl (a2f _) (by decide) (by simp; omega)) rfl rfl ?_
     rintro d' s' ⟨E', rs', hh', hn'⟩
     have od' := rs'.one
     simp only [List.append_assoc, List.cons_append, List.nil_append, List.append_nil] at hh'
     have hM' := Hp.get (A := [(0, _)]) hh'
     have hMl' := M7 hM'
     simp only [M1.next_push, M1.next_set] at hn'
     try refine zW (aN hM' (aN rc.one (aN rv.one (aN od' (aN od (aN hE hs)))))) ?_
     refine ⟨(nd t 0).kids.length - (i + 1), by omega, i + 1, dc, dv, d', Ec, Ev, E', by omega, rfl, ?_, ?_, ?_, ?_, (rG hE)⟩
     ·rw [hnx]; exact rc
     ·rw [hnx]; exact rv
     ·rw [hnx]; show Rp d' 1 (P3 (a.sf ++ [(nd t K).kid 0])) E'; rw [<- a6J]; exact rs'
     ·rw [hnx]
      exact Hp.set (A := [(0, _)]) hh' [d, .int .i64 0, dc, dv, .nils, d', .bool a.dead]
    have q4' : ((nd t K).kind == 4) = false := by rw [beq_eq_false_iff_ne]; exact q4
    by_cases q5 : (nd t K).kind = 5
    ·have q5' : ((nd t K).kind == 5) = true := by rw [q5]; rfl
     have e : one1 t a K = { a with dead := true } := by unfold one1; rw [if_neg q1, if_neg q2, if_neg q4, if_pos q5]
     rw [e] at hnx
     try refine zW (aN hE (aN hM (aN o1 (aN o2 (aN o3 (aN h0 (aN hkl (aN c1' (aN hki (aN hidx (aN on (aN q1' (aN q2' (aN q4' (aN q5' (aN rc.one (aN rv.one (aN rs.one (aN od hs))))))))))))))))))) ?_
     refine ⟨(nd t 0).kids.length - (i + 1), by omega, i + 1, dc, dv, ds, Ec, Ev, Es, by omega, rfl, ?_, ?_, ?_, ?_, (rG hE)⟩
     ·rw [hnx]; exact rc
     ·rw [hnx]; exact rv
     ·rw [hnx]; exact rs
     ·rw [hnx]
      exact Hp.set (A := [(0, _)]) (hh.fr (fr _ _)) [d, .int .i64 0, dc, dv, .nils, ds, .bool true]
    ·have q5' : ((nd t K).kind == 5) = false := by rw [beq_eq_false_iff_ne]; exact q5
     have e : one1 t a K = a := by unfold one1; rw [if_neg q1, if_neg q2, if_neg q4, if_neg q5]
     rw [e] at hnx
     try refine zW (aN hE (aN hM (aN o1 (aN o2 (aN o3 (aN h0 (aN hkl (aN c1' (aN hki (aN hidx (aN on (aN q1' (aN q2' (aN q4' (aN q5' (aN rc.one (aN rv.one (aN rs.one (aN od hs))))))))))))))))))) ?_
     refine ⟨(nd t 0).kids.length - (i + 1), by omega, i + 1, dc, dv, ds, Ec, Ev, Es, by omega, rfl, ?_, ?_, ?_, ?_, (rG hE)⟩
     ·rw [hnx]; exact rc
     ·rw [hnx]; exact rv
     ·rw [hnx]; exact rs
     ·rw [hnx]
      exact hh.fr (fr _ _)
   ·have c1' : ((i : Int) < ((nd t 0).kids.length : Int)) = False := eq_false (by omega)
    obtain rfl : i = (nd t 0).kids.length := by omega
    have hall : (nd t 0).ks.take (nd t 0).kids.length = (nd t 0).ks := by rw [<- a0n, List.take_length]
    rw [hall] at rc rv rs hh hM
    try refine zW (aN hE (aN hM (aN o1 (aN o2 (aN o3 (aN h0 (aN hkl (aN c1' od)))))))) ?_
    exact ⟨trivial, dc, dv, ds, Ec, Ev, Es, rc, rv, rs, hh, (rG hE)⟩
 rintro env s ⟨dc, dv, ds, Ec, Ev, Es, rc, rv, rs, hh, hE⟩
 have hvl := rv.len
 rw [a9w] at hvl
 have oc := rc.one
 have ov := rv.one
 have os := rs.one
 have hM := Hp.get (A := [(0, _)]) hh
 have hMl := M7 hM
 simp only [P0]
 try refine zW (aN hE (aN hM (aN od (aN oc (aN ov (aN os hvl)))))) ?_
 have hg1 := a86 t (nd t 0).ks
 rw [a0n] at hg1
 have hcl : (gat t).ch.length <= 800 := by unfold gat; omega
 have hgl : (gat t).vs.length <= 800 := by unfold gat; omega
 have hh2 := Hp.freeze (W' := (0, [.nils, .int .i64 0, .nils, .nils, .nils, .nils, .bool false]) :: (2, [d, .int .i64 (((gat t).vs.length : Nat) : Int), dc, dv, .nils, ds, .bool (gat t).dead]) :: (Ev ++ [])) (F := Ec ++ Es) (Hp.set (A := [(0, _)]) hh [d, .int .i64 (((gat t).vs.length : Nat) : Int), dc, dv, .nils, ds, .bool (gat t).dead]) (by
  simp only [List.append_nil, List.cons_append, List.nil_append]
  refine .cons _ (.cons _ ?_)
  rw [<- List.append_assoc, <- List.append_assoc]
  exact List.perm_append_comm.append_right _)
 have fc : InR (fun s => SN s 5 dc (a0f (gat t).ch)) (Ec ++ Es) := fun s hs => rc.sn hs.left
 have fs : InR (fun s => SN s 1 ds (P3 (gat t).sf)) (Ec ++ Es) := fun s hs => rs.sn hs.right
 rw [List.append_nil, List.append_nil] at hh2
 generalize Ec ++ Es = R0 at *
 refine a2X (P := fun env s => ∃ (dv dp : D) (Ev Ep R : Hs) (ps : List (Pr × PrD)), MkI s d dc ds (((gat t).vs.length : Nat) : Int) (gat t).dead [.nils, .int .i64 0, .nils, .nils, .nils, .nils, .bool false] R0 (gbt t).vs (gbt t).ps dv dp Ev Ep R ps /\ (env.get 0 = d /\ env.get 2 = .ptr 0 0 /\ env.get 5 = .ptr 2 0)) ?_ ?_
 rotate_left
 ·clear hE
  rintro env s ⟨dv, dp, Ev, Ep, R, ps, hI, hE⟩
  have ov := hI.v.one
  have op := hI.p.one
  have hM := Hp.get (A := [(0, _)]) hI.h
  have hZ := Hp.get (A := []) hI.h
  have hMl := M7 hM
  have hZl := M7 hZ
  simp only [P0]
  try refine zW (aN hE (aN hM (aN hZ (aN od (aN oc (aN ov (aN os op))))))) ?_
  have hf := Hp.set (A := []) hI.h [d, .int .i64 (((gat t).vs.length : Nat) : Int), dc, dv, dp, ds, .bool (gat t).dead]
  have hrr : ∀ x ∈ R0, x ∈ R := hI.sub
  refine ⟨.inr trivial, _, ?_, .inr ⟨(hp rfl).1, (hp rfl).2, ⟨d, dc, dv, dp, ds, (((gat t).vs.length : Nat) : Int), (gat t).dead⟩, ps, rfl, ?_, by rcases hI.p with ⟨e, _⟩ | ⟨id, e, _⟩ <;> simp [e]⟩⟩
  ·simp only [R9, S1, T0, Env.get, Nat.reduceEqDiff, ↓reduceIte, hE, P6 hZl]
   rfl
  ·refine ⟨hT, fc _ fun x hx => hf.r x (hrr x hx), hI.v.sn fun x hx => hf.w x (by simp [hx]), hI.p.sn fun x hx => hf.w x (by simp [hx]), hI.eq, fun q hq => hI.at' q hq _ hf.r, fs _ fun x hx => hf.r x (hrr x hx), rfl, rfl⟩
 refine S9 (Q := N4 3 _) (fun n env s => ∃ (i : Nat) (dv dp : D) (Ev Ep R : Hs) (ps : List (Pr × PrD)), i <= (nd t 0).kids.length /\ n = (nd t 0).kids.length - i /\
  MkI s d dc ds (((gat t).vs.length : Nat) : Int) (gat t).dead [.nils, .int .i64 0, .nils, .nils, .nils, .nils, .bool false] R0 (Z2 t (chs t) (gat t).vs ((nd t 0).ks.take i)).vs (Z2 t (chs t) (gat t).vs ((nd t 0).ks.take i)).ps dv dp Ev Ep R ps /\ (Z2 t (chs t) (gat t).vs ((nd t 0).ks.take i)).vs.length <= 800 + 3200 * i /\ ps.length <= 4 * i /\
  (env.get 0 = d /\ env.get 2 = .ptr 0 0 /\ env.get 5 = .ptr 2 0 /\ env.get 8 = .int .i64 ((Z2 t (chs t) (gat t).vs ((nd t 0).ks.take i)).seen : Int) /\ env.get 9 = .int .i64 (i : Int))) ?_ (nd t 0).kids.length _ _ ?_
 rotate_left
 ·refine ⟨0, dv, .nils, Ev, [], R0, [], by omega, rfl, ⟨rv, .inl ⟨rfl, rfl, rfl⟩, rfl, by simp, fun _ h => h, by rw [List.append_nil]; exact hh2⟩, ?_, by simp, by simp [Env.get, hE]; rfl⟩
  show (gat t).vs.length <= _
  omega
 clear hh2 hE hM hMl rv ov hvl hh
 rintro n env s ⟨i, dv, dp, Ev, Ep, R, ps, hi, rfl, hI, hvb, hpb, hE⟩
 have ov := hI.v.one
 have op := hI.p.one
 have hM := Hp.get (A := [(0, _)]) hI.h
 have hMl := M7 hM
 by_cases c1 : i < (nd t 0).kids.length
 rotate_left
 ·have c1' : ((i : Int) < ((nd t 0).kids.length : Int)) = False := eq_false (by omega)
  obtain rfl : i = (nd t 0).kids.length := by omega
  have hall : (nd t 0).ks.take (nd t 0).kids.length = (nd t 0).ks := by rw [<- a0n, List.take_length]
  rw [hall] at hI
  try refine zW (aN hE (aN hM (aN o1 (aN o2 (aN o3 (aN h0 (aN hkl (aN c1' od)))))))) ?_
  exact ⟨trivial, dv, dp, Ev, Ep, R, ps, hI, (rG hE)⟩
 have c1' : ((i : Int) < ((nd t 0).kids.length : Int)) = True := eq_true (by omega)
 have hs : IntKind.i64.wrap ((i : Int) + 1) = ((i + 1 : Nat) : Int) := by rw [O4 (by omega) (by omega)]; omega
 have hki := a0d hT hR.ok (k := 0) (by omega) c1
 have hkm := X2 c1
 have hkt := a9x c1
 have hkg := a3n (x := nd t 0) (i := i) (by rw [a0n]; exact c1)
 generalize hK : (nd t 0).kid i = K at *
 obtain ⟨K1, K2, bK, bw, bl, bl2, bkf⟩ := hR.item hkm
 have hidx := hT.at (z := (K : Int)) (by omega) (by omega) (k := .i64)
 rw [Int.toNat_natCast] at hidx
 have on := a0o hT K2
 have hno := hR.ok.node K K2
 have hnx : Z2 t (chs t) (gat t).vs ((nd t 0).ks.take (i + 1)) = a0U t (chs t) (Z2 t (chs t) (gat t).vs ((nd t 0).ks.take i)) K := by rw [hkt, b3y]
 obtain ⟨tk1, tk2, tk3⟩ := b1h t (chs t) i
 generalize Z2 t (chs t) (gat t).vs ((nd t 0).ks.take i) = b at *
 have hN := hI.h.newR (.cells [.int .i64 0, .nils, .nils, .nils, .int .i64 0]) [.int .i64 (nd t K).kind, (nd t K).dw, (nd t K).dn, (nd t K).dk, .int .i64 (nd t K).pos]
 have hIn : MkI ((s.push (.cells [.int .i64 0, .nils, .nils, .nils, .int .i64 0])).set s.next (some (.cells [.int .i64 (nd t K).kind, (nd t K).dw, (nd t K).dn, (nd t K).dk, .int .i64 (nd t K).pos]))) d dc ds (((gat t).vs.length : Nat) : Int) (gat t).dead [.nils, .int .i64 0, .nils, .nils, .nils, .nils, .bool false] R0 b.vs b.ps dv dp Ev Ep ((s.next, [.int .i64 (nd t K).kind, (nd t K).dw, (nd t K).dn, (nd t K).dk, .int .i64 (nd t K).pos]) :: R) ps :=
  ⟨hI.v, hI.p, hI.eq, fun q hq => (hI.at' q hq).mono fun x hx => by simp [hx], fun x hx => by simp [hI.sub x hx], hN⟩
 by_cases q3 : (nd t K).kind = 3
 rotate_left
 ·have q3' : ((nd t K).kind == 3) = false := by rw [beq_eq_false_iff_ne]; exact q3
  by_cases q2 : (nd t K).kind = 2
  ·have q2' : ((nd t K).kind == 2) = true := by rw [q2]; rfl
   have hs2 : IntKind.i64.wrap ((b.seen : Int) + 1) = ((b.seen + 1 : Nat) : Int) := by rw [O4 (by omega) (by omega)]; omega
   have e : a0U t (chs t) b K = ⟨b.seen + 1, b.vs, b.ps⟩ := by unfold a0U; rw [if_neg q3, if_pos q2]
   rw [e] at hnx
   try refine zW (aN hE (aN hM (aN o1 (aN o2 (aN o3 (aN h0 (aN hkl (aN c1' (aN hki (aN hidx (aN on (aN q2' (aN od hs2))))))))))))) ?_
   refine a9u ?_
   try refine zW (aN q3' (aN hE hs)) ?_
   exact ⟨(nd t 0).kids.length - (i + 1), by omega, i + 1, dv, dp, Ev, Ep, _, ps, by omega, rfl, by rw [hnx]; exact hIn, by rw [hnx]; show b.vs.length <= _; omega, by omega, by simp only [Env.get, Nat.reduceEqDiff, ↓reduceIte, hE, hnx, and_self]⟩
  ·have q2' : ((nd t K).kind == 2) = false := by rw [beq_eq_false_iff_ne]; exact q2
   have e : a0U t (chs t) b K = b := by unfold a0U; rw [if_neg q3, if_neg q2]
   rw [e] at hnx
   try refine zW (aN hE (aN hM (aN o1 (aN o2 (aN o3 (aN h0 (aN hkl (aN c1' (aN hki (aN hidx (aN on (aN q2' od)))))))))))) ?_
   refine a9u ?_
   try refine zW (aN q3' (aN hE hs)) ?_
   exact ⟨(nd t 0).kids.length - (i + 1), by omega, i + 1, dv, dp, Ev, Ep, _, ps, by omega, rfl, by rw [hnx]; exact hIn, by rw [hnx]; omega, by omega, by simp only [Env.get, Nat.reduceEqDiff, ↓reduceIte, hE, hnx, and_self]⟩
 have q3' : ((nd t K).kind == 3) = true := by rw [q3]; rfl
 have q2' : ((nd t K).kind == 2) = false := by rw [q3]; rfl
 have e : a0U t (chs t) b K = ⟨b.seen, (T8 t (chs t) K b.seen ((nd t K).num 0).toNat (b.vs, b.ps)).1, (T8 t (chs t) K b.seen ((nd t K).num 0).toNat (b.vs, b.ps)).2⟩ := by unfold a0U; rw [if_pos q3]
 rw [e] at hnx
 have hcop := a7S hR (hp rfl).2 hkm q3
 try refine zW (aN hE (aN hM (aN o1 (aN o2 (aN o3 (aN h0 (aN hkl (aN c1' (aN hki (aN hidx (aN on (aN q2' od)))))))))))) ?_
 generalize hB0 : s.next = B0 at *
 generalize (s.push (.cells [.int .i64 0, .nils, .nils, .nils, .int .i64 0])).set B0 (some (.cells [.int .i64 (nd t K).kind, (nd t K).dw, (nd t K).dn, (nd t K).dk, .int .i64 (nd t K).pos])) = s1 at *
 have hmem : (B0, [D.int .i64 (nd t K).kind, (nd t K).dw, (nd t K).dn, (nd t K).dk, .int .i64 (nd t K).pos]) ∈ (B0, [D.int .i64 (nd t K).kind, (nd t K).dw, (nd t K).dn, (nd t K).dk, .int .i64 (nd t K).pos]) :: R := by simp
 generalize (B0, [D.int .i64 (nd t K).kind, (nd t K).dw, (nd t K).dn, (nd t K).dk, .int .i64 (nd t K).pos]) :: R = R1 at *
 have hw := a2e hT K2 (i := 0)
 have n0 := a13 hT K2 (i := 0)
 have z0 : ((0 : Nat) : Int) = 0 := rfl
 rw [hno.wl, z0, q3] at hw
 rw [hno.nl, z0, q3] at n0
 have hw := hw (by decide)
 have n0 := n0 (by decide)
 refine a2X (P := fun env s => ∃ (dv dp : D) (Ev Ep R : Hs) (ps : List (Pr × PrD)), MkI s d dc ds (((gat t).vs.length : Nat) : Int) (gat t).dead [.nils, .int .i64 0, .nils, .nils, .nils, .nils, .bool false] R0 (T8 t (chs t) K b.seen ((nd t K).num 0).toNat (b.vs, b.ps)).1 (T8 t (chs t) K b.seen ((nd t K).num 0).toNat (b.vs, b.ps)).2 dv dp Ev Ep R ps /\ (T8 t (chs t) K b.seen ((nd t K).num 0).toNat (b.vs, b.ps)).1.length <= 800 + 3200 * (i + 1) /\ ps.length <= 4 * (i + 1) /\ (env.get 0 = d /\ env.get 2 = .ptr 0 0 /\ env.get 5 = .ptr 2 0 /\ env.get 8 = .int .i64 (b.seen : Int) /\ env.get 9 = .int .i64 (i : Int))) ?_ ?_
 rotate_left
 ·clear hE
  rintro env s ⟨dv, dp, Ev, Ep, R, ps, hI, l1, l2, hE⟩
  simp only [P0, N4]
  try refine zW (aN hE hs) ?_
  exact ⟨(nd t 0).kids.length - (i + 1), by omega, i + 1, dv, dp, Ev, Ep, R, ps, by omega, rfl, by rw [hnx]; exact hI, by rw [hnx]; exact l1, l2, by simp only [Env.get, Nat.reduceEqDiff, ↓reduceIte, hE, hnx, and_self]⟩
 refine S9 (Q := N4 5 _) (fun n env s => ∃ (c : Nat) (dv dp : D) (Ev Ep R : Hs) (ps : List (Pr × PrD)), (c : Int) <= (nd t K).num 0 /\ n = ((nd t K).num 0).toNat - c /\
  MkI s d dc ds (((gat t).vs.length : Nat) : Int) (gat t).dead [.nils, .int .i64 0, .nils, .nils, .nils, .nils, .bool false] R0 (T8 t (chs t) K b.seen c (b.vs, b.ps)).1 (T8 t (chs t) K b.seen c (b.vs, b.ps)).2 dv dp Ev Ep R ps /\
  (B0, [D.int .i64 (nd t K).kind, (nd t K).dw, (nd t K).dn, (nd t K).dk, .int .i64 (nd t K).pos]) ∈ R /\ (T8 t (chs t) K b.seen c (b.vs, b.ps)).1.length <= 800 + 3200 * i + 800 * c /\ ps.length <= 4 * i + c /\
  (env.get 0 = d /\ env.get 2 = .ptr 0 0 /\ env.get 5 = .ptr 2 0 /\ env.get 8 = .int .i64 (b.seen : Int) /\ env.get 9 = .int .i64 (i : Int) /\ env.get 10 = .ptr B0 0 /\ env.get 11 = .int .i64 (c : Int))) ?_ ((nd t K).num 0).toNat _ _ ?_
 rotate_left
 ·exact ⟨0, dv, dp, Ev, Ep, R1, ps, by omega, rfl, hIn, hmem, by simpa [T8] using hvb, by omega, by simp [Env.get, hE, O8.at]⟩
 clear hE hM hMl hIn hI hmem hN ov op
 rintro n env s ⟨c, dv, dp, Ev, Ep, R, ps, hc0, rfl, hI, hmem, hvb, hpb, hE⟩
 have ov := hI.v.one
 have op := hI.p.one
 have hM := Hp.get (A := [(0, _)]) hI.h
 have hMl := M7 hM
 have hB := hI.h.r _ hmem
 have hBl := M7 hB
 simp only at hB hBl
 by_cases c2 : (c : Int) < (nd t K).num 0
 rotate_left
 ·have c2' : ((c : Int) < (nd t K).num 0) = False := eq_false c2
  have e : c = ((nd t K).num 0).toNat := by omega
  try refine zW (aN hE (aN hB (aN q3' (aN n0 (aN c2' on))))) ?_
  rw [e] at hI hvb
  exact ⟨trivial, dv, dp, Ev, Ep, R, ps, hI, by omega, by omega, (rG hE)⟩
 have c2' : ((c : Int) < (nd t K).num 0) = True := eq_true c2
 have hsc : IntKind.i64.wrap ((c : Int) + 1) = ((c + 1 : Nat) : Int) := by rw [O4 (by omega) (by omega)]; omega
 obtain ⟨ct1, ct2⟩ := b34 (t := t) (ch := chs t) (k := K) (c := c) (a := (b.vs, b.ps)) tk2
 simp only at ct1 ct2
 have hcn1 : (T8 t (chs t) K b.seen (c + 1) (b.vs, b.ps)).1 = (T8 t (chs t) K b.seen c (b.vs, b.ps)).1 ++ (U5 t (nd t K)).map a1r := rfl
 have hcn2 : (T8 t (chs t) K b.seen (c + 1) (b.vs, b.ps)).2 = (T8 t (chs t) K b.seen c (b.vs, b.ps)).2 ++ [a3h t (chs t) K b.seen c (T8 t (chs t) K b.seen c (b.vs, b.ps)).1] := rfl
 generalize T8 t (chs t) K b.seen c (b.vs, b.ps) = a at *
 try refine zW (aN hE (aN hB (aN q3' (aN n0 (aN c2' (aN on hw)))))) ?_
 have hW := (hI.h.pushR [.bool false, .bool true]).newW (.cells [.str (bs []), .int .i64 0, .nils, .int .i64 0, .nils, .nils, .nils, .nils]) [.str ((nd t K).word 0), .int .i64 (c : Int), .nils, .int .i64 2, .arr s.next 0 2 1, .nils, .nils, .nils]
 simp only [M1.next_push] at hW
 generalize hs2 : ((s.push (.cells [.bool false, .bool true])).push (.cells [.str (bs []), .int .i64 0, .nils, .int .i64 0, .nils, .nils, .nils, .nils])).set (s.next + 1) (some (.cells [.str ((nd t K).word 0), .int .i64 (c : Int), .nils, .int .i64 2, .arr s.next 0 2 1, .nils, .nils, .nils])) = s2 at *
 have hsub0 : ∀ x ∈ R, x ∈ (s.next, [D.bool false, .bool true]) :: R := fun x hx => by simp [hx]
 have hrest : (s.next, [D.bool false, .bool true]) ∈ (s.next, [D.bool false, .bool true]) :: R := by simp
 generalize (s.next, [D.bool false, .bool true]) :: R = R2 at *
 have hsubI := hI.sub
 have hatI := hI.at'
 have heqI := hI.eq
 have rv := hI.v
 have rp := hI.p
 clear hI hM hMl hB hBl hs2
 refine a2X (P := fun env s' => ∃ (dn dx : D) (En Ex : Hs), Rp dn 1 (V9 ((a.1.take b.seen).map Vr.name)) En /\ Rp dx 1 (P3 (List.range b.seen)) Ex /\
  Hp s' ((s.next + 1, [.str ((nd t K).word 0), .int .i64 (c : Int), .nils, .int .i64 2, .arr s.next 0 2 1, .nils, dn, dx]) :: (0, [.nils, .int .i64 0, .nils, .nils, .nils, .nils, .bool false]) :: (2, [d, .int .i64 (((gat t).vs.length : Nat) : Int), dc, dv, dp, ds, .bool (gat t).dead]) :: (Ev ++ (Ep ++ (En ++ Ex)))) R2 /\
  (env.get 0 = d /\ env.get 2 = .ptr 0 0 /\ env.get 5 = .ptr 2 0 /\ env.get 8 = .int .i64 (b.seen : Int) /\ env.get 9 = .int .i64 (i : Int) /\ env.get 10 = .ptr B0 0 /\ env.get 11 = .int .i64 (c : Int) /\ env.get 12 = .ptr (s.next + 1) 0)) ?_ ?_
 ·refine S9 (Q := N4 7 _) (fun n env s' => ∃ (v : Nat) (dn dx : D) (En Ex : Hs), v <= b.seen /\ n = b.seen - v /\ Rp dn 1 (V9 ((a.1.take v).map Vr.name)) En /\ Rp dx 1 (P3 (List.range v)) Ex /\
   Hp s' ((s.next + 1, [.str ((nd t K).word 0), .int .i64 (c : Int), .nils, .int .i64 2, .arr s.next 0 2 1, .nils, dn, dx]) :: (0, [.nils, .int .i64 0, .nils, .nils, .nils, .nils, .bool false]) :: (2, [d, .int .i64 (((gat t).vs.length : Nat) : Int), dc, dv, dp, ds, .bool (gat t).dead]) :: (Ev ++ (Ep ++ (En ++ Ex)))) R2 /\
   (env.get 0 = d /\ env.get 2 = .ptr 0 0 /\ env.get 5 = .ptr 2 0 /\ env.get 8 = .int .i64 (b.seen : Int) /\ env.get 9 = .int .i64 (i : Int) /\ env.get 10 = .ptr B0 0 /\ env.get 11 = .int .i64 (c : Int) /\ env.get 12 = .ptr (s.next + 1) 0 /\ env.get 13 = .int .i64 (v : Int))) ?_ b.seen _ _ ?_
  rotate_left
  ·exact ⟨0, .nils, .nils, [], [], by omega, rfl, .inl ⟨rfl, rfl, rfl⟩, .inl ⟨rfl, rfl, rfl⟩, by simpa only [List.append_nil] using hW, by simp [Env.get, hE, O8.at]⟩
  clear hE hW
  rintro n env s' ⟨v, dn, dx, En, Ex, hv, rfl, rn, rx, hh, hE⟩
  by_cases c3 : v < b.seen
  rotate_left
  ·have c3' : ((v : Int) < (b.seen : Int)) = False := eq_false (by omega)
   obtain rfl : v = b.seen := by omega
   try refine zW (aN hE c3') ?_
   exact ⟨trivial, dn, dx, En, Ex, rn, rx, hh, (rG hE)⟩
  have c3' : ((v : Int) < (b.seen : Int)) = True := eq_true (by omega)
  have hsv : IntKind.i64.wrap ((v : Int) + 1) = ((v + 1 : Nat) : Int) := by rw [O4 (by omega) (by omega)]; omega
  have hP := Hp.get (A := []) hh
  have hM := Hp.get (A := [(s.next + 1, _), (0, _)]) hh
  have hPl := M7 hP
  have hMl := M7 hM
  have o5 := rn.one
  have o6 := rx.one
  have hva : v < a.1.length := by omega
  obtain ⟨idv, rfl, rfl⟩ := rv.arr (by simp; omega)
  have hV := hh.w (idv, (X4 a.1).flatten) (by simp)
  simp only at hV
  have hVl := M7 hV
  have hfl := c1G hva
  have hrl : v < (X4 a.1).length := by simpa using hva
  have hmn : 2 ≠ s.next + 1 := by
   have := hh.nd
   simp only [List.map_cons, List.nodup_cons, List.mem_cons] at this
   omega
  try refine zW (aN hE (aN c3' (aN hP (aN hM (aN hV (aN o5 (aN o6 (aN op (aN oc (aN os (aN od hfl))))))))))) ?_
  refine a02 (Rp.app (row := [.str a.1[v].name]) (A := [(s.next + 1, _), (0, _), (2, _)] ++ [(idv, (X4 a.1).flatten)] ++ Ep) (B := Ex) rn (by simpa only [List.append_assoc, List.cons_append, List.nil_append] using (hh.push _)) (O5 rfl) rfl (a6n _) (by decide) (by simp; omega)) rfl rfl ?_
  rintro d' s'' ⟨E', rn', hh', hn'⟩
  have od' := rn'.one
  simp only [List.append_assoc, List.cons_append, List.nil_append] at hh'
  have hP' := Hp.get (A := []) hh'
  have hPl' := M7 hP'
  have hh2 := Hp.set (A := []) hh' [.str ((nd t K).word 0), .int .i64 (c : Int), .nils, .int .i64 2, .arr s.next 0 2 1, .nils, d', dx]
  try refine zW (aN hE (aN hP' (aN od' o6))) ?_
  refine a02 (Rp.app (row := [.int .i64 (v : Int)]) (A := [(s.next + 1, _), (0, _), (2, _)] ++ [(idv, (X4 a.1).flatten)] ++ Ep ++ E') (B := []) rx (by simpa only [List.append_assoc, List.cons_append, List.nil_append, List.append_nil] using (hh2.push _)) (O5 rfl) rfl (a2f _) (by decide) (by simp; omega)) rfl rfl ?_
  clear hP' hPl' hh'
  rintro d2 s3 ⟨E2, rx', hh', hn''⟩
  have od2 := rx'.one
  simp only [List.append_assoc, List.cons_append, List.nil_append, List.append_nil] at hh'
  have hP' := Hp.get (A := []) hh'
  have hPl' := M7 hP'
  try refine zW (aN hE (aN hP' (aN od' (aN od2 hsv)))) ?_
  have hh3 := Hp.set (A := []) hh' [.str ((nd t K).word 0), .int .i64 (c : Int), .nils, .int .i64 2, .arr s.next 0 2 1, .nils, d', d2]
  refine ⟨b.seen - (v + 1), by omega, v + 1, d', d2, E', E2, by omega, rfl, ?_, ?_, hh3, (rG hE)⟩
  ·rw [c3W hva, <- b0P]; exact rn'
  ·rw [List.range_succ, <- a6J]; exact rx'
 clear hE hW
 rintro env s3 ⟨dn, dx, En, Ex, rn, rx, hh, hE⟩
 simp only [P0]
 have hkk := FI.len (hT.nd K2).k
 have hkl2 := bkf.length
 have hll := a6H t (nd t K)
 rw [a0n] at hll
 try refine zW hE ?_
 refine a2X (P := fun env s' => ∃ (dl dn dx dv : D) (El En Ex Ev : Hs), Rp dl 1 (P3 ((List.range (O1 t (nd t K))).map (a.1.length + ·))) El /\ Rp dn 1 (V9 ((a.1.take b.seen).map Vr.name ++ ((U5 t (nd t K)).take (O1 t (nd t K))).map fun y => y.word 0)) En /\ Rp dx 1 (P3 (List.range b.seen ++ (List.range (O1 t (nd t K))).map (a.1.length + ·))) Ex /\ Rp dv 3 (X4 (a.1 ++ ((U5 t (nd t K)).take (O1 t (nd t K))).map a1r)) Ev /\
  Hp s' ((s.next + 1, [.str ((nd t K).word 0), .int .i64 (c : Int), dl, .int .i64 2, .arr s.next 0 2 1, .nils, dn, dx]) :: (0, [.nils, .int .i64 0, .nils, .nils, .nils, .nils, .bool false]) :: (2, [d, .int .i64 (((gat t).vs.length : Nat) : Int), dc, dv, dp, ds, .bool (gat t).dead]) :: (Ev ++ (Ep ++ (El ++ (En ++ Ex))))) R2 /\
  (env.get 0 = d /\ env.get 2 = .ptr 0 0 /\ env.get 5 = .ptr 2 0 /\ env.get 8 = .int .i64 (b.seen : Int) /\ env.get 9 = .int .i64 (i : Int) /\ env.get 10 = .ptr B0 0 /\ env.get 11 = .int .i64 (c : Int) /\ env.get 12 = .ptr (s.next + 1) 0 /\ env.get 14 = .int .i64 (((O1 t (nd t K)) : Nat) : Int))) ?_ ?_
 ·refine S9 (Q := N4 9 _) (fun n env s' => ∃ (k : Nat) (dl dn dx dv : D) (El En Ex Ev : Hs), k <= O1 t (nd t K) /\ n = O1 t (nd t K) - k /\ Rp dl 1 (P3 ((List.range k).map (a.1.length + ·))) El /\ Rp dn 1 (V9 ((a.1.take b.seen).map Vr.name ++ ((U5 t (nd t K)).take k).map fun y => y.word 0)) En /\ Rp dx 1 (P3 (List.range b.seen ++ (List.range k).map (a.1.length + ·))) Ex /\ Rp dv 3 (X4 (a.1 ++ ((U5 t (nd t K)).take k).map a1r)) Ev /\
   Hp s' ((s.next + 1, [.str ((nd t K).word 0), .int .i64 (c : Int), dl, .int .i64 2, .arr s.next 0 2 1, .nils, dn, dx]) :: (0, [.nils, .int .i64 0, .nils, .nils, .nils, .nils, .bool false]) :: (2, [d, .int .i64 (((gat t).vs.length : Nat) : Int), dc, dv, dp, ds, .bool (gat t).dead]) :: (Ev ++ (Ep ++ (El ++ (En ++ Ex))))) R2 /\
   (env.get 0 = d /\ env.get 2 = .ptr 0 0 /\ env.get 5 = .ptr 2 0 /\ env.get 8 = .int .i64 (b.seen : Int) /\ env.get 9 = .int .i64 (i : Int) /\ env.get 10 = .ptr B0 0 /\ env.get 11 = .int .i64 (c : Int) /\ env.get 12 = .ptr (s.next + 1) 0 /\ env.get 14 = .int .i64 ((k : Nat) : Int))) ?_ (O1 t (nd t K)) _ _ ?_
  rotate_left
  ·exact ⟨0, .nils, dn, dx, dv, [], En, Ex, Ev, by omega, rfl, .inl ⟨rfl, rfl, rfl⟩, by simpa using rn, by simpa using rx, by simpa using rv, hh, by simp [Env.get, hE]⟩
  clear hE hh rn rx rv ov
  clear Ev dv dn dx En Ex
  rintro n env s' ⟨k, dl, dn, dx, dv, El, En, Ex, Ev, hk, rfl, rl, rn, rx, rv, hh, hE⟩
  have hB := hh.r _ (hsub0 _ hmem)
  have hBl := M7 hB
  simp only at hB hBl
  by_cases c3 : k < O1 t (nd t K)
  rotate_left
  ·obtain rfl : k = O1 t (nd t K) := by omega
   by_cases c4 : O1 t (nd t K) < (nd t K).kids.length
   ·have c4' : ((O1 t (nd t K) : Int) < ((nd t K).kids.length : Int)) = True := eq_true (by omega)
    have hki2 := a0d hT hR.ok K2 c4
    have hkm2 := X2 c4
    have hJ := hR.ok.ks K2 _ hkm2
    have hkd : (nd t ((nd t K).kid (O1 t (nd t K)))).kind ≠ 2 := by
     have h1 : O1 t (nd t K) < (nd t K).ks.length := by rw [a0n]; exact c4
     have := b3h h1
     rw [a3n h1] at this
     exact this
    generalize (nd t K).kid (O1 t (nd t K)) = J at *
    have hidx2 := hT.at (z := (J : Int)) (by omega) (by omega) (k := .i64)
    rw [Int.toNat_natCast] at hidx2
    have hkd' : ((nd t J).kind == 2) = false := by rw [beq_eq_false_iff_ne]; exact hkd
    try refine zW (aN hE (aN hB (aN hkk (aN c4' (aN hki2 (aN hidx2 (aN hkd' on))))))) ?_
    exact ⟨trivial, dl, dn, dx, dv, El, En, Ex, Ev, rl, rn, rx, rv, hh, (rG hE)⟩
   ·have c4' : ((O1 t (nd t K) : Int) < ((nd t K).kids.length : Int)) = False := eq_false (by omega)
    try refine zW (aN hE (aN hB (aN hkk (aN c4' on)))) ?_
    exact ⟨trivial, dl, dn, dx, dv, El, En, Ex, Ev, rl, rn, rx, rv, hh, (rG hE)⟩
  have c4 : k < (nd t K).kids.length := by omega
  have c4' : ((k : Int) < ((nd t K).kids.length : Int)) = True := eq_true (by omega)
  have hki2 := a0d hT hR.ok K2 c4
  have hkm2 := X2 c4
  have hJ := hR.ok.ks K2 _ hkm2
  have hkd : (nd t ((nd t K).kid k)).kind = 2 := by
   have h1 : k < (nd t K).ks.length := by rw [a0n]; exact c4
   have := a6D c3 h1
   rw [a3n h1] at this
   exact this
  have hlk := b6X c3
  generalize (nd t K).kid k = J at *
  have hidx2 := hT.at (z := (J : Int)) (by omega) (by omega) (k := .i64)
  rw [Int.toNat_natCast] at hidx2
  have hkd' : ((nd t J).kind == 2) = true := by rw [hkd]; rfl
  have onJ := a0o hT hJ.2
  have hnJ := hR.ok.node J hJ.2
  have hwJ := a2e hT hJ.2 (i := 0)
  have n0J := a13 hT hJ.2 (i := 0)
  have n1J := a13 hT hJ.2 (i := 1)
  have e1 : ((1 : Nat) : Int) = 1 := rfl
  rw [hnJ.wl, z0, hkd] at hwJ
  rw [hnJ.nl, z0, hkd] at n0J
  rw [hnJ.nl, e1, hkd] at n1J
  have hwJ := hwJ (by decide)
  have n0J := n0J (by decide)
  have n1J := n1J (by decide)
  have hsk : IntKind.i64.wrap ((k : Int) + 1) = ((k + 1 : Nat) : Int) := by rw [O4 (by omega) (by omega)]; omega
  have hP := Hp.get (A := []) hh
  have hM := Hp.get (A := [(s.next + 1, _), (0, _)]) hh
  have hPl := M7 hP
  have hMl := M7 hM
  have ov := rv.one
  have hvl := rv.len
  have hlt : ((U5 t (nd t K)).take k).length = k := by rw [List.length_take, a16]; omega
  rw [a9w, List.length_append, List.length_map, hlt] at hvl
  have o5 := rn.one
  have o6 := rx.one
  have o7 := rl.one
  have hmn : 2 ≠ s.next + 1 := by
   have := hh.nd
   simp only [List.map_cons, List.nodup_cons, List.mem_cons] at this
   omega
  have hh1 := hh.newR (.cells [.int .i64 0, .nils, .nils, .nils, .int .i64 0]) [.int .i64 (nd t J).kind, (nd t J).dw, (nd t J).dn, (nd t J).dk, .int .i64 (nd t J).pos]
  try refine zW (aN hE (aN hB (aN hkk (aN c4' (aN hki2 (aN hidx2 (aN hkd' (aN on (aN onJ (aN hP (aN hM (aN o5 (aN o6 (aN o7 (aN od (aN oc (aN ov (aN op (aN os hvl))))))))))))))))))) ?_
  refine a02 (Rp.app (row := [.int .i64 ((a.1.length + k : Nat) : Int)]) (A := [(s.next + 1, _), (0, _), (2, _)] ++ Ev ++ Ep) (B := En ++ Ex) rl (by simpa only [List.append_assoc, List.cons_append, List.nil_append, List.append_nil] using (hh1.push _)) (O5 rfl) rfl (a2f _) (by decide) (by simp; omega)) rfl rfl ?_
  rintro d1 s1 ⟨E1, rl', hh2, hn1⟩
  clear hh hh1 hP hPl hM hMl
  have od1 := rl'.one
  simp only [List.append_assoc, List.cons_append, List.nil_append, List.append_nil] at hh2
  have hP := Hp.get (A := []) hh2
  have hPl := M7 hP
  have hX := hh2.r _ (List.mem_cons_self)
  have hXl := M7 hX
  simp only at hX hXl
  have hPX : s.next + 1 ≠ s'.next := hh2.ap _ (List.mem_cons_self) _ (List.mem_cons_self)
  have hh3 := Hp.set (A := []) hh2 [.str ((nd t K).word 0), .int .i64 (c : Int), d1, .int .i64 2, .arr s.next 0 2 1, .nils, dn, dx]
  try refine zW (aN hE (aN hP (aN hX (aN onJ (aN hwJ (aN od1 (aN o5 o6))))))) ?_
  refine a02 (Rp.app (row := [.str ((nd t J).word 0)]) (A := [(s.next + 1, _), (0, _), (2, _)] ++ Ev ++ Ep ++ E1) (B := Ex) rn (by simpa only [List.append_assoc, List.cons_append, List.nil_append, List.append_nil] using (hh3.push _)) (O5 rfl) rfl (a6n _) (by decide) (by simp; omega)) rfl rfl ?_
  rintro d2 s2 ⟨E2, rn', hh4, hn2⟩
  clear hh2 hh3 hP hPl hX hXl
  have od2 := rn'.one
  simp only [List.append_assoc, List.cons_append, List.nil_append, List.append_nil] at hh4
  have hP := Hp.get (A := []) hh4
  have hM := Hp.get (A := [(s.next + 1, _), (0, _)]) hh4
  have hPl := M7 hP
  have hMl := M7 hM
  have hh5 := Hp.set (A := []) hh4 [.str ((nd t K).word 0), .int .i64 (c : Int), d1, .int .i64 2, .arr s.next 0 2 1, .nils, d2, dx]
  try refine zW (aN hE (aN hP (aN hM (aN od1 (aN od2 (aN o6 (aN od (aN oc (aN ov (aN op (aN os hvl))))))))))) ?_
  refine a02 (Rp.app (row := [.int .i64 ((a.1.length + k : Nat) : Int)]) (A := [(s.next + 1, _), (0, _), (2, _)] ++ Ev ++ Ep ++ E1 ++ E2) (B := []) rx (by simpa only [List.append_assoc, List.cons_append, List.nil_append, List.append_nil] using (hh5.push _)) (O5 rfl) rfl (a2f _) (by decide) (by simp; omega)) rfl rfl ?_
  rintro d3 s3 ⟨E3, rx', hh6, hn3⟩
  clear hh4 hh5 hP hPl hM hMl
  have od3 := rx'.one
  simp only [List.append_assoc, List.cons_append, List.nil_append, List.append_nil] at hh6
  have hP := Hp.get (A := []) hh6
  have hPl := M7 hP
  have hh7 := Hp.set (A := []) hh6 [.str ((nd t K).word 0), .int .i64 (c : Int), d1, .int .i64 2, .arr s.next 0 2 1, .nils, d2, d3]
  have hM := Hp.get (A := [(s.next + 1, _), (0, _)]) hh6
  have hMl := M7 hM
  have hX := hh6.r _ (List.mem_cons_self)
  have hXl := M7 hX
  simp only at hX hXl
  try refine zW (aN hE (aN hP (aN hM (aN hX (aN onJ (aN hwJ (aN n0J (aN n1J (aN od1 (aN od2 (aN od3 (aN od (aN oc (aN ov (aN op (aN os hvl)))))))))))))))) ?_
  refine a02 (Rp.app (row := (a1r (nd t J)).row) (A := [(s.next + 1, _), (0, _), (2, _)]) (B := Ep ++ (E1 ++ (E2 ++ E3))) rv (by simpa only [List.append_assoc, List.cons_append, List.nil_append, List.append_nil] using (hh7.push _)) (O5 rfl) rfl (a6w _) (by decide) (by simp; omega)) rfl rfl ?_
  rintro d4 s4 ⟨E4, rv', hh8, hn4⟩
  clear hh6 hh7 hP hPl hM hMl hX hXl
  have od4 := rv'.one
  simp only [List.append_assoc, List.cons_append, List.nil_append, List.append_nil] at hh8
  have hM := Hp.get (A := [(s.next + 1, _), (0, _)]) hh8
  have hMl := M7 hM
  have hh9 := Hp.set (A := [(s.next + 1, _), (0, _)]) hh8 [d, .int .i64 (((gat t).vs.length : Nat) : Int), dc, d4, dp, ds, .bool (gat t).dead]
  try refine zW (aN hE (aN hM (aN od (aN oc (aN od4 (aN op (aN os hsk))))))) ?_
  refine ⟨O1 t (nd t K) - (k + 1), by omega, k + 1, d1, d2, d3, d4, E1, E2, E3, E4, by omega, rfl, ?_, ?_, ?_, ?_, ?_, (rG hE)⟩
  ·rw [a91, <- a6J]; exact rl'
  ·rw [hlk, List.map_append, <- List.append_assoc, List.map_singleton, <- b0P]; exact rn'
  ·rw [a91, <- List.append_assoc, <- a6J]; exact rx'
  ·rw [hlk, List.map_append, <- List.append_assoc, List.map_singleton, <- b3q]; exact rv'
  ·exact hh9.sub (List.Sublist.refl _) fun x hx => by simp [hx]
 clear hE hh rn rx rv ov
 clear Ev dv dn dx En Ex
 rintro env s3 ⟨dl, dn, dx, dv, El, En, Ex, Ev, rl, rn, rx, rv, hh, hE⟩
 have hlt : (U5 t (nd t K)).take (O1 t (nd t K)) = U5 t (nd t K) := by rw [<- a16, List.take_length]
 rw [hlt] at rn rv
 have hB := hh.r _ (hsub0 _ hmem)
 have hBl := M7 hB
 simp only at hB hBl
 have hRst := hh.r _ hrest
 simp only at hRst
 have hP := Hp.get (A := []) hh
 have hM := Hp.get (A := [(s.next + 1, _), (0, _)]) hh
 have hPl := M7 hP
 have hMl := M7 hM
 have ov := rv.one
 have o5 := rn.one
 have o6 := rx.one
 have o7 := rl.one
 obtain ⟨dk', hsl, hdk'⟩ := FL.drop (hT.nd K2).k (n := O1 t (nd t K)) (by simpa using hll) (k := .i64)
 rw [<- List.map_drop] at hdk'
 have hdk' : FI dk' ((nd t K).kids.drop (O1 t (nd t K))) := hdk'
 obtain ⟨b', hb1, hkf'⟩ := bkf.drop (O1 t (nd t K))
 have hsub := (a19 19 K2 bw).1
 have hsg := b1V hR (hp rfl).1 (i := i) (by rw [a0n]; exact c1) hkg q3 hsub (seen := b.seen) (c := c) (vs := a.1) (by rw [ct1, tk1]) (by omega)
 have hpc := a6U (hno.proc q3)
 have hclo : ∀ j, j < t.length -> (K <= j /\ j < bK) -> ∀ k ∈ (nd t j).ks, K <= k /\ k < bK := fun j _ hj k hk => by
  obtain ⟨z, hz, rfl⟩ := List.mem_map.1 hk
  have := hsub.down j hj.1 hj.2 z hz
  omega
 have hat : N8 s3 (pr0 (nd t K) c b.seen a.1 (U5 t (nd t K))) ⟨dl, .arr s.next 0 2 1, .nils, dn, dx⟩ := by
  refine ⟨?_, ?_, .inl ⟨rfl, rfl⟩, ?_, ?_⟩
  ·show SN s3 1 dl (P3 ((List.range (U5 t (nd t K)).length).map (a.1.length + ·)))
   rw [a16]
   exact rl.sn fun x hx => hh.w x (by simp [hx])
  ·exact SN.of (rows := S2 [false, true]) hRst rfl
  ·exact rn.sn fun x hx => hh.w x (by simp [hx])
  ·show SN s3 1 dx (P3 (List.range b.seen ++ (List.range (U5 t (nd t K)).length).map (a.1.length + ·)))
   rw [a16]
   exact rx.sn fun x hx => hh.w x (by simp [hx])
 have hmd : a0g s3 ⟨d, dc, dv, dp, ds, (((gat t).vs.length : Nat) : Int), (gat t).dead⟩ t (gat t).ch := ⟨hT, fc _ fun x hx => hh.r x (hsub0 x (hsubI x hx)), ov, op, os⟩
 have hcal := a7B (t := t) (ch := (gat t).ch) (names := (pr0 (nd t K) c b.seen a.1 (U5 t (nd t K))).names) (vars := (pr0 (nd t K) c b.seen a.1 (U5 t (nd t K))).vars) (f := t.length + 1) (node := K) _ dk' b' bK hkf' hdk' (fun k hk => by
  rw [List.map_drop] at hk
  have hst := hpc.1 k hk
  have hkm := List.mem_of_mem_drop hk
  have hkk := hR.ok.ks K2 k hkm
  have hPk := hclo K K2 ⟨Nat.le_refl _, bl⟩ k hkm
  exact ⟨b2Y hR.ok (by omega) (by simp [pr0]; omega) hclo hsg (t.length + 1) k hkk.2 hPk hst (by omega), a6q hR.ok hclo hsg (t.length + 1) k hkk.2 hPk hst (by omega), a6I hR.ok _ (t.length + 1) k hkk.2 hst (by omega)⟩)
  s3 _ _ _ 0 1 hmd hat ⟨by simp [pr0], by simp [pr0], by simp [pr0]⟩ rfl rfl (by simp [pr0]) (by simp [pr0]) 2 ⟨by simp [pr0], by simp [pr0], by simp [pr0]⟩ (by omega)
 simp only [P0]
 repeat first
 |(refine a5M (o := .slice _ _ _ _) (d := dk') hsl ?_)
 |refine zW (aN hE (aN hP (aN hM (aN hB (aN on (aN od (aN oc (aN ov (aN op (aN os (aN o1 (aN o2 (aN o3 (aN o5 (aN o6 (aN o7 (aN h0 hki))))))))))))))))) ?_
 apply S4 hcal
 ·rfl
 have hq : a1t (N1 t ((gat t).ch.map Ch.name) (t.length + 1)) K (pr0 (nd t K) c b.seen a.1 (U5 t (nd t K))) (((nd t K).kids.drop (O1 t (nd t K))).map Int.toNat) 0 1 = a3h t (chs t) K b.seen c a.1 := by
  unfold a3h Nd.ks
  rw [List.map_drop]
  rfl
 rw [hq]
 clear hcal hq
 generalize a3h t (chs t) K b.seen c a.1 = q at *
 rintro r s9 ⟨x9, rfl, f9, hp9, hz9⟩
 have hh9 := hh.fr f9
 have hP9 := Hp.get (A := []) hh9
 have hPl9 := M7 hP9
 have op9 := hp9.ones
 have hp10 : N8 (s9.set (s.next + 1) (some (.cells (M4 q x9)))) q x9 := hp9.set hP9
 have hh10 := Hp.set (A := []) hh9 (M4 q x9)
 obtain ⟨E, hE1, hE2, hE3⟩ := hp10.parts
 have hh11 := (hh10.sub (W' := (s.next + 1, M4 q x9) :: (0, [.nils, .int .i64 0, .nils, .nils, .nils, .nils, .bool false]) :: (2, [d, .int .i64 (((gat t).vs.length : Nat) : Int), dc, dv, dp, ds, .bool (gat t).dead]) :: (Ev ++ Ep)) (R' := R2) (.cons_cons _ (.cons_cons _ (.cons_cons _ (List.Sublist.append_left (List.sublist_append_left _ _) _)))) fun _ hx => hx).addR hE1 (by
  intro w hw x hx
  have hsl := hE2 x hx
  simp only [List.mem_cons, List.mem_append] at hw
  rcases hw with rfl | rfl | rfl | hw | hw
  ·exact hsl.ne_si
  ·exact hsl.ne_nil
  ·exact hsl.ne_box hT
  ·obtain ⟨a, k, n, rest, e⟩ := rv.si (b8l _) w hw
   rw [e]
   exact hsl.ne_si
  ·obtain ⟨a, k, n, rest, e⟩ := rp.si (c0C _) w hw
   rw [e]
   exact hsl.ne_si)
 clear hh10 hP hPl hM hMl hh
 have hM := Hp.get (A := [(s.next + 1, _), (0, _)]) hh11
 unfold M4 at hP9
 have hMl := M7 hM
 repeat first
  |with_reducible first|apply vA|apply vB|apply vC
  |((with_reducible apply vD); (focus rfl))
  |((with_reducible first|apply vE|apply vF|apply vG|apply vH); simp only [Env.keep, Env.get, Env.ev, List.map, Nat.reduceEqDiff, ↓reduceIte, P0, N4])
  |((with_reducible first|apply vI|apply vJ|apply vK|apply vL|apply vM|apply vN); (focus (simp (disch := (first|with_reducible assumption|omega|((repeat (first|rw [nP]|rw [nS]))<;>omega)|fail)) only [go_sem, Env.ev, Env.get, ↓reduceIte, hP9, hE, op9, M4] <;> rfl)); (first|(with_reducible (first|apply vO|apply vP|apply vQ|apply vR|apply vS|apply vT|apply vU); try simp only [Env.put])|with_reducible refine (?_ : WQ _ _ _ _ _ _)))
  |fail
 refine U3 (Φ := fun s' => s' = s9.set (s.next + 1) (some (.cells (M4 q x9)))) rfl ?_
 rintro s10 rfl
 generalize s9.set (s.next + 1) (some (.cells (M4 q x9))) = s10 at *
 have hP := Hp.get (A := []) hh11
 unfold M4 at hP
 try refine zW (aN hE (aN hP (aN hM (aN op9 (aN od (aN oc (aN ov (aN op os)))))))) ?_
 refine a02 (Rp.app (sz := 8) (bytes := 152) (row := M4 q x9) (A := [(s.next + 1, _), (0, _), (2, _)] ++ Ev) (B := []) rp (by simpa only [List.append_assoc, List.cons_append, List.nil_append, List.append_nil] using (hh11.push _)) (O5 rfl) rfl (b2w _) (by decide) (by simp; omega)) rfl rfl ?_
 rintro d5 s5 ⟨E5, rp', hh12, hn5⟩
 have od5 := rp'.one
 simp only [List.append_assoc, List.cons_append, List.nil_append, List.append_nil] at hh12
 have hM5 := Hp.get (A := [(s.next + 1, _), (0, _)]) hh12
 have hMl5 := M7 hM5
 have hh13 := Hp.set (A := [(s.next + 1, _), (0, _)]) hh12 [d, .int .i64 (((gat t).vs.length : Nat) : Int), dc, dv, d5, ds, .bool (gat t).dead]
 try refine zW (aN hE (aN hM5 (aN od5 (aN od (aN oc (aN ov (aN op (aN os hsc)))))))) ?_
 refine ⟨((nd t K).num 0).toNat - (c + 1), by omega, c + 1, dv, d5, Ev, E5, E ++ R2, ps ++ [(q, x9)], by omega, rfl, ⟨by rw [hcn1]; exact rv, by rw [<- b6V]; exact rp', by rw [hcn2, List.map_append, heqI]; rfl, ?_, fun x hx => List.mem_append_right _ (hsub0 x (hsubI x hx)), ?_⟩, List.mem_append_right _ (hsub0 _ hmem), ?_, ?_, (rG hE)⟩
 ·intro y hy
  rcases List.mem_append.1 hy with hy | hy
  ·exact (hatI y hy).mono fun x hx => List.mem_append_right _ (hsub0 x hx)
  ·simp only [List.mem_singleton] at hy
   subst hy
   exact hE3.mono fun x hx => List.mem_append_left _ hx
 ·exact hh13.sub (List.sublist_cons_self _ _) fun _ hx => hx
 ·rw [hcn1]; simp only [List.length_append, List.length_map, a16]; omega
 ·simp only [List.length_append, List.length_singleton]; omega
end Go.Proofs.YtnjlhebkhjcagaaGreat
namespace Go.V
theorem b2J {n : Nat} (h : n < 4294967296) : IntKind.u32.wrap (n : Int) = (n : Int) := by
 rw [IntKind.wrap_u32]; omega
theorem a3J {n : Nat} (h : n < 4294967296) : (BitVec.ofInt IntKind.u32.bits (n : Int)).toNat = n := by
 rw [BitVec.toNat_ofInt, show IntKind.u32.bits = 32 from rfl]
 omega
theorem a3x {x y : Nat} (hx : x < 4294967296) (hy : y < 4294967296) : x ||| y < 4294967296 := Nat.or_lt_two_pow (n := 32) hx hy
theorem a4r {x y : Nat} (hx : x < 4294967296) (hy : y < 4294967296) : IntKind.u32.wrap (orI .u32 (x : Int) (y : Int)) = ((x ||| y : Nat) : Int) := by
 unfold orI
 rw [BitVec.toNat_or, a3J hx, a3J hy]
 exact b2J (a3x hx hy)
theorem or_zero {x y : Nat} : x ||| y = 0 ↔ x = 0 /\ y = 0 := by
 constructor
 ·intro h
  have h1 : x <= x ||| y := Nat.left_le_or
  have h2 : y <= x ||| y := Nat.right_le_or
  omega
 ·rintro ⟨rfl, rfl⟩; rfl
structure Ft where
 reads : Nat
 writes : Nat
 sends : Nat
 recvs : Nat
 sizes : Nat
 part : Bool
structure Ft.Ok (f : Ft) : Prop where
 r : f.reads < 4294967296
 w : f.writes < 4294967296
 s : f.sends < 4294967296
 v : f.recvs < 4294967296
 z : f.sizes < 4294967296
def Ft.row (f : Ft) : List D := [.int .u32 (f.reads : Int), .int .u32 (f.writes : Int), .int .u32 (f.sends : Int), .int .u32 (f.recvs : Int), .int .u32 (f.sizes : Int), .bool f.part]
end Go.V
namespace Go.V
structure PrF (p : Pr) (x : PrD) : Prop where
 l : FL 1 x.dl (P3 p.locals)
 r : FL 1 x.dr (S2 p.rest)
 e : FL 8 x.de (Q5 p.edges)
 n : FL 1 x.dn (V9 p.names)
 v : FL 1 x.dv (P3 p.vars)
structure MoF (m : MdX) (mo : Mo) (ps : List (Pr × PrD)) : Prop where
 tr : N7 m.dt mo.tree
 c : FL 5 m.dc (a0f mo.chans)
 v : FL 3 m.dv (X4 mo.vars)
 p : FL 8 m.dp (a0I ps)
 eq : ps.map Prod.fst = mo.procs
 at' : ∀ q ∈ ps, PrF q.1 q.2
 sf : FL 1 m.ds (P3 mo.safe)
 g : m.g = (mo.globals : Int)
 b : m.b = mo.dead
def a0W (f : D -> Option D) : List (List D) -> Option (List (List D))
 | [] => some []
 | r :: rs => match N2 f r, a0W f rs with
   | some a, some b => some (a :: b)
   | _, _ => none
theorem b2A {f : D -> Option D} : ∀ {a b a' b' : List D}, N2 f a = some a' -> N2 f b = some b' -> N2 f (a ++ b) = some (a' ++ b')
 | [], b, a', b', h1, h2 => by simp only [N2, Option.some.injEq] at h1; subst h1; simpa using h2
 | d :: r, b, a', b', h1, h2 => by
   simp only [N2] at h1
   split at h1
   ·rename_i x l e1 e2
    simp only [Option.some.injEq] at h1
    subst h1
    rw [List.cons_append, N2, e1, b2A e2 h2]
    rfl
   ·cases h1
theorem b3H {f : D -> Option D} : ∀ {a a' : List D}, N2 f a = some a' -> a'.length = a.length
 | [], a', h => by simp only [N2, Option.some.injEq] at h; subst h; rfl
 | d :: r, a', h => by
   simp only [N2] at h
   split at h
   ·rename_i x l e1 e2
    simp only [Option.some.injEq] at h
    subst h
    simp [b3H e2]
   ·cases h
theorem b0v {f : D -> Option D} : ∀ {rows rows' : List (List D)}, a0W f rows = some rows' -> N2 f rows.flatten = some rows'.flatten /\ rows'.length = rows.length
 | [], rows', h => by simp only [a0W, Option.some.injEq] at h; subst h; exact ⟨rfl, rfl⟩
 | r :: rs, rows', h => by
   simp only [a0W] at h
   split at h
   ·rename_i a b e1 e2
    simp only [Option.some.injEq] at h
    subst h
    obtain ⟨h1, h2⟩ := b0v e2
    exact ⟨by simp only [List.flatten_cons]; exact b2A e1 h1, by simp [h2]⟩
   ·cases h
theorem a9Y {f : D -> Option D} {sz : Nat} : ∀ {rows rows' : List (List D)}, a0W f rows = some rows' -> (∀ r ∈ rows, r.length = sz) -> ∀ r ∈ rows', r.length = sz
 | [], rows', h, _ => by simp only [a0W, Option.some.injEq] at h; subst h; simp
 | r :: rs, rows', h, hr => by
   simp only [a0W] at h
   split at h
   ·rename_i a b e1 e2
    simp only [Option.some.injEq] at h
    subst h
    intro y hy
    rcases List.mem_cons.1 hy with rfl | hy
    ·rw [b3H e1]; exact hr r (by simp)
    ·exact a9Y e2 (fun x hx => hr x (by simp [hx])) y hy
   ·cases h
theorem b1L {sz : Nat} : ∀ {rows : List (List D)}, (∀ r ∈ rows, r.length = sz) -> a1V sz rows.length rows.flatten = rows
 | [], _ => rfl
 | r :: rs, h => by
   have hr := h r (by simp)
   rw [List.length_cons, a1V, List.flatten_cons]
   rw [List.take_append_of_le_length (by omega), List.take_of_length_le (by omega), List.drop_append_of_le_length (by omega), List.drop_of_length_le (by omega), List.nil_append, b1L fun x hx => h x (by simp [hx])]
theorem SN.frz {s : M1} {sz : Nat} {d : D} {rows rows' : List (List D)} {n : Nat} (h : SN s sz d rows) (hr : ∀ r ∈ rows, r.length = sz) (hm : a0W (ice s.get n) rows = some rows') (hl : d = .lst sz rows -> rows' = rows) : ∃ d', ice s.get (n + 1) d = some d' /\ FL sz d' rows' := by
 rcases h with ⟨rfl, rfl⟩ | ⟨id, rfl, hg⟩ | rfl
 ·simp only [a0W, Option.some.injEq] at hm
  exact ⟨.nils, rfl, .inl ⟨rfl, hm.symm⟩⟩
 ·have hrow := (SN.row (s := s) (.inr (.inl ⟨id, rfl, hg⟩)) hr).1
  obtain ⟨h1, h2⟩ := b0v hm
  refine ⟨.lst sz rows', ?_, .inr rfl⟩
  simp only [ice, hrow, h1, Option.map_some]
  rw [<- h2, b1L (a9Y hm hr)]
 ·exact ⟨.lst sz rows, rfl, .inr (by rw [hl rfl])⟩
theorem b1l {g : P4} {n : Nat} : ∀ {rows : List (List D)}, (∀ r ∈ rows, r.all Y0 = true) -> a0W (ice g (n + 1)) rows = some rows
 | [], _ => rfl
 | r :: rs, h => by
   rw [a0W, a5F (h r (by simp)), b1l fun x hx => h x (by simp [hx])]
theorem SN.frz1 {s : M1} {sz : Nat} {d : D} {rows : List (List D)} {n : Nat} (h : SN s sz d rows) (hr : ∀ r ∈ rows, r.length = sz) (hs : ∀ r ∈ rows, r.all Y0 = true) : ∃ d', ice s.get (n + 2) d = some d' /\ FL sz d' rows := h.frz hr (b1l hs) fun _ => rfl
theorem a5G (l : List Nat) : ∀ r ∈ P3 l, r.all Y0 = true := by intro r h; obtain ⟨b, _, rfl⟩ := List.mem_map.1 h; rfl
theorem b3R (l : List Bool) : ∀ r ∈ S2 l, r.all Y0 = true := by intro r h; obtain ⟨b, _, rfl⟩ := List.mem_map.1 h; rfl
theorem c0D (l : List ByteArray) : ∀ r ∈ V9 l, r.all Y0 = true := by intro r h; obtain ⟨b, _, rfl⟩ := List.mem_map.1 h; rfl
theorem b3B (l : List Ed) : ∀ r ∈ Q5 l, r.all Y0 = true := by intro r h; obtain ⟨b, _, rfl⟩ := List.mem_map.1 h; rfl
theorem b5R (l : List Ch) : ∀ r ∈ a0f l, r.all Y0 = true := by intro r h; obtain ⟨b, _, rfl⟩ := List.mem_map.1 h; rfl
theorem b5J (l : List Vr) : ∀ r ∈ X4 l, r.all Y0 = true := by intro r h; obtain ⟨b, _, rfl⟩ := List.mem_map.1 h; rfl
theorem N8.frz {s : M1} {p : Pr} {x : PrD} (h : N8 s p x) (n : Nat) : ∃ x', N2 (ice s.get (n + 2)) (M4 p x) = some (M4 p x') /\ PrF p x' := by
 obtain ⟨dl, a1, b1⟩ := h.l.frz1 (n := n) (a2f _) (a5G _)
 obtain ⟨dr, a2, b2⟩ := h.r.frz1 (n := n) (a3j _) (b3R _)
 obtain ⟨de, a3, b3⟩ := h.e.frz1 (n := n) (a2V _) (b3B _)
 obtain ⟨dn, a4, b4⟩ := h.n.frz1 (n := n) (a6n _) (c0D _)
 obtain ⟨dv, a5, b5⟩ := h.v.frz1 (n := n) (a2f _) (a5G _)
 refine ⟨⟨dl, dr, de, dn, dv⟩, ?_, b1, b2, b3, b4, b5⟩
 simp only [M4, N2, ice, a1, a2, a3, a4, a5]
theorem b3J {s : M1} (n : Nat) : ∀ {ps : List (Pr × PrD)}, (∀ q ∈ ps, N8 s q.1 q.2) -> ∃ ps', a0W (ice s.get (n + 2)) (a0I ps) = some (a0I ps') /\ ps'.map Prod.fst = ps.map Prod.fst /\ ∀ q ∈ ps', PrF q.1 q.2
 | [], _ => ⟨[], rfl, rfl, by simp⟩
 | q :: qs, h => by
   obtain ⟨x', h1, h2⟩ := (h q (by simp)).frz n
   obtain ⟨ps', h3, h4, h5⟩ := b3J n (ps := qs) fun y hy => h y (by simp [hy])
   refine ⟨(q.1, x') :: ps', ?_, by simp [h4], ?_⟩
   ·simp only [a0I, List.map_cons] at h3 ⊢
    simp only [a0W, h1, h3]
   ·intro y hy
    rcases List.mem_cons.1 hy with rfl | hy
    ·exact h2
    ·exact h5 y hy
theorem a6Z.frz {s : M1} {m : MdX} {mo : Mo} {ps : List (Pr × PrD)} (h : a6Z s m mo ps) (hn : m.dp ≠ .lst 8 (a0I ps)) (b : Bool) : ∃ m' ps', ice s.get 20 (.tup [.agg (N6 m), .bool b]) = some (.tup [.agg (N6 m'), .bool b]) /\ MoF m' mo ps' := by
 obtain ⟨dc, a1, b1⟩ := h.c.frz1 (n := 16) (a9m _) (b5R _)
 obtain ⟨dv, a2, b2⟩ := h.v.frz1 (n := 16) (a6w _) (b5J _)
 obtain ⟨ds, a3, b3⟩ := h.sf.frz1 (n := 16) (a2f _) (a5G _)
 obtain ⟨ps', h1, h2, h3⟩ := b3J 15 h.at'
 obtain ⟨dp, a4, b4⟩ := h.p.frz (n := 17) (b2w _) h1 (fun e => (hn e).elim)
 have a5 : ice s.get 18 m.dt = some m.dt := h.tr.fl.ice
 refine ⟨⟨m.dt, dc, dv, dp, ds, m.g, m.b⟩, ps', ?_, ⟨h.tr, b1, b2, b4, h2.trans h.eq, h3, b3, h.g, h.b⟩⟩
 have e1 : ice s.get 18 (.int .i64 m.g) = some (.int .i64 m.g) := rfl
 have e2 : ice s.get 18 (.bool m.b) = some (.bool m.b) := rfl
 have e3 : N2 (ice s.get 18) (N6 m) = some (N6 ⟨m.dt, dc, dv, dp, ds, m.g, m.b⟩) := by
  simp only [N6, N2, a5, e1, a1, a2, a4, a3, e2]
 have e4 : ice s.get 19 (.agg (N6 m)) = some (.agg (N6 ⟨m.dt, dc, dv, dp, ds, m.g, m.b⟩)) := by
  simp only [ice, e3, Option.map_some]
 have e5 : ice s.get 19 (.bool b) = some (.bool b) := rfl
 show (N2 (ice s.get 19) [.agg (N6 m), .bool b]).map D.tup = _
 simp only [N2, e4, e5, Option.map_some]
theorem MoF.fz {m : MdX} {mo : Mo} {ps : List (Pr × PrD)} (h : MoF m mo ps) : Fz (.agg (N6 m)) := a4N fun d hd => by
 simp only [N6, List.mem_cons, List.not_mem_nil, or_false] at hd
 rcases hd with rfl | rfl | rfl | rfl | rfl | rfl | rfl
 ·exact FL.ic h.tr.fl
 ·exact fun _ _ => rfl
 ·exact FL.ic h.c
 ·exact FL.ic h.v
 ·exact FL.ic h.p
 ·exact FL.ic h.sf
 ·exact fun _ _ => rfl
theorem MoF.ones {m : MdX} {mo : Mo} {ps : List (Pr × PrD)} (h : MoF m mo ps) : M9 m.dt = true /\ M9 m.dc = true /\ M9 m.dv = true /\ M9 m.dp = true /\ M9 m.ds = true := ⟨FL.one h.tr.fl, h.c.one, h.v.one, h.p.one, h.sf.one⟩
theorem PrF.ones {p : Pr} {x : PrD} (h : PrF p x) : M9 x.dl = true /\ M9 x.dr = true /\ M9 x.de = true /\ M9 x.dn = true /\ M9 x.dv = true := ⟨h.l.one, h.r.one, h.e.one, h.n.one, h.v.one⟩
theorem PrF.fz {p : Pr} {x : PrD} (h : PrF p x) : Fz (.agg (M4 p x)) := a4N fun d hd => by
 simp only [M4, List.mem_cons, List.not_mem_nil, or_false] at hd
 rcases hd with rfl | rfl | rfl | rfl | rfl | rfl | rfl | rfl
 ·exact fun _ _ => rfl
 ·exact fun _ _ => rfl
 ·exact FL.ic h.l
 ·exact fun _ _ => rfl
 ·exact FL.ic h.r
 ·exact FL.ic h.e
 ·exact FL.ic h.n
 ·exact FL.ic h.v
theorem MoF.plen {m : MdX} {mo : Mo} {ps : List (Pr × PrD)} (h : MoF m mo ps) : ps.length = mo.procs.length := by rw [<- h.eq, List.length_map]
theorem MoF.proc {m : MdX} {mo : Mo} {ps : List (Pr × PrD)} (h : MoF m mo ps) {i : Nat} (hi : i < mo.procs.length) : ∃ x, PrF mo.procs[i] x /\ ∀ k : IntKind, N3 8 m.dp (.int k (i : Int)) = some (.fp (M4 mo.procs[i] x) 0) := by
 have hi' : i < ps.length := by rw [h.plen]; exact hi
 have e : mo.procs[i] = ps[i].1 := by simp [<- h.eq]
 rw [e]
 refine ⟨ps[i].2, h.at' _ (List.getElem_mem hi'), fun k => ?_⟩
 rw [h.p.idx (by simpa using hi')]
 simp [a0I]
theorem MoF.lenP {m : MdX} {mo : Mo} {ps : List (Pr × PrD)} (h : MoF m mo ps) : S6 false m.dp = some (.int .i64 (mo.procs.length : Int)) := by rw [h.p.len, c1M, h.plen]
theorem MoF.lenC {m : MdX} {mo : Mo} {ps : List (Pr × PrD)} (h : MoF m mo ps) : S6 false m.dc = some (.int .i64 (mo.chans.length : Int)) := by rw [h.c.len, a4Q]
theorem FLN.idx {d : D} {l : List Nat} (h : FL 1 d (P3 l)) {i : Nat} (hi : i < l.length) {k : IntKind} : N3 1 d (.int k (i : Int)) = some (.fp [.int .i64 (l[i] : Int)] 0) := by
 rw [h.idx (by simpa using hi)]; simp [P3]
theorem FLS.idx {d : D} {l : List ByteArray} (h : FL 1 d (V9 l)) {i : Nat} (hi : i < l.length) {k : IntKind} : N3 1 d (.int k (i : Int)) = some (.fp [.str l[i]] 0) := by
 rw [h.idx (by simpa using hi)]; simp [V9]
theorem FLB.idx {d : D} {l : List Bool} (h : FL 1 d (S2 l)) {i : Nat} (hi : i < l.length) {k : IntKind} : N3 1 d (.int k (i : Int)) = some (.fp [.bool l[i]] 0) := by
 rw [h.idx (by simpa using hi)]; simp [S2]
theorem FLE.idx {d : D} {l : List Ed} (h : FL 8 d (Q5 l)) {i : Nat} (hi : i < l.length) {k : IntKind} : N3 8 d (.int k (i : Int)) = some (.fp l[i].row 0) := by
 rw [h.idx (by simpa using hi)]; simp [Q5]
theorem FLC.idx {d : D} {l : List Ch} (h : FL 5 d (a0f l)) {i : Nat} (hi : i < l.length) {k : IntKind} : N3 5 d (.int k (i : Int)) = some (.fp l[i].row 0) := by
 rw [h.idx (by simpa using hi)]; simp [a0f]
theorem FLV.idx {d : D} {l : List Vr} (h : FL 3 d (X4 l)) {i : Nat} (hi : i < l.length) {k : IntKind} : N3 3 d (.int k (i : Int)) = some (.fp l[i].row 0) := by
 rw [h.idx (by simpa using hi)]; simp [X4]
theorem PrF.lenL {p : Pr} {x : PrD} (h : PrF p x) : S6 false x.dl = some (.int .i64 (p.locals.length : Int)) := by rw [h.l.len, a4c]
theorem PrF.lenE {p : Pr} {x : PrD} (h : PrF p x) : S6 false x.de = some (.int .i64 (p.edges.length : Int)) := by rw [h.e.len, a2B]
theorem PrF.lenN {p : Pr} {x : PrD} (h : PrF p x) : S6 false x.dn = some (.int .i64 (p.names.length : Int)) := by rw [h.n.len, a8L]
end Go.V
