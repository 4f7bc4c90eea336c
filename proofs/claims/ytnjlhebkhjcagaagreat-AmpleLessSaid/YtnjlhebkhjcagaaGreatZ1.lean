/- Texts one behind the other. -/
import Derived.Test.YtnjlhebkhjcagaaGreatZ0
import Derived.LoopN
import Derived.ProofKit
import Derived.OpenShut
import Derived.ShutString
import Derived.ChangeOld
import Derived.Below
import Derived.Carry
import Derived.Handed
set_option linter.unusedSimpArgs false
set_option linter.unusedVariables false
namespace Go.V
def Opd.slot : Opd -> List Nat
 | .tmp t => [t]
 | .cst _ => []
def a3U : List Opd -> List Nat
 | [] => []
 | x :: r => x.slot ++ a3U r
def a6z : Option Opd -> List Nat
 | some x => x.slot
 | none => []
def a38 : List (Nat × Nat × Opd) -> List Nat
 | [] => []
 | (_, _, x) :: r => x.slot ++ a38 r
def a5S : List (Nat × Opd) -> List Nat
 | [] => []
 | (_, x) :: r => x.slot ++ a5S r
def POp.slots : POp -> List Nat
 | .mov x => x.slot
 | .pick c a b => c.slot ++ (a.slot ++ b.slot)
 | .nilchk x => x.slot
 | .bin _ x y => x.slot ++ y.slot
 | .eqB _ x y => x.slot ++ y.slot
 | .eqAgg _ _ x y => x.slot ++ y.slot
 | .eqNil _ _ x => x.slot
 | .un _ x => x.slot
 | .conv _ x => x.slot
 | .build _ ps => a38 ps
 | .fieldA _ x => x.slot
 | .field _ _ x => x.slot
 | .idxA _ x i => x.slot ++ i.slot
 | .idxS x i => x.slot ++ i.slot
 | .idxV _ _ _ x i => x.slot ++ i.slot
 | .len _ x => x.slot
 | .minmax _ x xs => x.slot ++ a3U xs
 | .slice _ x lo hi => x.slot ++ (a6z lo ++ a6z hi)
 | .extract x _ => x.slot
 | .mkfn _ xs => a3U xs
def ROp.slots : ROp -> List Nat
 | .load _ x => x.slot
 | .lookup _ _ _ m k => m.slot ++ k.slot
 | .b2s x => x.slot
def AOp.slots : AOp -> List Nat
 | .alloc _ => []
 | .box x => x.slot
 | .bslice _ _ _ ps => a5S ps
 | .mkslice _ _ _ l c => l.slot ++ c.slot
 | .mkmap => []
def MOp.slots : MOp -> List Nat
 | .call _ f xs => f.slot ++ a3U xs
 | .append _ _ s x => s.slot ++ x.slot
 | .mapset _ m k v => m.slot ++ (k.slot ++ v.slot)
def VOp.slots : VOp -> List Nat
 | .p o => o.slots
 | .r o => o.slots
 | .a o => o.slots
 | .w _ ad x => ad.slot ++ x.slot
 | .m o => o.slots
def a5V : Option (Nat × Bool) -> List Nat
 | some (t, _) => [t]
 | none => []
def O6.looks (o : O6) : List Nat := a5V o.guard ++ o.op.slots
section
variable {env env' : Env}
def a0t (env env' : Env) (l : List Nat) : Prop := ∀ t ∈ l, env.get t = env'.get t
theorem a0t.left {l m : List Nat} (h : a0t env env' (l ++ m)) : a0t env env' l := fun t ht => h t (by simp [ht])
theorem a0t.right {l m : List Nat} (h : a0t env env' (l ++ m)) : a0t env env' m := fun t ht => h t (by simp [ht])
theorem X5 {x : Opd} (h : a0t env env' x.slot) : env.ev x = env'.ev x := by
 cases x with
 | tmp t => exact h t (by simp [Opd.slot])
 | cst d => rfl
theorem a6i : ∀ {xs : List Opd}, a0t env env' (a3U xs) -> env.evL xs = env'.evL xs
 | [], _ => rfl
 | x :: xs, h => by simp only [Env.evL, a3U] at h ⊢; rw [X5 h.left, a6i h.right]
theorem b08 {x : Option Opd} (h : a0t env env' (a6z x)) : env.evO x = env'.evO x := by
 cases x with
 | none => rfl
 | some x => simp only [Env.evO, a6z] at h ⊢; rw [X5 h]
theorem a8O : ∀ {ps : List (Nat × Nat × Opd)} (cs : List D), a0t env env' (a38 ps) -> a1p env cs ps = a1p env' cs ps
 | [], cs, _ => rfl
 | (off, size, x) :: ps, cs, h => by
   simp only [a1p, a38] at h ⊢
   rw [X5 h.left]
   split
   ·exact a8O _ h.right
   ·rfl
theorem b0f (sz : Nat) : ∀ ps : List (Nat × Opd), a38 (ps.map fun (i, x) => (i * sz, sz, x)) = a5S ps
 | [] => rfl
 | (i, x) :: ps => by simp only [List.map_cons, a38, a5S, b0f sz ps]
theorem c2Q {po : POp} (h : a0t env env' po.slots) : evP env po = evP env' po := by
 cases po <;> simp only [POp.slots] at h <;> simp only [evP] <;> first
  | rw [X5 h]
  | rw [X5 h.left, X5 h.right.left, X5 h.right.right]
  | rw [X5 h.left, X5 h.right]
  | rw [a8O _ h]
  | rw [X5 h.left, a6i h.right]
  | rw [X5 h.left, b08 h.right.left, b08 h.right.right]
  | rw [a6i h]
theorem b8F {ro : ROp} {g : P4} (h : a0t env env' ro.slots) : evR env g ro = evR env' g ro := by
 cases ro <;> simp only [ROp.slots] at h <;> simp only [evR] <;> first
  | rw [X5 h.left, X5 h.right]
  | rw [X5 h]
theorem b7Q {ao : AOp} (h : a0t env env' ao.slots) : evA env ao = evA env' ao := by
 cases ao with
 | alloc z => rfl
 | box x => simp only [evA]; rw [X5 h]
 | bslice sz len z ps => simp only [evA]; rw [a8O _ (by rw [b0f]; exact h)]
 | mkslice sz b z l c => simp only [evA]; simp only [AOp.slots] at h; rw [X5 h.left, X5 h.right]
 | mkmap => rfl
theorem b4w {g : P4} {n : Nat} {ad x : Opd} (h : a0t env env' (ad.slot ++ x.slot)) : evW env g n ad x = evW env' g n ad x := by
 simp only [evW]; rw [X5 h.left, X5 h.right]
theorem c3u {C : U1} {s : M1} {mo : MOp} (h : a0t env env' mo.slots) : evM C env s mo = evM C env' s mo := by
 cases mo with
 | call m f xs => simp only [evM]; simp only [MOp.slots] at h; rw [X5 h.left, a6i h.right]
 | append sz b s x => simp only [evM]; simp only [MOp.slots] at h; rw [X5 h.left, X5 h.right]
 | mapset ks m k v => simp only [evM]; simp only [MOp.slots] at h; rw [X5 h.left, X5 h.right.left, X5 h.right.right]
theorem b3W {g : Option (Nat × Bool)} (h : a0t env env' (a5V g)) : Y6 env g = Y6 env' g := by
 cases g with
 | none => rfl
 | some p =>
   obtain ⟨t, b⟩ := p
   simp only [Y6]
   rw [h t (by simp [a5V])]
end
theorem b4U {env : Env} {ro : ROp} {g g' : P4} (h : ∀ id, rdR env ro = some id -> g id = g' id) : evR env g ro = evR env g' ro := by
 cases ro with
 | load n x =>
   simp only [evR, rdR] at h ⊢
   split
   ·rename_i id off hx
    rw [hx] at h
    rw [h id rfl]
   ·rfl
   ·rfl
 | lookup ks z ok m k =>
   simp only [evR, rdR] at h ⊢
   split
   ·rename_i id hx
    rw [hx] at h
    rw [h id rfl]
   ·rfl
 | b2s x =>
   simp only [evR, rdR] at h ⊢
   have : X0 g (env.ev x) = X0 g' (env.ev x) := by
    generalize env.ev x = d at h ⊢
    cases d <;> simp only [X0]
    rw [h _ rfl]
   rw [this]
theorem b5m {env : Env} {n : Nat} {ad x : Opd} {g g' : P4} (h : ∀ id, rdW env ad = some id -> g id = g' id) : evW env g n ad x = evW env g' n ad x := by
 simp only [evW, rdW] at h ⊢
 split
 ·rename_i id off hx
  rw [hx] at h
  rw [h id rfl]
 ·rfl
def isP : VOp -> Bool | .p _ => true | _ => false
def isR : VOp -> Bool | .r _ => true | _ => false
def isA : VOp -> Bool | .a _ => true | _ => false
def isW : VOp -> Bool | .w _ _ _ => true | _ => false
def isM : VOp -> Bool | .m _ => true | _ => false
def a1e (pairs : List (Nat × Nat)) (i j : Nat) (x y : VOp) : Bool :=
 isP x || isP y || (isR x && isR y) || (isA y) || (!(isM x && isM y) && !(isM x && isW y) && !(isW x && isM y) && !(isA x && isM y) && pairs.contains (i, j))
def a5E (d : Option Nat) (l : List Nat) : Bool :=
 match d with
 | some t => !l.contains t
 | none => true
def a3y (x y : O6) : Bool :=
 a5E x.dst y.looks && a5E y.dst x.looks && (match x.dst, y.dst with | some t, some u => t != u | _, _ => true)
def maskOf (acc : List Nat) : List Edge -> Nat
 | [] => 0
 | e :: es => (if Region.binds .any e then 2 ^ e.on ||| acc.getD e.on 0 else 0) ||| maskOf acc es
def a1J : List Oper -> List Nat -> List Nat
 | [], acc => acc
 | o :: r, acc => a1J r (acc ++ [maskOf acc o.after.toList])
def a2M (ms : List Nat) (pairs : List (Nat × Nat)) (x y : Nat × O6) : Bool :=
 !(ms.getD x.1 0).testBit y.1 && ((ms.getD y.1 0).testBit x.1 || (a3y x.2 y.2 && a1e pairs x.1 y.1 x.2.op y.2.op))
def a6x (f : Nat × O6 -> Nat × O6 -> Bool) : List (Nat × O6) -> Bool
 | [] => true
 | x :: r => r.all (f x) && a6x f r
def a2N : List Oper -> Nat -> Bool
 | [], _ => true
 | o :: r, i => o.after.toList.all (fun e => !Region.binds .any e || decide (e.on < i)) && a2N r (i + 1)
def a6F (ops : Array Oper) (l : List (Nat × O6)) (pairs : List (Nat × Nat)) : Bool :=
 decide (l.map (·.1)).Nodup && decide (l.length = ops.size) && l.all (fun x => decide (x.1 < ops.size)) && a2N ops.toList 0 && (List.range ops.size).all (fun i => (l.map (·.1)).contains i) && a6x (a2M (a1J ops.toList []) pairs) l
def On (L : Array Bool) (i : Nat) : Prop := L.getD i false = true
def a7d (ops : Array Oper) (L : Array Bool) : Prop := ∀ (j : Nat) (o : Oper), ops[j]? = some o -> On L j -> ∀ e ∈ o.after.toList, Region.binds .any e = true -> On L e.on
theorem b2T {acc : List Nat} : ∀ {es : List Edge} {i : Nat}, (maskOf acc es).testBit i = true -> ∃ e ∈ es, Region.binds .any e = true /\ (e.on = i ∨ (acc.getD e.on 0).testBit i = true)
 | [], i, h => by simp [maskOf] at h
 | e :: es, i, h => by
   simp only [maskOf, Nat.testBit_or, Bool.or_eq_true] at h
   rcases h with h | h
   ·split at h
    ·rename_i hb
     simp only [Nat.testBit_or, Bool.or_eq_true] at h
     rcases h with h | h
     ·refine ⟨e, by simp, hb, .inl ?_⟩
      by_cases he : e.on = i
      ·exact he
      ·rw [Nat.testBit_two_pow_of_ne he] at h; cases h
     ·exact ⟨e, by simp, hb, .inr h⟩
    ·simp at h
   ·obtain ⟨e', h1, h2, h3⟩ := b2T h
    exact ⟨e', by simp [h1], h2, h3⟩
theorem b0Y : ∀ (l : List Oper) (acc : List Nat), ∃ ms, a1J l acc = acc ++ ms /\ ms.length = l.length /\ ∀ (j : Nat) (o : Oper), l[j]? = some o -> ms[j]? = some (maskOf (acc ++ ms.take j) o.after.toList)
 | [], acc => ⟨[], by simp [a1J], rfl, by simp⟩
 | o :: l, acc => by
   obtain ⟨ms, h1, h2, h3⟩ := b0Y l (acc ++ [maskOf acc o.after.toList])
   refine ⟨maskOf acc o.after.toList :: ms, by simp [a1J, h1], by simp [h2], ?_⟩
   intro j o' hj
   cases j with
   | zero => simp at hj; subst hj; simp
   | succ j =>
     simp at hj
     have := h3 j o' hj
     simpa using this
theorem a8l : ∀ {l : List Oper} {i : Nat}, a2N l i = true -> ∀ (j : Nat) (o : Oper), l[j]? = some o -> ∀ e ∈ o.after.toList, Region.binds .any e = true -> e.on < i + j
 | [], i, _, j, o, h => by simp at h
 | o :: l, i, hb, j, o', hj => by
   simp only [a2N, Bool.and_eq_true, List.all_eq_true] at hb
   intro e he hbe
   cases j with
   | zero =>
     simp at hj; subst hj
     have := hb.1 e he
     simp [hbe] at this
     omega
   | succ j =>
     have := a8l hb.2 j o' (by simpa using hj) e he hbe
     omega
theorem a93 {ops : Array Oper} {L : Array Bool} (hb : a2N ops.toList 0 = true) (hs : a7d ops L) : ∀ (j : Nat) (o : Oper), ops[j]? = some o -> (∀ e ∈ o.after.toList, Region.binds .any e = true -> On L e.on) ->
 ∀ i, ((a1J ops.toList []).getD j 0).testBit i = true -> On L i := by
 obtain ⟨ms, h1, h2, h3⟩ := b0Y ops.toList []
 simp only [List.nil_append] at h1
 intro j
 induction j using Nat.strongRecOn with
 | _ j ih =>
   intro o ho hpre i hi
   have hm := h3 j o (by simpa using ho)
   rw [h1] at hi
   simp only [List.nil_append] at hm
   rw [List.getD_eq_getElem?_getD, hm, Option.getD_some] at hi
   obtain ⟨e, he, hbe, hcase⟩ := b2T hi
   have hon := hpre e he hbe
   rcases hcase with rfl | hbit
   ·exact hon
   ·have hlt : e.on < j := by
     have := a8l hb j o (by simpa using ho) e he hbe
     omega
    rw [List.getD_eq_getElem?_getD, List.getElem?_take_of_lt hlt, <- List.getD_eq_getElem?_getD] at hbit
    have hjs : j < ops.size := (Array.getElem?_eq_some_iff.1 ho).1
    have hoe : ops[e.on]? = some ops[e.on] := by simp
    refine ih e.on hlt _ hoe (hs e.on _ hoe hon) i ?_
    rw [h1]
    exact hbit
structure Rec where
 i : Nat
 o : O6
 env : Env
 s : M1
 d : D
 s' : M1
 rd : Option Nat
def Rec.ok (C : U1) (r : Rec) : Prop :=
 (Y6 r.env r.o.guard = some false /\ r.d = .tup [] /\ r.s' = r.s /\ r.rd = none) ∨
 (Y6 r.env r.o.guard = some true /\ P1 C r.env r.s r.o.op = some (r.d, r.s') /\ r.rd = V2 r.env r.o.op)
def a0E (C : U1) : Env -> M1 -> List Rec -> Env -> M1 -> Prop
 | env, s, [], env', s' => env' = env /\ s' = s
 | env, s, r :: rs, env', s' => r.env = env /\ r.s = s /\ r.ok C /\ a0E C (r.env.put r.o.dst r.d) r.s' rs env' s'
def a2j (pairs : List (Nat × Nat)) (p q : Rec) : Prop := pairs.contains (p.i, q.i) = true -> X3 q.s q.s' p.rd = true /\ X3 p.s p.s' q.rd = true
theorem b0q (s : M1) (rd : Option Nat) : X3 s s rd = true := by
 cases rd with
 | none => rfl
 | some id => exact a4X _
theorem a94 {pairs : List (Nat × Nat)} {j : Tr} : ∀ {l : List Tr}, Y8 pairs j l = true -> ∀ i ∈ l, pairs.contains (i.idx, j.idx) = true -> X3 j.pre j.post i.rd = true /\ X3 i.pre i.post j.rd = true
 | [], _, i, hi => by simp at hi
 | t :: l, h, i, hi => by
   simp only [Y8, Bool.and_eq_true] at h
   rcases List.mem_cons.1 hi with rfl | hi
   ·intro hp
    have := h.1
    rw [hp] at this
    simpa using this
   ·exact a94 h.2 i hi
theorem a82 {C : U1} {pairs : List (Nat × Nat)} (hne : pairs.isEmpty = false) : ∀ {l : List (Nat × O6)} {tr : List Tr} {env env' : Env} {s s' : M1}, V3 C pairs l tr env s = some (env', s') ->
 ∃ rs : List Rec, rs.map (fun r => (r.i, r.o)) = l /\ a0E C env s rs env' s' /\ rs.Pairwise (a2j pairs) /\
   ∀ t ∈ tr, ∀ r ∈ rs, pairs.contains (t.idx, r.i) = true -> X3 r.s r.s' t.rd = true /\ X3 t.pre t.post r.rd = true
 | [], tr, env, env', s, s', h => by
   simp [V3] at h
   exact ⟨[], rfl, ⟨h.1.symm, h.2.symm⟩, .nil, by simp⟩
 | (i, o) :: l, tr, env, env', s, s', h => by
   simp only [V3] at h
   split at h
   ·simp at h
   ·rename_i hw
    obtain ⟨rs, h1, h2, h3, h4⟩ := a82 hne h
    refine ⟨⟨i, o, env, s, .tup [], s, none⟩ :: rs, by simp [h1], ⟨rfl, rfl, .inl ⟨hw, rfl, rfl, rfl⟩, h2⟩, ?_, ?_⟩
    ·refine List.pairwise_cons.2 ⟨?_, h3⟩
     intro q _ _
     exact ⟨rfl, b0q _ _⟩
    ·intro t ht r hr hp
     rcases List.mem_cons.1 hr with rfl | hr
     ·exact ⟨b0q _ _, rfl⟩
     ·exact h4 t ht r hr hp
   ·rename_i hw
    split at h
    ·simp at h
    ·rename_i d1 s1 h1
     split at h
     ·rename_i hpk
      simp only [hne, Bool.false_eq_true, if_false] at h
      obtain ⟨rs, g1, g2, g3, g4⟩ := a82 hne h
      refine ⟨⟨i, o, env, s, d1, s1, V2 env o.op⟩ :: rs, by simp [g1], ⟨rfl, rfl, .inr ⟨hw, h1, rfl⟩, g2⟩, ?_, ?_⟩
      ·refine List.pairwise_cons.2 ⟨?_, g3⟩
       intro q hq hp
       exact g4 ⟨i, V2 env o.op, s, s1⟩ (by simp) q hq hp
      ·intro t ht r hr hp
       rcases List.mem_cons.1 hr with rfl | hr
       ·exact a94 hpk t ht hp
       ·exact g4 t (by simp [ht]) r hr hp
     ·simp at h
theorem a8F {C : U1} {pairs : List (Nat × Nat)} (hne : pairs.isEmpty = true) : ∀ {l : List (Nat × O6)} {tr : List Tr} {env env' : Env} {s s' : M1}, V3 C pairs l tr env s = some (env', s') ->
 ∃ rs : List Rec, rs.map (fun r => (r.i, r.o)) = l /\ a0E C env s rs env' s' /\ rs.Pairwise (a2j pairs)
 | [], tr, env, env', s, s', h => by
   simp [V3] at h
   exact ⟨[], rfl, ⟨h.1.symm, h.2.symm⟩, .nil⟩
 | (i, o) :: l, tr, env, env', s, s', h => by
   have hst : ∀ p q, a2j pairs p q := by
    intro p q hp
    have : pairs = [] := by simpa using hne
    rw [this] at hp
    simp at hp
   simp only [V3] at h
   split at h
   ·simp at h
   ·rename_i hw
    obtain ⟨rs, h1, h2, h3⟩ := a8F hne h
    exact ⟨⟨i, o, env, s, .tup [], s, none⟩ :: rs, by simp [h1], ⟨rfl, rfl, .inl ⟨hw, rfl, rfl, rfl⟩, h2⟩, List.pairwise_cons.2 ⟨fun q _ => hst _ q, h3⟩⟩
   ·rename_i hw
    split at h
    ·simp at h
    ·rename_i d1 s1 h1
     split at h
     ·obtain ⟨rs, g1, g2, g3⟩ := a8F hne h
      exact ⟨⟨i, o, env, s, d1, s1, V2 env o.op⟩ :: rs, by simp [g1], ⟨rfl, rfl, .inr ⟨hw, h1, rfl⟩, g2⟩, List.pairwise_cons.2 ⟨fun q _ => hst _ q, g3⟩⟩
     ·simp at h
section
open Classical
variable {V : Type}
noncomputable def cur (pre post : Rec -> V) (L : Array Bool) : V -> List Rec -> V
 | v, [] => v
 | v, r :: rs => cur pre post L (if On L r.i /\ pre r ≠ post r then post r else v) rs
def a0Q (pre post : Rec -> V) : V -> List Rec -> V -> Prop
 | v, [], v' => v' = v
 | v, r :: rs, v' => pre r = v /\ a0Q pre post (post r) rs v'
theorem a4y {pre post : Rec -> V} {L : Array Bool} : ∀ {rs : List Rec} (v : V), (∀ q ∈ rs, On L q.i -> pre q = post q) -> cur pre post L v rs = v
 | [], v, _ => rfl
 | r :: rs, v, h => by
   simp only [cur]
   have : ¬ (On L r.i /\ pre r ≠ post r) := fun ⟨h1, h2⟩ => h2 (h r (by simp) h1)
   rw [if_neg this]
   exact a4y v fun q hq => h q (by simp [hq])
theorem a33 {pre post : Rec -> V} {L : Array Bool} {r : Rec} {B : List Rec} {v' : V} : ∀ {A : List Rec} {v : V}, a0Q pre post v (A ++ r :: B) v' -> (∀ q ∈ A, ¬ On L q.i -> pre q = post q) -> (¬ On L r.i ∨ pre r = post r) -> (∀ q ∈ B, On L q.i -> pre q = post q) ->
 cur pre post L v (A ++ r :: B) = pre r
 | [], v, hc, _, hr, hB => by
   simp only [List.nil_append, a0Q] at hc
   simp only [List.nil_append, cur]
   have : ¬ (On L r.i /\ pre r ≠ post r) := by
    rintro ⟨h1, h2⟩
    rcases hr with h | h
    ·exact h h1
    ·exact h2 h
   rw [if_neg this, a4y _ hB]
   exact hc.1.symm
 | q :: A, v, hc, hA, hr, hB => by
   simp only [List.cons_append, a0Q] at hc
   simp only [List.cons_append, cur]
   have hq : (if On L q.i /\ pre q ≠ post q then post q else v) = post q := by
    by_cases h1 : On L q.i
    ·by_cases h2 : pre q = post q
     ·rw [if_neg (by simp [h2]), <- hc.1]; exact h2
     ·rw [if_pos ⟨h1, h2⟩]
    ·rw [if_neg (by simp [h1]), <- hc.1]; exact hA q (by simp) h1
   rw [hq]
   exact a33 hc.2 (fun p hp => hA p (by simp [hp])) hr hB
theorem a5y {pre post : Rec -> V} {L : Array Bool} {r : Rec} {B : List Rec} {v' : V} : ∀ {A : List Rec} {v : V}, a0Q pre post v (A ++ r :: B) v' -> (∀ q ∈ A, ¬ On L q.i -> pre q = post q) -> On L r.i -> (∀ q ∈ B, On L q.i -> pre q = post q) ->
 cur pre post L v (A ++ r :: B) = post r
 | [], v, hc, _, hr, hB => by
   simp only [List.nil_append, a0Q] at hc
   simp only [List.nil_append, cur]
   by_cases h2 : pre r = post r
   ·rw [if_neg (by simp [h2]), a4y _ hB, <- hc.1]; exact h2
   ·rw [if_pos ⟨hr, h2⟩, a4y _ hB]
 | q :: A, v, hc, hA, hr, hB => by
   simp only [List.cons_append, a0Q] at hc
   simp only [List.cons_append, cur]
   have hq : (if On L q.i /\ pre q ≠ post q then post q else v) = post q := by
    by_cases h1 : On L q.i
    ·by_cases h2 : pre q = post q
     ·rw [if_neg (by simp [h2]), <- hc.1]; exact h2
     ·rw [if_pos ⟨h1, h2⟩]
    ·rw [if_neg (by simp [h1]), <- hc.1]; exact hA q (by simp) h1
   rw [hq]
   exact a5y hc.2 (fun p hp => hA p (by simp [hp])) hr hB
theorem b1W {pre post : Rec -> V} {L L' : Array Bool} : ∀ {rs : List Rec} (v : V), (∀ q ∈ rs, (On L' q.i ↔ On L q.i) ∨ pre q = post q) -> cur pre post L' v rs = cur pre post L v rs
 | [], v, _ => rfl
 | r :: rs, v, h => by
   simp only [cur]
   have : (if On L' r.i /\ pre r ≠ post r then post r else v) = (if On L r.i /\ pre r ≠ post r then post r else v) := by
    rcases h r (by simp) with h1 | h1
    ·simp [h1]
    ·simp [h1]
   rw [this]
   exact b1W _ fun q hq => h q (by simp [hq])
theorem a8H {pre post : Rec -> V} {L : Array Bool} {v' : V} : ∀ {rs : List Rec} {v : V}, a0Q pre post v rs v' -> (∀ q ∈ rs, On L q.i) -> cur pre post L v rs = v'
 | [], v, hc, _ => by simp only [a0Q] at hc; simp only [cur]; exact hc.symm
 | r :: rs, v, hc, h => by
   simp only [a0Q] at hc
   simp only [cur]
   have : (if On L r.i /\ pre r ≠ post r then post r else v) = post r := by
    by_cases h2 : pre r = post r
    ·rw [if_neg (by simp [h2]), <- hc.1]; exact h2
    ·rw [if_pos ⟨h r (by simp), h2⟩]
   rw [this]
   exact a8H hc.2 fun q hq => h q (by simp [hq])
theorem b31 {pre post : Rec -> V} {L : Array Bool} {rs : List Rec} (v : V) (h : ∀ q ∈ rs, ¬ On L q.i) : cur pre post L v rs = v := a4y v fun q hq h1 => absurd h1 (h q hq)
end
end Go.V
namespace Go.V
theorem Evo.trans_same {μ μ1 μ2 : Mu} {Φ Φ1 Φ2 : Phi} {g g1 g2 : P4} {w w1 w2 : World} {n0 n1 : Nat}
 (h : Evo μ Φ g w μ1 Φ1 g1 w1 n0 n1) (k : Evo μ1 Φ1 g1 w1 μ2 Φ2 g2 w2 n0 n1) : Evo μ Φ g w μ2 Φ2 g2 w2 n0 n1 where
 mu := Mu.le_trans h.mu k.mu
 muOut id hid := by rw [k.muOut id hid, h.muOut id hid]
 phi := Phi.le_trans h.phi k.phi
 os := k.os.trans h.os
 tape := k.tape.trans h.tape
 output := k.output.trans h.output
 size := Nat.le_trans h.size k.size
 keep b hb hn := by
  rw [k.keep b (Nat.lt_of_lt_of_le hb h.size) (fun ho => by rcases h.ownNew b ho with h1 | h1; exact hn h1; omega), h.keep b hb hn]
 phiNew b ob hb := by
  rcases k.phiNew b ob hb with h1 | h1
  ·exact h.phiNew b ob h1
  ·exact .inr (Nat.le_trans h.size h1)
 ownNew b hb := by
  rcases k.ownNew b hb with h1 | h1
  ·exact h.ownNew b h1
  ·exact .inr (Nat.le_trans h.size h1)
theorem Sim.join {μ μ' : Mu} {Φ Φ' : Phi} {g g1 g2 G : P4} {w w' : World} {n0 n1 : Nat} (h1 : Sim μ Φ g w) (h2 : Sim μ' Φ' g2 w') (hsub : ∀ id ob, g1 id = some ob -> g id = some ob) (he : Evo μ Φ g1 w μ' Φ' g2 w' n0 n1)
 (hG : ∀ id ob, G id = some ob -> g2 id = some ob ∨ (g id = some ob /\ g1 id = none)) : Sim μ' Φ' G w' /\ Evo μ Φ g w μ' Φ' G w' n0 n1 := by
 have hne : ∀ id, g1 id ≠ none -> g id ≠ none := by
  intro id h3 h4
  cases hx : g1 id with
  | none => exact h3 hx
  | some ob => rw [hsub id ob hx] at h4; cases h4
 have ext : ∀ id ob, g id = some ob -> g1 id = none -> ∃ b o z, μ id = some (b, o, z) /\ a0a μ Φ w b o z ob /\ Φ b = none /\ ¬ a1u μ g1 b /\ b < w.heap.size := by
  intro id ob hg hg1
  obtain ⟨b, o, z, e1, e2, e3⟩ := h1.obj id ob hg
  refine ⟨b, o, z, e1, e2, e3, ?_, e2.lt⟩
  rintro ⟨id1, o1, z1, q1, q2⟩
  have := h1.inj id1 id _ _ _ _ _ (hne id1 q1) (by rw [hg]; simp) q2 e1
  subst this
  exact q1 hg1
 have cls : ∀ id, G id ≠ none -> (g2 id ≠ none) ∨ (∃ ob, g id = some ob /\ g1 id = none) := by
  intro id hid
  cases hx : G id with
  | none => exact absurd hx hid
  | some ob =>
    rcases hG id ob hx with h | h
    ·exact .inl (by rw [h]; simp)
    ·exact .inr ⟨ob, h⟩
 refine ⟨⟨h2.phi, ?_, ?_⟩, ⟨he.mu, he.muOut, he.phi, he.os, he.tape, he.output, he.size, ?_, he.phiNew, ?_⟩⟩
 ·intro id ob hx
  rcases hG id ob hx with h | ⟨h, hn⟩
  ·exact h2.obj id ob h
  ·obtain ⟨b, o, z, e1, e2, e3, e4, e5⟩ := ext id ob h hn
   refine ⟨b, o, z, he.mu _ _ e1, a41 (he.keep b e5 e4) (a5m he.mu he.phi e2), ?_⟩
   cases hp : Φ' b with
   | none => rfl
   | some ob' =>
     rcases he.phiNew b ob' hp with q | q
     ·rw [e3] at q; cases q
     ·omega
 ·have mixed : ∀ i i' b o z o' z', g2 i ≠ none -> (∃ ob, g i' = some ob /\ g1 i' = none) -> μ' i = some (b, o, z) -> μ' i' = some (b, o', z') -> False := by
   rintro i i' b o z o' z' q1 ⟨ob, q2, q3⟩ q4 q5
   obtain ⟨b2, o2, z2, e1, _, _, e4, e5⟩ := ext i' ob q2 q3
   have := he.mu _ _ e1
   rw [q5] at this
   cases this
   rcases he.ownNew b ⟨i, o, z, q1, q4⟩ with q | q
   ·exact e4 q
   ·omega
  intro i i' b o z o' z' q1 q2 q3 q4
  rcases cls i q1 with a1 | a1
  ·rcases cls i' q2 with a2 | a2
   ·exact h2.inj i i' _ _ _ _ _ a1 a2 q3 q4
   ·exact (mixed i i' _ _ _ _ _ a1 a2 q3 q4).elim
  ·rcases cls i' q2 with a2 | a2
   ·exact (mixed i' i _ _ _ _ _ a2 a1 q4 q3).elim
   ·obtain ⟨ob, a3, a4⟩ := a1
    obtain ⟨ob', a5, a6⟩ := a2
    obtain ⟨b1, o1, z1, e1, _⟩ := ext i ob a3 a4
    obtain ⟨b2, o2, z2, e2, _⟩ := ext i' ob' a5 a6
    have f1 := he.mu _ _ e1
    have f2 := he.mu _ _ e2
    rw [q3] at f1; rw [q4] at f2
    cases f1; cases f2
    exact h1.inj i i' _ _ _ _ _ (by rw [a3]; simp) (by rw [a5]; simp) e1 e2
 ·intro b hb hn
  refine he.keep b hb ?_
  rintro ⟨id, o, z, q1, q2⟩
  exact hn ⟨id, o, z, hne id q1, q2⟩
 ·rintro b ⟨id, o, z, q1, q2⟩
  rcases cls id q1 with a1 | ⟨ob, a1, a2⟩
  ·rcases he.ownNew b ⟨id, o, z, a1, q2⟩ with ⟨i1, o1, z1, c1, c2⟩ | q
   ·exact .inl ⟨i1, o1, z1, hne i1 c1, c2⟩
   ·exact .inr q
  ·obtain ⟨b1, o1, z1, e1, _⟩ := ext id ob a1 a2
   have f1 := he.mu _ _ e1
   rw [q2] at f1
   cases f1
   exact .inl ⟨id, o, z, by rw [a1]; simp, e1⟩
def a5l (t : Nat) (r : Rec) : D := r.env.get t
def a3G (t : Nat) (r : Rec) : D := (r.env.put r.o.dst r.d).get t
def W4 (id : Nat) (r : Rec) : Option N9 := r.s.get id
def X1 (id : Nat) (r : Rec) : Option N9 := r.s'.get id
theorem a6R {C : U1} (t : Nat) : ∀ {rs : List Rec} {env env' : Env} {s s' : M1}, a0E C env s rs env' s' -> a0Q (a5l t) (a3G t) (env.get t) rs (env'.get t)
 | [], env, env', s, s', h => by simp only [a0E] at h; simp only [a0Q, h.1]
 | r :: rs, env, env', s, s', h => by
   simp only [a0E] at h
   simp only [a0Q]
   refine ⟨by simp only [a5l, h.1], a6R t h.2.2.2⟩
theorem a2v {C : U1} (id : Nat) : ∀ {rs : List Rec} {env env' : Env} {s s' : M1}, a0E C env s rs env' s' -> a0Q (W4 id) (X1 id) (s.get id) rs (s'.get id)
 | [], env, env', s, s', h => by simp only [a0E] at h; simp only [a0Q, h.2]
 | r :: rs, env, env', s, s', h => by
   simp only [a0E] at h
   simp only [a0Q]
   refine ⟨by simp only [W4, h.2.1], a2v id h.2.2.2⟩
theorem a4w {t : Nat} {r : Rec} (h : r.o.dst ≠ some t) : a5l t r = a3G t r := by
 unfold a5l a3G
 cases hd : r.o.dst with
 | none => rfl
 | some u =>
   have : ¬ u = t := fun e => h (by rw [hd, e])
   simp [Env.put, Env.get, this]
theorem c2B {t : Nat} {r : Rec} (h : r.o.dst = some t) : a3G t r = r.d := by
 unfold a3G
 rw [h]
 simp [Env.put, Env.get]
section
variable {P : Program} {md : FuncId -> W8} {N : Nat} {C : U1}
theorem b6D (hC : a1b P C) {env : Env} {s s' : M1} {d : D} {vo : VOp} (h1 : P1 C env s vo = some (d, s')) : s.next <= s'.next := by
 cases vo with
 | p po => simp only [P1] at h1; obtain ⟨_, _, e⟩ := map_some h1; cases e; exact Nat.le_refl _
 | r po => simp only [P1] at h1; obtain ⟨_, _, e⟩ := map_some h1; cases e; exact Nat.le_refl _
 | a ao => simp only [P1] at h1; split at h1 <;> simp at h1; rw [<- h1.2]; exact Nat.le_succ _
 | w n ad x => simp only [P1] at h1; split at h1 <;> simp at h1; rw [<- h1.2]; exact Nat.le_refl _
 | m mo =>
   simp only [P1] at h1
   cases mo with
   | call md' f args =>
     simp only [evM] at h1
     generalize env.ev f = fd at h1
     cases fd <;> try (simp [a0K] at h1; done)
     exact (a8u hC h1).1
   | append sz bytes sx x =>
     simp only [evM, S7] at h1
     split at h1
     ·split at h1
      ·split at h1
       ·split at h1
        ·cases h1; exact Nat.le_refl _
        ·split at h1
         ·cases h1; exact Nat.le_succ _
         ·simp at h1
       ·split at h1
        ·split at h1
         ·split at h1
          ·cases h1; exact Nat.le_refl _
          ·split at h1
           ·cases h1; exact Nat.le_succ _
           ·simp at h1
         ·simp at h1
        ·simp at h1
       ·split at h1
        ·cases h1; exact Nat.le_refl _
        ·simp at h1
       ·simp at h1
      ·simp at h1
     ·simp at h1
   | mapset ks m k v =>
     simp only [evM] at h1
     split at h1
     ·split at h1
      ·split at h1
       ·split at h1
        ·obtain ⟨_, _, e⟩ := map_some h1; cases e; exact Nat.le_refl _
        ·simp at h1
       ·simp at h1
      ·simp at h1
     ·simp at h1
theorem a61 (hC : a1b P C) {r : Rec} (h : r.ok C) : r.s.next <= r.s'.next := by
 rcases h with ⟨_, _, h, _⟩ | ⟨_, h, _⟩
 ·rw [h]; exact Nat.le_refl _
 ·exact b6D hC h
theorem a5v (hC : a1b P C) : ∀ {rs : List Rec} {env env' : Env} {s s' : M1}, a0E C env s rs env' s' -> s.next <= s'.next /\ ∀ q ∈ rs, s.next <= q.s.next /\ q.s'.next <= s'.next /\ q.ok C
 | [], env, env', s, s', h => by simp only [a0E] at h; simp [h.2]
 | r :: rs, env, env', s, s', h => by
   simp only [a0E] at h
   obtain ⟨h1, h2, h3, h4⟩ := h
   obtain ⟨g1, g2⟩ := a5v hC h4
   have g3 := a61 hC h3
   rw [h2] at g3
   refine ⟨by omega, fun q hq => ?_⟩
   rcases List.mem_cons.1 hq with rfl | hq
   ·exact ⟨by rw [h2]; exact Nat.le_refl _, g1, h3⟩
   ·obtain ⟨q1, q2, q3⟩ := g2 q hq
    exact ⟨by omega, q2, q3⟩
theorem b2o (hC : a1b P C) {B : List Rec} {r : Rec} : ∀ {A : List Rec} {env env' : Env} {s s' : M1}, a0E C env s (A ++ r :: B) env' s' ->
 r.ok C /\ (∀ q ∈ A, q.s'.next <= r.s.next) /\ (∀ q ∈ B, r.s'.next <= q.s.next)
 | [], env, env', s, s', h => by
   simp only [List.nil_append, a0E] at h
   exact ⟨h.2.2.1, by simp, fun q hq => ((a5v hC h.2.2.2).2 q hq).1⟩
 | p :: A, env, env', s, s', h => by
   simp only [List.cons_append, a0E] at h
   obtain ⟨g1, g2, g3⟩ := b2o hC h.2.2.2
   refine ⟨g1, fun q hq => ?_, g3⟩
   rcases List.mem_cons.1 hq with rfl | hq
   ·exact ((a5v hC h.2.2.2).2 r (by simp)).1
   ·exact g2 q hq
theorem a1q {r : Rec} (h : r.ok C) (hk : isP r.o.op = true ∨ isR r.o.op = true) : r.s' = r.s := by
 rcases h with ⟨_, _, h, _⟩ | ⟨_, h, _⟩
 ·exact h
 ·cases hop : r.o.op <;> rw [hop] at h hk <;> simp [isP, isR] at hk <;> simp only [P1] at h
  ·obtain ⟨_, _, e⟩ := map_some h; simp at e; exact e.2.symm
  ·obtain ⟨_, _, e⟩ := map_some h; simp at e; exact e.2.symm
theorem a4J {r : Rec} (h : r.ok C) (hk : isA r.o.op = true) (id : Nat) (hid : id ≠ r.s.next) : r.s'.get id = r.s.get id := by
 rcases h with ⟨_, _, h, _⟩ | ⟨_, h, _⟩
 ·rw [h]
 ·cases hop : r.o.op <;> rw [hop] at h hk <;> simp [isA] at hk
  simp only [P1] at h
  split at h
  ·simp at h
   rw [<- h.2, M1.get_push, if_neg hid]
  ·simp at h
theorem c0t {r : Rec} (h : r.ok C) (hk : isW r.o.op = true) (id : Nat) (hid : r.rd ≠ some id) : r.s'.get id = r.s.get id := by
 rcases h with ⟨_, _, h, _⟩ | ⟨_, h, hrd⟩
 ·rw [h]
 ·cases hop : r.o.op <;> rw [hop] at h hk hrd <;> simp [isW] at hk
  rename_i n ad x
  simp only [P1] at h
  split at h
  ·rename_i id' ob hw
   simp at h
   rw [<- h.2, M1.get_set]
   have : rdW r.env ad = some id' := by
    unfold evW at hw
    unfold rdW
    split at hw
    ·rename_i i2 off hx
     split at hw
     ·simp only at hw
      split at hw
      ·simp at hw; rw [hw.1]
      ·simp at hw
     ·simp at hw
    ·simp at hw
   have hne : id ≠ id' := by
    intro e
    subst e
    exact hid (by rw [hrd]; simp only [V2]; exact this)
   simp [hne]
  ·simp at h
noncomputable def a3t (env0 : Env) (rs : List Rec) (L : Array Bool) (t : Nat) : D := cur (a5l t) (a3G t) L (env0.get t) rs
noncomputable def a0u (s0 : M1) (rs : List Rec) (L : Array Bool) : P4 := fun id => cur (W4 id) (X1 id) L (s0.get id) rs
structure Inv (N : Nat) (μ0 : Mu) (Φ0 : Phi) (w0 : World) (env0 : Env) (s0 sF : M1) (rs : List Rec) (L : Array Bool) (a : Act) (w : World) (μ : Mu) (Φ : Phi) : Prop where
 env : ∀ t, R μ Φ (a3t env0 rs L t) (a.tmps.getD t undef)
 size : N <= a.tmps.size
 defers : a.defers = []
 sim : Sim μ Φ (a0u s0 rs L) w
 evo : Evo μ0 Φ0 s0.get w0 μ Φ (a0u s0 rs L) w s0.next sF.next
 fresh : ∀ r ∈ rs, ¬ On L r.i -> a1R μ r.s.next r.s'.next
theorem a8X (env : Env) : ∀ (l : List Nat) (t : Nat), t ∈ l -> (env.keep l).get t = env.get t
 | [], t, h => by simp at h
 | x :: l, t, h => by
   simp only [Env.keep, List.map_cons, Env.get]
   by_cases e : x = t
   ·subst e; simp
   ·rcases List.mem_cons.1 h with h | h
    ·exact absurd h.symm e
    ·simp only [e, if_false]; exact a8X env l t h
theorem b1R (env : Env) : ∀ (l : List Nat) (t : Nat), t ∉ l -> (env.keep l).get t = .undef
 | [], t, _ => rfl
 | x :: l, t, h => by
   simp only [List.mem_cons, not_or] at h
   simp only [Env.keep, List.map_cons, Env.get]
   have : ¬ x = t := fun e => h.1 e.symm
   simp only [this, if_false]
   exact b1R env l t h.2
theorem a36 {L : Array Bool} {i j : Nat} (h : i < L.size) : On (L.setIfInBounds i true) j ↔ (j = i ∨ On L j) := by
 unfold On
 simp only [Array.getD_eq_getD_getElem?]
 by_cases e : j = i
 ·subst e; simp [h]
 ·simp [e, Array.getElem?_setIfInBounds_ne (fun x => e x.symm)]
theorem a9V {f : Nat × O6 -> Nat × O6 -> Bool} : ∀ {l : List (Nat × O6)}, a6x f l = true -> l.Pairwise (fun x y => f x y = true)
 | [], _ => .nil
 | x :: l, h => by
   simp only [a6x, Bool.and_eq_true, List.all_eq_true] at h
   exact List.pairwise_cons.2 ⟨h.1, a9V h.2⟩
theorem b3U {d : Option Nat} {l : List Nat} (h : a5E d l = true) {t : Nat} (ht : t ∈ l) : d ≠ some t := by
 intro e
 subst e
 simp [a5E] at h
 exact h ht
theorem c0x {env : Env} {g : P4} {ro : ROp} {d : D} (h : evR env g ro = some d) {id : Nat} (hr : rdR env ro = some id) : g id ≠ none := by
 intro hn
 cases ro with
 | load n x =>
   simp only [evR, rdR] at h hr
   split at hr
   ·rename_i i2 off hx
    cases hr
    rw [hx] at h
    simp only [hn] at h
    cases h
   ·simp at hr
 | lookup ks z ok m k =>
   simp only [evR, rdR] at h hr
   split at hr
   ·rename_i i2 hx
    cases hr
    rw [hx] at h
    simp only [hn] at h
    cases h
   ·simp at hr
 | b2s x =>
   simp only [evR, rdR] at h hr
   split at hr
   ·rename_i i2 o l z hx
    simp at hr; subst hr
    simp [hx, X0, hn] at h
   ·simp at hr
theorem b2N {s : M1} {id : Nat} (h : s.get id ≠ none) : id < s.next := by
 unfold M1.get at h
 split at h
 ·assumption
 ·simp at h
theorem a4I {s s' : M1} {id : Nat} (h : X3 s s' (some id) = true) : s.get id = s'.get id := b7Y _ _ h
theorem c1r {Q : Exit -> Act -> World -> Prop} (hC : a1b P C) {ops : Array Oper} {pairs : List (Nat × Nat)} {env0 envF : Env} {s0 sF : M1} {rs : List Rec} (htr : a0E C env0 s0 rs envF sF)
 (hst : rs.Pairwise (a2j pairs)) (hpo : rs.Pairwise fun x y => a2M (a1J ops.toList []) pairs (x.i, x.o) (y.i, y.o) = true) (hnd : (rs.map (·.i)).Nodup) (hback : a2N ops.toList 0 = true)
 (hcomp : ∀ r ∈ rs, ∃ o, ops[r.i]? = some o /\ a0F P md N ops o = some r.o)
 {μ0 : Mu} {Φ0 : Phi} {w0 : World} {L : Array Bool} {a : Act} {w : World} {μ : Mu} {Φ : Phi} (hI : Inv N μ0 Φ0 w0 env0 s0 sF rs L a w μ Φ) (hsh : a7d ops L) (hsz : L.size = ops.size)
 {r : Rec} (hr : r ∈ rs) (hoff : ¬ On L r.i) (hready : ∀ o, ops[r.i]? = some o -> ∀ e ∈ o.after.toList, Region.binds .any e = true -> On L e.on) :
 wpOp P ops Q r.i (fun a' w' => ∃ μ' Φ', Inv N μ0 Φ0 w0 env0 s0 sF rs (L.setIfInBounds r.i true) a' w' μ' Φ') a w := by
 obtain ⟨o, ho, hco⟩ := hcomp r hr
 obtain ⟨hres, hdst, hdok⟩ := b1Z hco
 have hi : r.i < L.size := by rw [hsz]; exact (Array.getElem?_eq_some_iff.1 ho).1
 obtain ⟨A, B, hAB⟩ := List.append_of_mem hr
 subst hAB
 obtain ⟨hrok, hnA, hnB⟩ := b2o hC htr
 have hrn := a61 hC hrok
 -- others than r
 have hneA : ∀ q ∈ A, q.i ≠ r.i := by
  intro q hq e
  rw [List.map_append, List.map_cons] at hnd
  have := (List.nodup_append.1 hnd).2.2
  exact this q.i (List.mem_map_of_mem hq) r.i (by simp) e
 have hneB : ∀ q ∈ B, q.i ≠ r.i := by
  intro q hq e
  rw [List.map_append, List.map_cons] at hnd
  have := (List.nodup_append.1 hnd).2.1
  rw [List.nodup_cons] at this
  exact this.1 (by rw [<- e]; exact List.mem_map_of_mem hq)
 have hpA : ∀ q ∈ A, a2M (a1J ops.toList []) pairs (q.i, q.o) (r.i, r.o) = true /\ a2j pairs q r := fun q hq =>
  ⟨(List.pairwise_append.1 hpo).2.2 q hq r (by simp), (List.pairwise_append.1 hst).2.2 q hq r (by simp)⟩
 have hpB : ∀ q ∈ B, a2M (a1J ops.toList []) pairs (r.i, r.o) (q.i, q.o) = true /\ a2j pairs r q := fun q hq =>
  ⟨(List.pairwise_cons.1 (List.pairwise_append.1 hpo).2.1).1 q hq, (List.pairwise_cons.1 (List.pairwise_append.1 hst).2.1).1 q hq⟩
 have hall := (a5v hC htr).2
 have indA : ∀ q ∈ A, ¬ On L q.i -> a3y q.o r.o = true /\ a1e pairs q.i r.i q.o.op r.o.op = true /\ a2j pairs q r := by
  intro q hq hq'
  obtain ⟨h1, h2⟩ := hpA q hq
  simp only [a2M, Bool.and_eq_true, Bool.or_eq_true] at h1
  rcases h1.2 with h3 | h3
  ·exact absurd (a93 hback hsh r.i o ho (hready o ho) q.i h3) hq'
  ·exact ⟨h3.1, h3.2, h2⟩
 have indB : ∀ q ∈ B, On L q.i -> a3y r.o q.o = true /\ a1e pairs r.i q.i r.o.op q.o.op = true /\ a2j pairs r q := by
  intro q hq hq'
  obtain ⟨h1, h2⟩ := hpB q hq
  simp only [a2M, Bool.and_eq_true, Bool.or_eq_true] at h1
  rcases h1.2 with h3 | h3
  ·obtain ⟨o2, ho2, _⟩ := hcomp q (by simp [hq])
   exact absurd (a93 hback hsh q.i o2 ho2 (hsh q.i o2 ho2 hq') r.i h3) hoff
  ·exact ⟨h3.1, h3.2, h2⟩
 -- what r looks at is as it was written down
 have agreeE : ∀ t ∈ r.o.looks, a3t env0 (A ++ r :: B) L t = r.env.get t := by
  intro t ht
  refine a33 (a6R t htr) ?_ (.inl hoff) ?_
  ·intro q hq hq'
   have := (indA q hq hq').1
   simp only [a3y, Bool.and_eq_true] at this
   exact a4w (b3U this.1.1 ht)
  ·intro q hq hq'
   have := (indB q hq hq').1
   simp only [a3y, Bool.and_eq_true] at this
   exact a4w (b3U this.1.2 ht)
 have henv : X7 μ Φ (r.env.keep r.o.looks) a := by
  intro t
  by_cases ht : t ∈ r.o.looks
  ·rw [a8X _ _ _ ht, <- agreeE t ht]
   exact hI.env t
  ·rw [b1R _ _ _ ht]
   simp only [R]
 have hsame : a0t (r.env.keep r.o.looks) r.env r.o.looks := fun t ht => a8X _ _ _ ht
 have hsameG : a0t (r.env.keep r.o.looks) r.env (a5V r.o.guard) := hsame.left
 have hsameO : a0t (r.env.keep r.o.looks) r.env r.o.op.slots := hsame.right
 -- the end of a step
 have hmem : ∀ q ∈ A ++ r :: B, q.i = r.i -> q = r := by
  intro q hq e
  rcases List.mem_append.1 hq with h | h
  ·exact absurd e (hneA q h)
  ·rcases List.mem_cons.1 h with h | h
   ·exact h
   ·exact absurd e (hneB q h)
 have honA : ∀ q ∈ A, (On (L.setIfInBounds r.i true) q.i ↔ On L q.i) := fun q hq => by rw [a36 hi]; simp [hneA q hq]
 have honB : ∀ q ∈ B, (On (L.setIfInBounds r.i true) q.i ↔ On L q.i) := fun q hq => by rw [a36 hi]; simp [hneB q hq]
 have honr : On (L.setIfInBounds r.i true) r.i := by rw [a36 hi]; exact .inl rfl
 have sameCur : ∀ {V : Type} (pre post : Rec -> V) (v : V), pre r = post r -> cur pre post (L.setIfInBounds r.i true) v (A ++ r :: B) = cur pre post L v (A ++ r :: B) := by
  intro V pre post v h
  refine b1W v ?_
  intro q hq
  rcases List.mem_append.1 hq with h' | h'
  ·exact .inl (honA q h')
  ·rcases List.mem_cons.1 h' with rfl | h'
   ·exact .inr h
   ·exact .inl (honB q h')
 have hfin : ∀ v w' μ' Φ', R μ' Φ' r.d v -> Sim μ' Φ' (a0u s0 (A ++ r :: B) (L.setIfInBounds r.i true)) w' -> Evo μ Φ (a0u s0 (A ++ r :: B) L) w μ' Φ' (a0u s0 (A ++ r :: B) (L.setIfInBounds r.i true)) w' r.s.next r.s'.next ->
  Inv N μ0 Φ0 w0 env0 s0 sF (A ++ r :: B) (L.setIfInBounds r.i true) (a.put o.dst v) w' μ' Φ' := by
  intro v w' μ' Φ' hrv hs' he
  refine ⟨?_, ?_, ?_, hs', ?_, ?_⟩
  ·intro t
   by_cases htd : r.o.dst = some t
   ·have h1 : a3t env0 (A ++ r :: B) (L.setIfInBounds r.i true) t = r.d := by
     rw [<- c2B htd]
     refine a5y (a6R t htr) ?_ honr ?_
     ·intro q hq hq'
      rw [honA q hq] at hq'
      have := (indA q hq hq').1
      simp only [a3y, Bool.and_eq_true] at this
      refine a4w fun e => ?_
      have h3 := this.2
      rw [e, htd] at h3
      simp at h3
     ·intro q hq hq'
      rw [honB q hq] at hq'
      have := (indB q hq hq').1
      simp only [a3y, Bool.and_eq_true] at this
      refine a4w fun e => ?_
      have h3 := this.2
      rw [e, htd] at h3
      simp at h3
    rw [h1]
    rw [hdst] at htd
    rw [htd] at hdok ⊢
    have hlt : t < a.tmps.size := Nat.lt_of_lt_of_le (by simpa [a4a] using hdok) hI.size
    rw [a70 t hlt]
    simpa using hrv
   ·have h1 : a3t env0 (A ++ r :: B) (L.setIfInBounds r.i true) t = a3t env0 (A ++ r :: B) L t := sameCur _ _ _ (a4w htd)
    rw [h1]
    have h2 : (a.put o.dst v).tmps.getD t undef = a.tmps.getD t undef := by
     rw [hdst] at htd
     cases hd : o.dst with
     | none => rfl
     | some u =>
       rw [hd] at hdok
       have hlt : u < a.tmps.size := Nat.lt_of_lt_of_le (by simpa [a4a] using hdok) hI.size
       rw [a70 t hlt, if_neg (fun e => htd (by rw [hd, e]))]
    rw [h2]
    exact a4V he.mu he.phi _ _ (hI.env t)
  ·cases o.dst <;> simpa [Act.put] using hI.size
  ·cases o.dst <;> simpa [Act.put] using hI.defers
  ·have h1 := (hall r (by simp)).1
   have h2 := (hall r (by simp)).2.1
   exact hI.evo.trans_same (he.widen h1 h2)
  ·intro q hq hq'
   have hqr : q.i ≠ r.i := fun e => hq' (by rw [e]; exact honr)
   have hqL : ¬ On L q.i := fun h => hq' (by rw [a36 hi]; exact .inr h)
   intro id h1 h2
   rw [he.muOut id]
   ·exact hI.fresh q hq hqL id h1 h2
   ·rcases List.mem_append.1 hq with h | h
    ·have := hnA q h; omega
    ·rcases List.mem_cons.1 h with h | h
     ·exact absurd (by rw [h]) hqr
     ·have := hnB q h; omega
 have hstillS : r.s' = r.s -> a0u s0 (A ++ r :: B) (L.setIfInBounds r.i true) = a0u s0 (A ++ r :: B) L := by
  intro h
  funext id
  exact sameCur _ _ _ (by simp only [W4, X1, h])
 unfold Go.wpOp
 simp only [ho]
 rcases hrok with ⟨hw, hd, hs', _⟩ | ⟨hw, hrun, hrd⟩
 ·-- passed over
  have hwant := a6G hco henv (by rw [b3W hsameG]; exact hw)
  rw [hwant]
  simp only [Bool.false_eq_true, if_false]
  refine ⟨μ, Φ, hfin undef w μ Φ (by rw [hd]; exact a5z) ?_ ?_⟩
  ·rw [hstillS hs']; exact hI.sim
  ·rw [hstillS hs', hs']; exact Evo.refl _ _ _ _ _
 ·have hwant := a6G hco henv (by rw [b3W hsameG]; exact hw)
  rw [hwant]
  simp only [if_true]
  left
  cases hop : r.o.op with
  | p po =>
    rw [hop] at hrun hres hsameO
    simp only [P1] at hrun
    obtain ⟨d', h1, e⟩ := map_some hrun
    simp at e
    refine b29 hres henv (d := r.d) (by rw [c2Q hsameO, h1, e.1]) fun v hv => ⟨μ, Φ, hfin v w μ Φ hv ?_ ?_⟩
    ·rw [hstillS e.2.symm]; exact hI.sim
    ·rw [hstillS e.2.symm, <- e.2]; exact Evo.refl _ _ _ _ _
  | r ro =>
    rw [hop] at hrun hres hsameO hrd
    simp only [P1] at hrun
    obtain ⟨d', h1, e⟩ := map_some hrun
    simp at e
    simp only [V2] at hrd
    have hlook : evR r.env (a0u s0 (A ++ r :: B) L) ro = evR r.env r.s.get ro := by
     refine b4U fun id hid => ?_
     have hne := c0x h1 hid
     have hlt := b2N hne
     refine a33 (a2v id htr) ?_ (.inl hoff) ?_
     ·intro q hq hq'
      obtain ⟨_, hm, hstl⟩ := indA q hq hq'
      have hqok := (hall q (by simp [hq])).2.2
      simp only [W4, X1]
      simp only [a1e, hop, isP, isR, isA, isM, isW, Bool.or_eq_true, Bool.and_eq_true, Bool.or_false, Bool.and_true, Bool.and_false, Bool.not_false, Bool.or_false] at hm
      rcases hm with (hm | hm) | hm
      ·rw [a1q hqok (.inl hm)]
      ·rw [a1q hqok (.inr hm)]
      ·exact a4I (by have := (hstl hm.2).2; rwa [hrd, hid] at this)
     ·intro q hq hq'
      obtain ⟨_, hm, hstl⟩ := indB q hq hq'
      have hqok := (hall q (by simp [hq])).2.2
      simp only [W4, X1]
      simp only [a1e, hop, isP, isR, isM, isW, Bool.or_eq_true, Bool.and_eq_true, Bool.true_and, Bool.false_and, Bool.not_false, Bool.false_or] at hm
      rcases hm with ((hm | hm) | hm) | hm
      ·rw [a1q hqok (.inl hm)]
      ·rw [a1q hqok (.inr hm)]
      ·exact (a4J hqok hm id (by have := hnB q hq; omega)).symm
      ·exact a4I (by have := (hstl hm.2).1; rwa [hrd, hid] at this)
    refine b2a hres henv hI.sim (d := r.d) (by rw [b8F hsameO, hlook, h1, e.1]) fun v hv => ⟨μ, Φ, hfin v w μ Φ hv ?_ ?_⟩
    ·rw [hstillS e.2.symm]; exact hI.sim
    ·rw [hstillS e.2.symm, <- e.2]; exact Evo.refl _ _ _ _ _
  | a ao =>
    rw [hop] at hrun hres hsameO
    simp only [P1] at hrun
    split at hrun
    ·rename_i ob m h1
     simp at hrun
     obtain ⟨hd, hs'⟩ := hrun
     have hnx : r.s'.next = r.s.next + 1 := by rw [<- hs']; rfl
     have hp1 : r.s.get r.s.next = none := M1.get_none _ _ (Nat.le_refl _)
     have hp2 : r.s'.get r.s.next = some ob := by rw [<- hs', M1.get_push]; simp
     have cA : ∀ q ∈ A, ¬ On L q.i -> W4 r.s.next q = X1 r.s.next q := by
      intro q hq _
      have h2 := hnA q hq
      have h3 := a61 hC (hall q (by simp [hq])).2.2
      simp only [W4, X1]
      rw [M1.get_none _ _ (by omega), M1.get_none _ _ (by omega)]
     have cB : ∀ q ∈ B, On L q.i -> W4 r.s.next q = X1 r.s.next q := by
      intro q hq hq'
      obtain ⟨_, hm, hstl⟩ := indB q hq hq'
      have hqok := (hall q (by simp [hq])).2.2
      have h2 := hnB q hq
      simp only [W4, X1]
      simp only [a1e, hop, isP, isR, isA, isM, isW, Bool.or_eq_true, Bool.and_eq_true, Bool.true_and, Bool.false_and, Bool.not_false, Bool.false_or, Bool.or_false] at hm
      rcases hm with (hm | hm) | hm
      ·rw [a1q hqok (.inl hm)]
      ·exact (a4J hqok hm _ (by omega)).symm
      ·have hst2 := (hstl hm.2).2
       have hrq : q.rd ≠ some r.s.next := by
        intro e
        rw [e] at hst2
        have := a4I hst2
        rw [hp1, hp2] at this
        cases this
       cases hqo : q.o.op with
       | p po => rw [a1q hqok (.inl (by rw [hqo]; rfl))]
       | r po => rw [a1q hqok (.inr (by rw [hqo]; rfl))]
       | a ao => exact (a4J hqok (by rw [hqo]; rfl) _ (by omega)).symm
       | w n ad x => exact (c0t hqok (by rw [hqo]; rfl) _ hrq).symm
       | m mo => rw [hqo] at hm; simp at hm
     have hcur : a0u s0 (A ++ r :: B) L r.s.next = none := by
      have := a33 (pre := W4 r.s.next) (post := X1 r.s.next) (L := L) (a2v r.s.next htr) cA (.inl hoff) cB
      exact this.trans hp1
     have hcur' : a0u s0 (A ++ r :: B) (L.setIfInBounds r.i true) = upd (a0u s0 (A ++ r :: B) L) r.s.next (some ob) := by
      funext j
      by_cases hj : j = r.s.next
      ·subst hj
       have := a5y (pre := W4 r.s.next) (post := X1 r.s.next) (L := L.setIfInBounds r.i true) (a2v r.s.next htr) (fun q hq h => cA q hq (by rwa [honA q hq] at h)) honr (fun q hq h => cB q hq (by rwa [honB q hq] at h))
       simp only [upd, if_true]
       exact this.trans hp2
      ·simp only [upd, hj, if_false]
       exact sameCur _ _ _ (by simp only [W4, X1]; rw [<- hs', M1.get_push, if_neg hj])
     refine a9P hres henv hI.sim (by rw [b7Q hsameO, h1]) (hI.fresh r (by simp) hoff r.s.next (Nat.le_refl _) (by omega)) hcur fun v w' μ' g1 g2 g3 => ⟨μ', Φ, hfin v w' μ' Φ (by rw [<- hd]; exact g2) ?_ ?_⟩
     ·rw [hcur']; exact g1
     ·rw [hcur', hnx]; exact g3
    ·simp at hrun
  | w n ad x =>
    rw [hop] at hrun hres hsameO hrd
    simp only [P1] at hrun
    split at hrun
    ·rename_i id ob h1
     simp at hrun
     obtain ⟨hd, hs'⟩ := hrun
     have hx : rdW r.env ad = some id /\ r.s.get id ≠ none := by
      unfold evW at h1
      unfold rdW
      split at h1
      ·rename_i i2 off hx
       split at h1
       ·rename_i hg
        simp only at h1
        split at h1
        ·simp at h1
         rw [<- h1.1]
         exact ⟨rfl, by rw [hg]; simp⟩
        ·simp at h1
       ·simp at h1
      ·simp at h1
     simp only [V2, hx.1] at hrd
     have hlt := b2N hx.2
     have hp2 : r.s'.get id = some ob := by rw [<- hs', M1.get_set]; simp [hlt]
     have cA : ∀ q ∈ A, ¬ On L q.i -> W4 id q = X1 id q := by
      intro q hq hq'
      obtain ⟨_, hm, hstl⟩ := indA q hq hq'
      have hqok := (hall q (by simp [hq])).2.2
      simp only [W4, X1]
      simp only [a1e, hop, isP, isR, isA, isM, isW, Bool.or_eq_true, Bool.and_eq_true, Bool.and_false, Bool.and_true, Bool.not_false, Bool.or_false] at hm
      rcases hm with hm | hm
      ·rw [a1q hqok (.inl hm)]
      ·exact a4I (by have := (hstl hm.2).2; rwa [hrd] at this)
     have cB : ∀ q ∈ B, On L q.i -> W4 id q = X1 id q := by
      intro q hq hq'
      obtain ⟨_, hm, hstl⟩ := indB q hq hq'
      have hqok := (hall q (by simp [hq])).2.2
      have h2 := hnB q hq
      simp only [W4, X1]
      simp only [a1e, hop, isP, isR, isA, isM, isW, Bool.or_eq_true, Bool.and_eq_true, Bool.true_and, Bool.false_and, Bool.not_false, Bool.false_or, Bool.or_false] at hm
      rcases hm with (hm | hm) | hm
      ·rw [a1q hqok (.inl hm)]
      ·exact (a4J hqok hm _ (by omega)).symm
      ·exact a4I (by have := (hstl hm.2).1; rwa [hrd] at this)
     have hagree : a0u s0 (A ++ r :: B) L id = r.s.get id := a33 (pre := W4 id) (post := X1 id) (L := L) (a2v id htr) cA (.inl hoff) cB
     have hcur' : a0u s0 (A ++ r :: B) (L.setIfInBounds r.i true) = upd (a0u s0 (A ++ r :: B) L) id (some ob) := by
      funext j
      by_cases hj : j = id
      ·subst hj
       have := a5y (pre := W4 j) (post := X1 j) (L := L.setIfInBounds r.i true) (a2v j htr) (fun q hq h => cA q hq (by rwa [honA q hq] at h)) honr (fun q hq h => cB q hq (by rwa [honB q hq] at h))
       simp only [upd, if_true]
       exact this.trans hp2
      ·simp only [upd, hj, if_false]
       exact sameCur _ _ _ (by simp only [W4, X1]; rw [<- hs', M1.get_set]; simp [hj])
     have hnx : r.s'.next = r.s.next := by rw [<- hs']; rfl
     refine b3w hres henv hI.sim (id := id) (vo := ob) ?_ r.s.next fun w' g1 g2 => ⟨μ, Φ, hfin undef w' μ Φ (by rw [<- hd]; exact a5z) ?_ ?_⟩
     ·rw [b4w hsameO, b5m (g' := r.s.get) (fun i2 h2 => by rw [hx.1] at h2; cases h2; exact hagree), h1]
     ·rw [hcur']; exact g1
     ·rw [hcur', hnx]; exact g2
    ·simp at hrun
  | m mo =>
    rw [hop] at hrun hres hsameO
    simp only [P1] at hrun
    have kA : ∀ q ∈ A, ¬ On L q.i -> q.s' = q.s := by
     intro q hq hq'
     obtain ⟨_, hm, _⟩ := indA q hq hq'
     have hqok := (hall q (by simp [hq])).2.2
     cases hqo : q.o.op with
     | p po => exact a1q hqok (.inl (by rw [hqo]; rfl))
     | r po => exact a1q hqok (.inr (by rw [hqo]; rfl))
     | a ao => rw [hqo, hop] at hm; simp [a1e, isP, isR, isA, isM, isW] at hm
     | w n ad x => rw [hqo, hop] at hm; simp [a1e, isP, isR, isA, isM, isW] at hm
     | m mo => rw [hqo, hop] at hm; simp [a1e, isP, isR, isA, isM, isW] at hm
    have kB : ∀ q ∈ B, On L q.i -> ∀ id, id ≠ q.s.next -> q.s'.get id = q.s.get id := by
     intro q hq hq' id hid
     obtain ⟨_, hm, _⟩ := indB q hq hq'
     have hqok := (hall q (by simp [hq])).2.2
     cases hqo : q.o.op with
     | p po => rw [a1q hqok (.inl (by rw [hqo]; rfl))]
     | r po => rw [a1q hqok (.inr (by rw [hqo]; rfl))]
     | a ao => exact a4J hqok (by rw [hqo]; rfl) id hid
     | w n ad x => rw [hqo, hop] at hm; simp [a1e, isP, isR, isA, isM, isW] at hm
     | m mo => rw [hqo, hop] at hm; simp [a1e, isP, isR, isA, isM, isW] at hm
    have hsub : ∀ id ob, r.s.get id = some ob -> a0u s0 (A ++ r :: B) L id = some ob := by
     intro id ob hg
     have hlt := a53 hg
     have := a33 (pre := W4 id) (post := X1 id) (L := L) (a2v id htr) (fun q hq h => by simp only [W4, X1]; rw [kA q hq h]) (.inl hoff)
      (fun q hq h => by simp only [W4, X1]; exact (kB q hq h id (by have := hnB q hq; omega)).symm)
     exact this.trans hg
    have hs1 : Sim μ Φ r.s.get w := hI.sim.fewer hsub
    obtain ⟨_, hwp⟩ := b3a (K := fun a' w' => ∃ μ' Φ', Inv N μ0 Φ0 w0 env0 s0 sF (A ++ r :: B) (L.setIfInBounds r.i true) a' w' μ' Φ') (Q := Q) hC hres henv hs1 (by rw [c3u hsameO]; exact hrun)
    refine hwp (hI.fresh r (by simp) hoff) ?_
    intro v w' μ' Φ' g1 g2 g3
    have hj := Sim.join (G := a0u s0 (A ++ r :: B) (L.setIfInBounds r.i true)) hI.sim g1 hsub g3 (by
     intro id ob hG
     by_cases hex : ∃ q ∈ B, On L q.i /\ id = q.s.next
     ·obtain ⟨q, hq, hq', hid⟩ := hex
      have h2 := hnB q hq
      right
      have e1 : r.s.get id = none := M1.get_none _ _ (by omega)
      have e2 : r.s'.get id = none := M1.get_none _ _ (by omega)
      refine ⟨?_, e1⟩
      rw [<- hG]
      exact (sameCur _ _ _ (by simp only [W4, X1, e1, e2])).symm
     ·left
      have := a5y (pre := W4 id) (post := X1 id) (L := L.setIfInBounds r.i true) (a2v id htr) (fun q hq h => by simp only [W4, X1]; rw [kA q hq (by rwa [honA q hq] at h)]) honr
       (fun q hq h => by
        rw [honB q hq] at h
        simp only [W4, X1]
        exact (kB q hq h id (fun e => hex ⟨q, hq, h, e⟩)).symm)
      have hG' : a0u s0 (A ++ r :: B) (L.setIfInBounds r.i true) id = r.s'.get id := this
      rw [<- hG', hG])
    exact ⟨μ', Φ', hfin v w' μ' Φ' g2 hj.1 hj.2⟩
end
end Go.V
namespace Go.V
section
variable {P : Program} {md : FuncId -> W8} {N : Nat} {C : U1}
def a4i (n : Nat) (L : Array Bool) : Nat := (List.range n).countP (fun i => !L.getD i false)
theorem c39 {n : Nat} {L : Array Bool} {i : Nat} (hi : i < n) (hL : i < L.size) (hoff : ¬ On L i) : a4i n (L.setIfInBounds i true) + 1 = a4i n L := by
 have h0 : L.getD i false = false := by unfold On at hoff; simpa using hoff
 have key : ∀ l : List Nat, l.Nodup -> (l.countP (fun j => !(L.setIfInBounds i true).getD j false)) + (if i ∈ l then 1 else 0) = l.countP (fun j => !L.getD j false) := by
  intro l
  induction l with
  | nil => intro _; simp
  | cons x l ih =>
    intro hn
    rw [List.nodup_cons] at hn
    have := ih hn.2
    rw [List.countP_cons, List.countP_cons]
    by_cases e : x = i
    ·subst e
     have hx : (L.setIfInBounds x true).getD x false = true := (a36 hL).2 (.inl rfl)
     rw [hx, h0]
     simp [hn.1] at this ⊢
     omega
    ·have hx : (L.setIfInBounds i true).getD x false = L.getD x false := by
      simp only [Array.getD_eq_getD_getElem?]
      rw [Array.getElem?_setIfInBounds_ne (fun h => e h.symm)]
     rw [hx]
     have hm : (i ∈ x :: l) ↔ i ∈ l := by
      simp only [List.mem_cons]
      exact ⟨fun h => h.resolve_left (fun q => e q.symm), .inr⟩
     simp only [hm]
     omega
 have := key (List.range n) List.nodup_range
 simp only [List.mem_range, hi, if_true] at this
 exact this
theorem b82 {n : Nat} {L : Array Bool} (h : a4i n L = 0) : ∀ i, i < n -> On L i := by
 intro i hi
 unfold a4i at h
 rw [List.countP_eq_zero] at h
 have := h i (List.mem_range.2 hi)
 simpa [On] using this
theorem c3h {ops : Array Oper} {L : Array Bool} (hsz : L.size = ops.size) (hback : a2N ops.toList 0 = true) (h : Region.ready .any ops L = []) : ∀ i, i < ops.size -> On L i := by
 intro i
 induction i using Nat.strongRecOn with
 | _ i ih =>
   intro hi
   apply Classical.byContradiction
   intro hoff
   have hmem : i ∈ Region.ready .any ops L := by
    unfold Region.ready
    rw [List.mem_filter]
    refine ⟨List.mem_range.2 hi, ?_⟩
    have h0 : L.getD i true = false := by
     unfold On at hoff
     simp only [Array.getD_eq_getD_getElem?] at hoff ⊢
     have : i < L.size := by omega
     simp [this] at hoff ⊢
     exact hoff
    rw [h0]
    have ho : ops[i]? = some ops[i] := by simp [hi]
    simp only [Bool.not_false, Bool.true_and, ho, Option.map_some, Option.getD_some]
    rw [<- Array.all_toList, List.all_eq_true]
    intro e he
    by_cases hb : Region.binds .any e = true
    ·have hlt := a8l hback i ops[i] (by simp [hi]) e he hb
     have := ih e.on (by omega) (by omega)
     unfold On at this
     simp [this]
    ·simp at hb
     simp [hb]
   rw [h] at hmem
   simp at hmem
theorem b8U {Q : Exit -> Act -> World -> Prop} (hC : a1b P C) {ops : Array Oper} {pairs : List (Nat × Nat)} {env0 envF : Env} {s0 sF : M1} {rs : List Rec} (htr : a0E C env0 s0 rs envF sF)
 (hst : rs.Pairwise (a2j pairs)) (hpo : rs.Pairwise fun x y => a2M (a1J ops.toList []) pairs (x.i, x.o) (y.i, y.o) = true) (hnd : (rs.map (·.i)).Nodup) (hback : a2N ops.toList 0 = true)
 (hcomp : ∀ r ∈ rs, ∃ o, ops[r.i]? = some o /\ a0F P md N ops o = some r.o) (hcov : ∀ i, i < ops.size -> ∃ r ∈ rs, r.i = i) {μ0 : Mu} {Φ0 : Phi} {w0 : World}
 (hQ : a22 N μ0 Φ0 s0 w0 envF sF (fun a w => Q .normal a w)) : ∀ (fuel : Nat) (L : Array Bool) (a : Act) (w : World) (μ : Mu) (Φ : Phi), L.size = ops.size -> a7d ops L -> a4i ops.size L = fuel ->
 Inv N μ0 Φ0 w0 env0 s0 sF rs L a w μ Φ -> wpAny P .any ops Q fuel L a w := by
 have hend : ∀ (L : Array Bool) (a : Act) (w : World) (μ : Mu) (Φ : Phi), (∀ i, i < ops.size -> On L i) -> Inv N μ0 Φ0 w0 env0 s0 sF rs L a w μ Φ -> Q .normal a w := by
  intro L a w μ Φ hon hI
  have hon' : ∀ q ∈ rs, On L q.i := fun q hq => by
   obtain ⟨o, ho, _⟩ := hcomp q hq
   exact hon q.i (Array.getElem?_eq_some_iff.1 ho).1
  have hS : a0u s0 rs L = sF.get := funext fun id => a8H (a2v id htr) hon'
  have hE : ∀ t, a3t env0 rs L t = envF.get t := fun t => a8H (a6R t htr) hon'
  have h1 := hI.sim
  have h2 := hI.evo
  rw [hS] at h1 h2
  exact hQ a w μ Φ ⟨fun t => by rw [<- hE t]; exact hI.env t, hI.size, hI.defers⟩ h1 h2
 intro fuel
 induction fuel with
 | zero =>
   intro L a w μ Φ hsz hsh hcnt hI
   have hon := b82 hcnt
   refine ⟨?_, hend L a w μ Φ hon hI⟩
   unfold Region.ready
   rw [List.filter_eq_nil_iff]
   intro i hi
   have := hon i (List.mem_range.1 hi)
   have hlt : i < L.size := by rw [hsz]; exact List.mem_range.1 hi
   unfold On at this
   simp only [Array.getD_eq_getD_getElem?] at this ⊢
   simp [hlt] at this ⊢
   simp [this]
 | succ fuel ih =>
   intro L a w μ Φ hsz hsh hcnt hI
   refine ⟨fun hr => hend L a w μ Φ (c3h hsz hback hr) hI, ?_⟩
   intro i hi
   unfold Region.ready at hi
   rw [List.mem_filter] at hi
   obtain ⟨hi1, hi2⟩ := hi
   have hlt := List.mem_range.1 hi1
   simp only [Bool.and_eq_true] at hi2
   have hoff : ¬ On L i := by
    unfold On
    have h3 := hi2.1
    have : i < L.size := by omega
    simp only [Array.getD_eq_getD_getElem?] at h3 ⊢
    simp [this] at h3 ⊢
    exact h3
   have hready : ∀ o, ops[i]? = some o -> ∀ e ∈ o.after.toList, Region.binds .any e = true -> On L e.on := by
    intro o ho e he hb
    have h3 := hi2.2
    rw [ho] at h3
    simp only [Option.map_some, Option.getD_some] at h3
    rw [<- Array.all_toList, List.all_eq_true] at h3
    have := h3 e he
    simp [hb] at this
    unfold On
    simpa using this
   obtain ⟨r, hr, rfl⟩ := hcov i hlt
   refine wpOp_mono ?_ (c1r (Q := Q) hC htr hst hpo hnd hback hcomp hI hsh hsz hr hoff hready)
   rintro a' w' ⟨μ', Φ', hI'⟩
   refine ih _ _ _ μ' Φ' (by simpa using hsz) ?_ ?_ hI'
   ·intro j o ho hj e he hb
    rw [a36 (by omega)] at hj ⊢
    right
    rcases hj with rfl | hj
    ·exact hready o ho e he hb
    ·exact hsh j o ho hj e he hb
   ·have := c39 (n := ops.size) hlt (by omega) hoff
    omega
theorem b2p {Q : Exit -> Act -> World -> Prop} (hC : a1b P C) (hmix : P.follows .mixedOrders = true) {ops : Array Oper} {l : List (Nat × O6)} {pairs : List (Nat × Nat)} (hok : a6F ops l pairs = true)
 (hcomp : ∀ x ∈ l, ∃ o, ops[x.1]? = some o /\ a0F P md N ops o = some x.2) {env env' : Env} {s s' : M1} (hrun : V3 C pairs l [] env s = some (env', s'))
 {μ : Mu} {Φ : Phi} {a : Act} {w : World} (hf : FrR N μ Φ env a) (hs : Sim μ Φ s.get w) (hfr : a1R μ s.next s'.next) (hQ : a22 N μ Φ s w env' s' (fun a w => Q .normal a w)) (id : Nat) :
 (Code.region id ops true).wp P Q a w := by
 simp only [a6F, Bool.and_eq_true, decide_eq_true_eq, List.all_eq_true] at hok
 obtain ⟨⟨⟨⟨⟨h1, h2⟩, h3⟩, h4⟩, h5⟩, h6⟩ := hok
 have htrace : ∃ rs : List Rec, rs.map (fun r => (r.i, r.o)) = l /\ a0E C env s rs env' s' /\ rs.Pairwise (a2j pairs) := by
  cases hp : pairs.isEmpty with
  | true => exact a8F hp hrun
  | false =>
    obtain ⟨rs, g1, g2, g3, _⟩ := a82 hp hrun
    exact ⟨rs, g1, g2, g3⟩
 obtain ⟨rs, g1, g2, g3⟩ := htrace
 have hpo : rs.Pairwise fun x y => a2M (a1J ops.toList []) pairs (x.i, x.o) (y.i, y.o) = true := by
  have := a9V h6
  rw [<- g1, List.pairwise_map] at this
  exact this
 have hmap : l.map (·.1) = rs.map (·.i) := by rw [<- g1]; simp
 have hnd : (rs.map (·.i)).Nodup := by rw [<- hmap]; exact h1
 have hcomp' : ∀ r ∈ rs, ∃ o, ops[r.i]? = some o /\ a0F P md N ops o = some r.o := by
  intro r hr
  exact hcomp (r.i, r.o) (by rw [<- g1]; exact List.mem_map_of_mem hr)
 have hcov : ∀ i, i < ops.size -> ∃ r ∈ rs, r.i = i := by
  intro i hi
  have := h5 i (List.mem_range.2 hi)
  rw [hmap] at this
  simp only [List.contains_iff_mem, List.mem_map] at this
  exact this
 refine wp_region_any hmix ?_
 have hoffAll : ∀ i, ¬ On (Array.replicate ops.size false) i := by
  intro i h
  unfold On at h
  simp only [Array.getD_eq_getD_getElem?] at h
  by_cases hi : i < ops.size
  ·simp [hi] at h
  ·have : (Array.replicate ops.size false)[i]? = none := by simp; omega
   simp [this] at h
 have hQ' : a22 N μ Φ s { w with drawn := w.drawn + 1 } env' s' (fun a w => Q .normal a w) := by
  intro a' w' μ' Φ' q1 q2 q3
  refine hQ a' w' μ' Φ' q1 q2 ?_
  exact ⟨q3.mu, q3.muOut, q3.phi, q3.os, q3.tape, q3.output, q3.size, q3.keep, q3.phiNew, q3.ownNew⟩
 refine b8U hC g2 g3 hpo hnd h4 hcomp' hcov hQ' ops.size _ a _ μ Φ (by simp) ?_ ?_ ?_
 ·intro j o _ hj
  exact absurd hj (hoffAll j)
 ·unfold a4i
  rw [List.countP_eq_length.2]
  ·simp
  ·intro i _
   have := hoffAll i
   unfold On at this
   simpa using this
 ·have hE : ∀ t, a3t env rs (Array.replicate ops.size false) t = env.get t := fun t => b31 _ fun q _ => hoffAll q.i
  have hS : a0u s rs (Array.replicate ops.size false) = s.get := funext fun id => b31 _ fun q _ => hoffAll q.i
  have hn := a5v hC g2
  refine ⟨fun t => by rw [hE]; exact hf.env t, hf.size, hf.defers, by rw [hS]; exact hs.drew _, ?_, ?_⟩
  ·rw [hS]
   exact (Evo.refl μ Φ s.get { w with drawn := w.drawn + 1 } s.next).widen (Nat.le_refl _) hn.1
  ·intro r hr _ id q1 q2
   have := hn.2 r hr
   exact hfr id (by omega) (by omega)
end
end Go.V
namespace Go.V
def a4q (P : Program) (md : FuncId -> W8) (N : Nat) (ops : Array Oper) : List Oper -> Option (List O6)
 | [] => some []
 | o :: r => match a0F P md N ops o, a4q P md N ops r with
   | some v, some l => some (v :: l)
   | _, _ => none
def a1x : List O6 -> Nat -> List (Nat × O6)
 | [], _ => []
 | v :: r, i => (i, v) :: a1x r (i + 1)
def a3S (vs : List O6) : List Nat -> Option (List (Nat × O6))
 | [] => some []
 | i :: r => match vs[i]?, a3S vs r with
   | some v, some l => some ((i, v) :: l)
   | _, _ => none
abbrev Ann := List (Nat × List Nat × List (Nat × Nat))
def Ann.find : Ann -> Nat -> Option (List Nat × List (Nat × Nat))
 | [], _ => none
 | (i, x) :: r, id => if i = id then some x else Ann.find r id
def a8j (P : Program) (md : FuncId -> W8) (N : Nat) (ann : Ann) (id : Nat) (ops : Array Oper) (draw : Bool) : Option a85 :=
 match a4q P md N ops ops.toList with
 | none => none
 | some vs =>
   if draw then
    match ann.find id with
    | some (order, pairs) => match a3S vs order with
      | some l => if a6F ops l pairs then some ⟨l, pairs, true⟩ else none
      | none => none
    | none => if a6F ops (a1x vs 0) [] then some ⟨a1x vs 0, [], true⟩ else none
   else some ⟨a1x vs 0, [], false⟩
def a12 (P : Program) (md : FuncId -> W8) (N : Nat) (ann : Ann) : Code -> Option Z3
 | .skip => some .skip
 | .region id ops draw => (a8j P md N ann id ops draw).map .region
 | .seq a b => match a12 P md N ann a, a12 P md N ann b with
   | some x, some y => some (.seq x y)
   | _, _ => none
 | .cond c x y => match Q1 c, a12 P md N ann x, a12 P md N ann y with
   | some c, some x, some y => some (.cond c x y)
   | _, _, _ => none
 | .block id b => (a12 P md N ann b).map (.block id)
 | .loop b => (a12 P md N ann b).map .loop
 | .exit id => some (.exit id)
 | .ret => some .ret
 | _ => none
def a9j (P : Program) : ResultVar -> Option (Nat × Option (Option Nat))
 | .tmp t => some (t, none)
 | .cell t ty => (a2O P ty).map fun n => (t, some n)
def a3A (P : Program) : List ResultVar -> Option (List (Nat × Option (Option Nat)))
 | [] => some []
 | x :: r => match a9j P x, a3A P r with
   | some y, some l => some (y :: l)
   | _, _ => none
def a2q (P : Program) (md : FuncId -> W8) (ann : Ann) (vars : List Nat) (fn : Func) : Option M6 :=
 match fn.body with
 | none => none
 | some c => match a12 P md fn.ntmps ann c, a3A P fn.results.toList with
   | some vc, some rs => if fn.name == "runtime.NumGoroutine" then none else some ⟨vars, vc, rs⟩
   | _, _ => none
def a4B (l : List Nat) : FuncId -> W8 := fun g => if l.contains g then .iso else .raw
def a4x (P : Program) (fs : FuncId -> Option M6) : Prop := ∀ f vf, fs f = some vf -> ∃ fn md ann, P.funcs[f]? = some fn /\ a2q P md ann vf.vars fn = some vf
def a6S : U7 -> Exit
 | .normal => .normal
 | .exit id => .exit id
 | .ret => .ret
def b1m (P : Program) (ex : List Nat -> Z3 -> Env -> M1 -> Option Out) : Prop := ∀ (md : FuncId -> W8) (N : Nat) (ann : Ann) (vars : List Nat) (code : Code) (vc : Z3) (env : Env) (s : M1) (e : U7) (env' : Env) (s' : M1),
 a12 P md N ann code = some vc -> ex vars vc env s = some (e, env', s') -> s.next <= s'.next /\
 ∀ (μ : Mu) (Φ : Phi) (a : Act) (w : World) (Q : Exit -> Act -> World -> Prop), FrR N μ Φ env a -> Sim μ Φ s.get w -> a1R μ s.next s'.next -> a22 N μ Φ s w env' s' (Q (a6S e)) -> code.wp P Q a w
section
variable {P : Program} {fs : FuncId -> Option M6}
theorem b0p {md : FuncId -> W8} {N : Nat} {ops : Array Oper} : ∀ {l : List Oper} {vs : List O6}, a4q P md N ops l = some vs -> vs.length = l.length /\ ∀ (j : Nat) (o : Oper) (v : O6), l[j]? = some o -> vs[j]? = some v -> a0F P md N ops o = some v
 | [], vs, h => by simp [a4q] at h; subst h; simp
 | o :: l, vs, h => by
   simp only [a4q] at h
   split at h
   ·rename_i v l' h1 h2
    simp at h; subst h
    obtain ⟨g1, g2⟩ := b0p h2
    refine ⟨by simp [g1], ?_⟩
    intro j o' v' hj hv
    cases j with
    | zero => simp at hj hv; subst hj; subst hv; exact h1
    | succ j => exact g2 j o' v' (by simpa using hj) (by simpa using hv)
   ·simp at h
theorem a6C : ∀ {vs : List O6} {i : Nat}, (a1x vs i).length = vs.length /\ ∀ (j : Nat) (x : Nat × O6), (a1x vs i)[j]? = some x -> x.1 = i + j /\ vs[j]? = some x.2
 | [], i => by simp [a1x]
 | v :: vs, i => by
   obtain ⟨g1, g2⟩ := @a6C vs (i + 1)
   refine ⟨by simp [a1x, g1], ?_⟩
   intro j x hx
   cases j with
   | zero => simp [a1x] at hx; subst hx; simp
   | succ j =>
     simp [a1x] at hx
     have := g2 j x hx
     exact ⟨by omega, by simpa using this.2⟩
theorem a9Q {vs : List O6} : ∀ {l : List Nat} {r : List (Nat × O6)}, a3S vs l = some r -> ∀ x ∈ r, vs[x.1]? = some x.2
 | [], r, h, x, hx => by simp [a3S] at h; subst h; simp at hx
 | i :: l, r, h, x, hx => by
   simp only [a3S] at h
   split at h
   ·rename_i v l' h1 h2
    simp at h; subst h
    rcases List.mem_cons.1 hx with rfl | hx
    ·exact h1
    ·exact a9Q h2 x hx
   ·simp at h
theorem b6M {C : U1} (hC : a1b P C) (hmix : P.follows .mixedOrders = true) {md : FuncId -> W8} {N : Nat} {ann : Ann} {id : Nat} {ops : Array Oper} {draw : Bool} {r : a85} (hc : a8j P md N ann id ops draw = some r)
 {env env' : Env} {s s' : M1} (hrun : V3 C r.pairs r.ops [] env s = some (env', s')) : s.next <= s'.next /\
 ∀ (μ : Mu) (Φ : Phi) (a : Act) (w : World) (Q : Exit -> Act -> World -> Prop), FrR N μ Φ env a -> Sim μ Φ s.get w -> a1R μ s.next s'.next -> a22 N μ Φ s w env' s' (Q .normal) -> (Code.region id ops draw).wp P Q a w := by
 unfold a8j at hc
 split at hc
 ·simp at hc
 ·rename_i vs hvs
  obtain ⟨g1, g2⟩ := b0p hvs
  have hnum : ∀ x ∈ a1x vs 0, ∃ o, ops[x.1]? = some o /\ a0F P md N ops o = some x.2 := by
   intro x hx
   obtain ⟨j, hj⟩ := List.getElem?_of_mem hx
   obtain ⟨e1, e2⟩ := a6C.2 j x hj
   have hlt : j < ops.toList.length := by rw [<- g1]; exact (List.getElem?_eq_some_iff.1 e2).1
   have ho : ops.toList[j]? = some ops.toList[j] := List.getElem?_eq_getElem hlt
   refine ⟨ops.toList[j], ?_, g2 j _ _ ho e2⟩
   have : x.1 = j := by omega
   rw [this, <- Array.getElem?_toList]
   exact ho
  have hpick : ∀ {l : List Nat} {r : List (Nat × O6)}, a3S vs l = some r -> ∀ x ∈ r, ∃ o, ops[x.1]? = some o /\ a0F P md N ops o = some x.2 := by
   intro l r h x hx
   have e2 := a9Q h x hx
   have hlt : x.1 < ops.toList.length := by rw [<- g1]; exact (List.getElem?_eq_some_iff.1 e2).1
   have ho : ops.toList[x.1]? = some ops.toList[x.1] := List.getElem?_eq_getElem hlt
   exact ⟨_, by rw [<- Array.getElem?_toList]; exact ho, g2 _ _ _ ho e2⟩
  have hall : ∀ {l : List (Nat × O6)}, (∀ x ∈ l, ∃ o, ops[x.1]? = some o /\ a0F P md N ops o = some x.2) -> ∀ x ∈ l, ∃ o, a0F P md N ops o = some x.2 := fun h x hx => by
   obtain ⟨o, _, h2⟩ := h x hx
   exact ⟨o, h2⟩
  split at hc
  ·rename_i hd
   subst hd
   split at hc
   ·split at hc
    ·rename_i l hl
     split at hc
     ·rename_i hok
      simp at hc; subst hc
      exact ⟨a3H hC (hall (hpick hl)) hrun, fun μ Φ a w Q hf hs hfr hQ => b2p hC hmix hok (hpick hl) hrun hf hs hfr hQ id⟩
     ·simp at hc
    ·simp at hc
   ·split at hc
    ·rename_i hok
     simp at hc; subst hc
     exact ⟨a3H hC (hall hnum) hrun, fun μ Φ a w Q hf hs hfr hQ => b2p hC hmix hok hnum hrun hf hs hfr hQ id⟩
    ·simp at hc
  ·rename_i hd
   simp at hd
   subst hd
   simp at hc; subst hc
   refine ⟨a3H hC (hall hnum) hrun, fun μ Φ a w Q hf hs hfr hQ => wp_region_list (a8q hC (md := md) (vl := a1x vs 0) ?_ ?_ hrun hf hs hfr hQ)⟩
   ·rw [a6C.1, g1]
   ·intro j o x h1 h2
    exact g2 j o x.2 h1 (a6C.2 j x h2).2
theorem b3E {env : Env} {s : M1} {μ : Mu} {Φ : Phi} {a : Act} {w : World} (he : X7 μ Φ env a) (hs : Sim μ Φ s.get w) : ∀ {l : List ResultVar} {rs : List (Nat × Option (Option Nat))} {ds : List D}, a3A P l = some rs -> S1 env s rs = some ds ->
 ∃ vs : List Value, (l.mapM (fun | .tmp t => pure (a.tmps.getD t undef) | .cell t ty => do loadVar ty (<- asAddr (a.tmps.getD t undef))) : Sem (List Value)).run P w = .ok vs w /\ RL μ Φ ds vs
 | [], rs, ds, h1, h2 => by
   simp [a3A] at h1; subst h1
   simp [S1] at h2; subst h2
   exact ⟨[], by simp, by simp [RL]⟩
 | x :: l, rs, ds, h1, h2 => by
   simp only [a3A] at h1
   split at h1
   ·rename_i y l' hy hl
    simp at h1; subst h1
    simp only [S1] at h2
    split at h2
    ·rename_i d ds' hd hds
     simp at h2; subst h2
     obtain ⟨vs, g1, g2⟩ := b3E he hs hl hds
     cases x with
     | tmp t =>
       simp [a9j] at hy; subst hy
       simp only [T0] at hd
       cases hd
       refine ⟨a.tmps.getD t undef :: vs, ?_, ?_⟩
       ·rw [List.mapM_cons]
        simp only [Sem.run_bind, Sem.run_pure, Result.andThen_ok, g1]
       ·simp only [RL]
        exact ⟨_, _, rfl, he t, g2⟩
     | cell t ty =>
       simp only [a9j] at hy
       obtain ⟨n, hn, e⟩ := map_some hy
       subst e
       simp only [T0] at hd
       have ht := he t
       split at hd
       ·rename_i id off hx
        rw [hx] at ht
        simp only [R] at ht
        obtain ⟨b, o, z, hm, e⟩ := ht
        split at hd
        ·rename_i cs hg
         obtain ⟨b', o', z', m1, m2, _⟩ := hs.obj id _ hg
         rw [hm] at m1
         cases m1
         obtain ⟨us, u1, u2⟩ := m2.values
         obtain ⟨v, q1, q2⟩ := a7J (P := P) hn hd u1 u2
         refine ⟨v :: vs, ?_, ?_⟩
         ·rw [List.mapM_cons]
          have : (loadVar ty ⟨b, o + off, none⟩).run P w = .ok v w := by
           simpa [Instr.loadAt, Instr.sureAddr] using q1
          have ha : (asAddr (a.tmps.getD t undef)).run P w = .ok ⟨b, o + off, none⟩ w := by rw [e]; rfl
          simp only [Sem.run_bind, ha, Sem.run_pure, Result.andThen_ok, this, g1]
         ·simp only [RL]
          exact ⟨_, _, rfl, q2, g2⟩
        ·simp at hd
       ·simp at hd
    ·simp at h2
   ·simp at h1
theorem b7d {env : Env} {s : M1} {μ : Mu} {Φ : Phi} {a : Act} {w : World} (he : X7 μ Φ env a) (hs : Sim μ Φ s.get w) {fn : Func} {rs : List (Nat × Option (Option Nat))} {d : D} (h1 : a3A P fn.results.toList = some rs) (h2 : R9 env s rs = some d) :
 ∃ v, (results fn a.tmps).run P w = .ok v w /\ R μ Φ d v := by
 unfold R9 at h2
 have key : ∀ ds, S1 env s rs = some ds -> ∃ vs : List Value, RL μ Φ ds vs /\ (results fn a.tmps).run P w = .ok (if h : vs.toArray.size = 1 then vs.toArray[0] else .tuple vs.toArray) w := by
  intro ds hds
  obtain ⟨vs, g1, g2⟩ := b3E he hs h1 hds
  refine ⟨vs, g2, ?_⟩
  unfold results
  rw [Array.mapM_eq_mapM_toList]
  rw [Sem.run_bind, Sem.run_map]
  erw [g1]
  rfl
 split at h2
 ·rename_i d0 hds
  cases h2
  obtain ⟨vs, g1, g2⟩ := key _ hds
  simp only [RL] at g1
  obtain ⟨u, us, rfl, r1, rfl⟩ := g1
  exact ⟨u, by simpa using g2, r1⟩
 ·rename_i l hne hds
  cases h2
  obtain ⟨vs, g1, g2⟩ := key _ hds
  have hl := a0H g1
  have hlen : ¬ vs.toArray.size = 1 := by
   simp
   intro e
   rw [e] at hl
   match l, hl with
   | [x], _ => exact hne x rfl
  rw [dif_neg hlen] at g2
  exact ⟨.tuple vs.toArray, g2, by simp only [R]; exact ⟨vs, rfl, g1⟩⟩
 ·simp at h2
theorem c0E {μ : Mu} {Φ : Phi} {args : List D} {vs : List Value} (h : RL μ Φ args vs) (n : Nat) (vars : List Nat) : X7 μ Φ (vars.map fun t => (t, args.getD t .undef)) { tmps := vs.toArray ++ Array.replicate n undef, defers := [] } := by
 intro t
 induction vars with
 | nil => simp [Env.get, R]
 | cons x l ih =>
   simp only [List.map_cons, Env.get]
   by_cases e : x = t
   ·subst e
    simp only [if_true]
    cases hx : args[x]? with
    | none => simp [List.getD_eq_getElem?_getD, hx, R]
    | some d =>
      obtain ⟨u, h1, h2⟩ := a32 h hx
      have hlt : x < vs.length := (List.getElem?_eq_some_iff.1 h1).1
      simp only [List.getD_eq_getElem?_getD, hx, Option.getD_some, Array.getD_eq_getD_getElem?]
      rw [Array.getElem?_append_left (by simpa using hlt)]
      simp [h1]
      exact h2
   ·simp only [e, if_false]
    exact ih
theorem b2X (hfs : a4x P fs) {ex : List Nat -> Z3 -> Env -> M1 -> Option Out} (hex : b1m P ex) : a1b P (a0e fs ex) := by
 intro f args s d s' h
 unfold a0e at h
 split at h
 ·simp at h
 ·rename_i vf hvf
  obtain ⟨fn, md, ann, hfn, hcf⟩ := hfs f vf hvf
  unfold a2q at hcf
  split at hcf
  ·simp at hcf
  ·rename_i c hbody
   split at hcf
   ·rename_i vc rs hvc hrs
    split at hcf
    ·simp at hcf
    ·rename_i hname
     simp at hcf
     have hvc2 : vf.code = vc := by rw [<- hcf]
     have hrs2 : vf.res = rs := by rw [<- hcf]
     have done : ∀ e env' s1, ex vf.vars vf.code (vf.vars.map fun t => (t, args.getD t .undef)) s = some (e, env', s1) -> (e = .normal ∨ e = .ret) -> (R9 env' s1 vf.res).map (fun d => (d, s1)) = some (d, s') ->
      s.next <= s'.next /\ (∃ fn, P.funcs[f]? = some fn /\ fn.body.isSome = true /\ (fn.name == "runtime.NumGoroutine") = false) /\
      ∀ μ Φ w vs, Sim μ Φ s.get w -> RL μ Φ args vs -> a1R μ s.next s'.next ->
        Calls P f vs.toArray w fun e w' => ∃ v μ' Φ', e = .returned v /\ Sim μ' Φ' s'.get w' /\ R μ' Φ' d v /\ Evo μ Φ s.get w μ' Φ' s'.get w' s.next s'.next := by
      intro e env' s1 hx hcase hres
      obtain ⟨d', hd', e1⟩ := map_some hres
      cases e1
      rw [hvc2] at hx
      rw [hrs2] at hd'
      obtain ⟨g1, g2⟩ := hex md fn.ntmps ann vf.vars c vc _ s e env' s' hvc hx
      refine ⟨g1, ⟨fn, hfn, by rw [hbody]; rfl, by simpa using hname⟩, ?_⟩
      intro μ Φ w vs hs hr hfr
      refine calls_of_wp hfn hbody ?_
      refine g2 μ Φ _ w _ ⟨c0E hr _ vf.vars, by simp; omega, rfl⟩ hs hfr ?_
      intro a' w' μ' Φ' q1 q2 q3
      obtain ⟨v, r1, r2⟩ := b7d q1.env q2 hrs hd'
      rcases hcase with rfl | rfl
      ·exact ⟨q1.defers, v, r1, v, μ', Φ', rfl, q2, r2, q3⟩
      ·exact ⟨q1.defers, v, r1, v, μ', Φ', rfl, q2, r2, q3⟩
     split at h
     ·rename_i env' s1 hx
      exact done .normal env' s1 hx (.inl rfl) h
     ·rename_i env' s1 hx
      exact done .ret env' s1 hx (.inr rfl) h
     ·simp at h
   ·simp at hcf
def b0F (P : Program) (fs : FuncId -> Option M6) (n : Nat) : Prop := ∀ (md : FuncId -> W8) (N : Nat) (ann : Ann) (vars : List Nat) (code : Code) (vc : Z3) (env : Env) (s : M1) (e : U7) (env' : Env) (s' : M1),
 a12 P md N ann code = some vc -> O7 fs n vars (.loop vc) env s = some (e, env', s') -> s.next <= s'.next /\
 ∃ k, ∀ (μ : Mu) (Φ : Phi) (a : Act) (w : World) (Q : Exit -> Act -> World -> Prop), FrR N μ Φ env a -> Sim μ Φ s.get w -> a1R μ s.next s'.next -> a22 N μ Φ s w env' s' (Q (a6S e)) -> Code.rounds P code Q k a w
theorem b6J (hfs : a4x P fs) (hmix : P.follows .mixedOrders = true) : ∀ n, b1m P (O7 fs n) /\ b0F P fs n := by
 intro n
 induction n with
 | zero => exact ⟨fun _ _ _ _ _ _ _ _ _ _ _ _ h => by simp [O7] at h, fun _ _ _ _ _ _ _ _ _ _ _ _ h => by simp [O7] at h⟩
 | succ n ih =>
   obtain ⟨ih1, ih2⟩ := ih
   have hloop : b0F P fs (n + 1) := by
    intro md N ann vars code vc env s e env' s' hc h
    simp only [O7] at h
    split at h
    ·rename_i env1 s1 h1
     obtain ⟨g1, g2⟩ := ih1 md N ann vars code vc env s .normal env1 s1 hc h1
     obtain ⟨g3, k, g4⟩ := ih2 md N ann vars code vc env1 s1 e env' s' hc h
     refine ⟨by omega, k + 1, ?_⟩
     intro μ Φ a w Q hf hs hfr hQ
     rw [rounds_succ]
     refine g2 μ Φ a w _ hf hs (fun id q1 q2 => hfr id q1 (by omega)) ?_
     intro a1 w1 μ1 Φ1 q1 q2 q3
     refine g4 μ1 Φ1 a1 w1 Q q1 q2 (fun id r1 r2 => by rw [q3.muOut id (.inr r1)]; exact hfr id (by omega) r2) ?_
     intro a2 w2 μ2 Φ2 r1 r2 r3
     exact hQ a2 w2 μ2 Φ2 r1 r2 (q3.trans g1 g3 r3)
    ·rename_i hne
     obtain ⟨g1, g2⟩ := ih1 md N ann vars code vc env s e env' s' hc h
     refine ⟨g1, 1, ?_⟩
     intro μ Φ a w Q hf hs hfr hQ
     rw [rounds_succ]
     refine g2 μ Φ a w _ hf hs hfr ?_
     intro a1 w1 μ1 Φ1 q1 q2 q3
     have := hQ a1 w1 μ1 Φ1 q1 q2 q3
     cases e with
     | normal => exact absurd h (hne env' s')
     | exit id => exact this
     | ret => exact this
   refine ⟨?_, hloop⟩
   intro md N ann vars code vc env s e env' s' hc h
   cases code <;> simp only [a12] at hc
   case skip =>
    cases hc
    simp only [O7] at h
    cases h
    exact ⟨Nat.le_refl _, fun μ Φ a w Q hf hs _ hQ => wp_skip (hQ a w μ Φ hf hs (Evo.refl _ _ _ _ _))⟩
   case region id ops draw =>
    obtain ⟨r, hr, e1⟩ := map_some hc
    cases e1
    simp only [O7] at h
    split at h
    ·rename_i env1 s1 h1
     cases h
     obtain ⟨g1, g2⟩ := b6M (b2X hfs ih1) hmix hr h1
     refine ⟨g1, fun μ Φ a w Q hf hs hfr hQ => g2 μ Φ a w Q hf hs hfr ?_⟩
     intro a1 w1 μ1 Φ1 q1 q2 q3
     exact hQ a1 w1 μ1 Φ1 (q1.keep vars) q2 q3
    ·simp at h
   case seq x y =>
    split at hc
    ·rename_i vx vy hx hy
     cases hc
     simp only [O7] at h
     split at h
     ·rename_i env1 s1 h1
      obtain ⟨g1, g2⟩ := ih1 md N ann vars x vx env s .normal env1 s1 hx h1
      obtain ⟨g3, g4⟩ := ih1 md N ann vars y vy env1 s1 e env' s' hy h
      refine ⟨by omega, ?_⟩
      intro μ Φ a w Q hf hs hfr hQ
      refine wp_seq (g2 μ Φ a w _ hf hs (fun id q1 q2 => hfr id q1 (by omega)) ?_)
      intro a1 w1 μ1 Φ1 q1 q2 q3
      refine g4 μ1 Φ1 a1 w1 Q q1 q2 (fun id r1 r2 => by rw [q3.muOut id (.inr r1)]; exact hfr id (by omega) r2) ?_
      intro a2 w2 μ2 Φ2 r1 r2 r3
      exact hQ a2 w2 μ2 Φ2 r1 r2 (q3.trans g1 g3 r3)
     ·rename_i hne
      obtain ⟨g1, g2⟩ := ih1 md N ann vars x vx env s e env' s' hx h
      refine ⟨g1, ?_⟩
      intro μ Φ a w Q hf hs hfr hQ
      refine wp_seq (g2 μ Φ a w _ hf hs hfr ?_)
      intro a1 w1 μ1 Φ1 q1 q2 q3
      have := hQ a1 w1 μ1 Φ1 q1 q2 q3
      cases e with
      | normal => exact absurd h (hne env' s')
      | exit id => exact this
      | ret => exact this
    ·simp at hc
   case cond c x y =>
    split at hc
    ·rename_i vc' vx vy hcc hx hy
     cases hc
     simp only [O7] at h
     split at h
     ·rename_i ht
      obtain ⟨g1, g2⟩ := ih1 md N ann vars x vx env s e env' s' hx h
      refine ⟨g1, fun μ Φ a w Q hf hs hfr hQ => ?_⟩
      have hr := P9 hf.env hcc
      rw [ht] at hr
      simp only [R] at hr
      exact wp_cond_true hr (g2 μ Φ a w Q hf hs hfr hQ)
     ·rename_i ht
      obtain ⟨g1, g2⟩ := ih1 md N ann vars y vy env s e env' s' hy h
      refine ⟨g1, fun μ Φ a w Q hf hs hfr hQ => ?_⟩
      have hr := P9 hf.env hcc
      rw [ht] at hr
      simp only [R] at hr
      exact wp_cond_false hr (g2 μ Φ a w Q hf hs hfr hQ)
     ·simp at h
    ·simp at hc
   case block id b =>
    obtain ⟨vb, hb, e1⟩ := map_some hc
    cases e1
    simp only [O7] at h
    split at h
    ·rename_i id' env1 s1 h1
     obtain ⟨g1, g2⟩ := ih1 md N ann vars b vb env s (.exit id') env1 s1 hb h1
     split at h
     ·rename_i hid
      cases h
      refine ⟨g1, fun μ Φ a w Q hf hs hfr hQ => wp_block (g2 μ Φ a w _ hf hs hfr ?_)⟩
      intro a1 w1 μ1 Φ1 q1 q2 q3
      have := hQ a1 w1 μ1 Φ1 q1 q2 q3
      simp only [a6S, Exit.inBlock, hid, if_true]
      exact this
     ·rename_i hid
      cases h
      refine ⟨g1, fun μ Φ a w Q hf hs hfr hQ => wp_block (g2 μ Φ a w _ hf hs hfr ?_)⟩
      intro a1 w1 μ1 Φ1 q1 q2 q3
      have := hQ a1 w1 μ1 Φ1 q1 q2 q3
      simp only [a6S, Exit.inBlock, hid, if_false]
      exact this
    ·rename_i hne
     obtain ⟨g1, g2⟩ := ih1 md N ann vars b vb env s e env' s' hb h
     refine ⟨g1, fun μ Φ a w Q hf hs hfr hQ => wp_block (g2 μ Φ a w _ hf hs hfr ?_)⟩
     intro a1 w1 μ1 Φ1 q1 q2 q3
     have := hQ a1 w1 μ1 Φ1 q1 q2 q3
     cases e with
     | normal => exact this
     | exit id' => exact absurd h (hne id' env' s')
     | ret => exact this
   case loop b =>
    obtain ⟨vb, hb, e1⟩ := map_some hc
    cases e1
    obtain ⟨g1, k, g2⟩ := hloop md N ann vars b vb env s e env' s' hb h
    exact ⟨g1, fun μ Φ a w Q hf hs hfr hQ => wp_loop_rounds k (g2 μ Φ a w Q hf hs hfr hQ)⟩
   case exit id =>
    cases hc
    simp only [O7] at h
    cases h
    exact ⟨Nat.le_refl _, fun μ Φ a w Q hf hs _ hQ => wp_exit (hQ a w μ Φ hf hs (Evo.refl _ _ _ _ _))⟩
   case ret =>
    cases hc
    simp only [O7] at h
    cases h
    exact ⟨Nat.le_refl _, fun μ Φ a w Q hf hs _ hQ => wp_ret (hQ a w μ Φ hf hs (Evo.refl _ _ _ _ _))⟩
   all_goals (cases hc; done)
theorem c30 (hfs : a4x P fs) (hmix : P.follows .mixedOrders = true) {n f : Nat} {args : List D} {d : D} {s' : M1} (h : a4d fs n f args M1.empty = some (d, s')) {w : World} {vs : List Value} (hr : RPL (fun b => w.heap[b]?) args vs) :
 Calls P f vs.toArray w fun e w' => ∃ v μ' Φ', e = .returned v /\ R μ' Φ' d v /\ RowKit.Below w.heap.size w w' := by
 obtain ⟨_, _, h2⟩ := b2X hfs (b6J hfs hmix n).1 f args M1.empty d s' h
 refine (h2 (fun _ => none) (fun b => w.heap[b]?) w vs (a65 fun _ _ e => e) (RL_of_RPL _ _ hr) (fun _ _ _ => rfl)).mono ?_
 rintro e w' ⟨v, μ', Φ', rfl, q1, q2, q3⟩
 exact ⟨v, μ', Φ', rfl, q2, q3.os, q3.tape, q3.output, q3.size, fun k hk => q3.keep k hk (a9g k)⟩
end
end Go.V
namespace Go.V
inductive Ty where
 | bool
 | int (k : IntKind)
 | str
 | slice (sz : Nat) (e : Ty)
 | struct (fs : List Ty)
 | arr (n : Nat) (e : Ty)
mutual
def V5 : Ty -> List D -> Prop
 | .bool, cs => ∃ b, cs = [.bool b]
 | .int k, cs => ∃ n, cs = [.int k n] /\ (Lit.int k n).wf = true
 | .str, cs => ∃ s : ByteArray, cs = [.str s] /\ s.size <= maxLen
 | .slice sz e, cs => cs = [.nils] ∨ ∃ xs, cs = [.lst sz xs] /\ xs.length <= maxLen /\ ∀ x ∈ xs, V5 e x
 | .struct fs, cs => HasTs fs cs
 | .arr n e, cs => ∃ gs : List (List D), gs.length = n /\ cs = gs.flatten /\ ∀ g ∈ gs, V5 e g
def HasTs : List Ty -> List D -> Prop
 | [], cs => cs = []
 | t :: ts, cs => ∃ a b, cs = a ++ b /\ V5 t a /\ HasTs ts b
end
mutual
def a0D (P : Program) : Ty -> TypeId -> Bool
 | .bool, t => match P.underlying t with | some .bool => true | _ => false
 | .int k, t => match P.underlying t with | some (.int k') => decide (k = k') | _ => false
 | .str, t => match P.underlying t with | some .string => true | _ => false
 | .slice sz e, t => match P.underlying t with | some (.slice u) => decide (P.cellsOf u = sz) && decide (0 < sz) && a0D P e u | _ => false
 | .struct fs, t => match P.underlying t with | some (.struct gs) => fieldsOk P fs 0 gs.toList (P.cellsOf t) | _ => false
 | .arr n e, t => match P.underlying t with | some (.array m u) => decide (m = n) && decide (P.cellsOf t = n * P.cellsOf u) && a0D P e u | _ => false
def fieldsOk (P : Program) : List Ty -> Nat -> List Field -> Nat -> Bool
 | [], off, [], n => decide (off = n)
 | y :: ys, off, f :: fs, n => decide (f.offset = off) && a0D P y f.type && fieldsOk P ys (off + P.cellsOf f.type) fs n
 | _, _, _, _ => false
end
section
variable {H : Type} {enc : TypeId × Value -> H} {P : Program} {W : World} {sp : Nat -> Bool} {held : Bool}
theorem a57 {α β : Type} {f : α -> Option β} : ∀ {l : List α} {r : List β}, l.mapM f = some r -> r.length = l.length /\ ∀ (i : Nat) x, l[i]? = some x -> ∃ y, r[i]? = some y /\ f x = some y
 | [], r, h => by simp at h; subst h; simp
 | a :: l, r, h => by
   rw [List.mapM_cons] at h
   cases ha : f a with
   | none => simp [ha] at h
   | some y =>
     cases hl : l.mapM f with
     | none => simp [ha, hl] at h
     | some ys =>
       simp [ha, hl] at h
       subst h
       obtain ⟨h1, h2⟩ := a57 hl
       refine ⟨by simp [h1], fun i x hi => ?_⟩
       cases i with
       | zero => simp at hi; subst hi; exact ⟨y, by simp, ha⟩
       | succ i => simpa using h2 i x (by simpa using hi)
theorem b1t : ∀ {ds : List D} {cs : List Value} {b o : Nat}, RPL (fun b => W.heap[b]?) ds cs -> ds.all M9 = true -> (∀ i u, cs[i]? = some u -> W.cell? ⟨b, o + i, none⟩ = some u) -> RC (fun b => W.heap[b]?) ds b o
 | [], _, _, _, _, _, _ => by simp only [RC]
 | d :: ds, cs, b, o, h, ho, hc => by
   simp only [RPL] at h
   obtain ⟨u, us, rfl, h1, h2⟩ := h
   simp only [RC]
   simp only [List.all_cons, Bool.and_eq_true] at ho
   refine ⟨⟨ho.1, u, ?_, h1⟩, b1t h2 ho.2 fun i x hi => ?_⟩
   ·have := hc 0 u (by simp)
    simp only [World.cell?, Nat.add_zero] at this
    simp only [Phi.cell]
    revert this
    cases W.heap[b]? with
    | none => simp
    | some ob => cases ob <;> simp
   ·have := hc (i + 1) x (by simpa using hi)
    rw [Nat.add_assoc, Nat.add_comm 1 i]
    exact this
theorem b02 : ∀ (sz : Nat) (xs : List (List D)) (b o : Nat), (∀ i x, xs[i]? = some x -> x.length = sz /\ RC (fun b => W.heap[b]?) x b (o + i * sz)) -> RG (fun b => W.heap[b]?) sz xs b o
 | _, [], _, _, _ => by simp only [RG]
 | sz, x :: xs, b, o, h => by
   simp only [RG]
   obtain ⟨h1, h2⟩ := h 0 x (by simp)
   refine ⟨h1, by simpa using h2, b02 sz xs b (o + sz) fun i y hi => ?_⟩
   obtain ⟨h3, h4⟩ := h (i + 1) y (by simpa using hi)
   refine ⟨h3, ?_⟩
   have : o + (i + 1) * sz = o + sz + i * sz := by rw [Nat.add_mul]; omega
   rwa [this] at h4
theorem b1i {Φ : Phi} : ∀ {ds : List D} {vs : List Value}, RPL Φ ds vs -> vs.length = ds.length
 | [], vs, h => by simp only [RPL] at h; subst h; rfl
 | d :: ds, vs, h => by
   simp only [RPL] at h
   obtain ⟨u, us, rfl, _, h2⟩ := h
   simp [b1i h2]
theorem a7z {Φ : Phi} : ∀ {ds es : List D} {vs us : List Value}, RPL Φ ds vs -> RPL Φ es us -> RPL Φ (ds ++ es) (vs ++ us)
 | [], es, vs, us, h, k => by simp only [RPL] at h; subst h; simpa using k
 | d :: ds, es, vs, us, h, k => by
   simp only [RPL] at h
   obtain ⟨u, vs', rfl, h1, h2⟩ := h
   simp only [List.cons_append, RPL]
   exact ⟨u, vs' ++ us, rfl, h1, a7z h2 k⟩
theorem c1g {a : Addr} {n : Nat} {cs : List Value} (h : W.cells? 0 a n = some cs) : cs.length = n /\ ∀ i u, cs[i]? = some u -> W.cell? (a.add i) = some u := by
 simp only [World.cells?, Nat.zero_le, if_true] at h
 obtain ⟨h1, h2⟩ := a57 h
 refine ⟨by simpa using h1, fun i u hi => ?_⟩
 have hlt : i < n := by
  have := (List.getElem?_eq_some_iff.1 hi).1
  simp at h1; omega
 obtain ⟨y, h3, h4⟩ := h2 i i (by simp [hlt])
 rw [hi] at h3; cases h3; exact h4
theorem b22 {α β : Type} {Q : α -> β -> Prop} : ∀ (l : List α), (∀ (i : Nat) x, l[i]? = some x -> ∃ y, Q x y) -> ∃ r : List β, r.length = l.length /\ ∀ (i : Nat) x y, l[i]? = some x -> r[i]? = some y -> Q x y
 | [], _ => ⟨[], rfl, by simp⟩
 | a :: l, h => by
   obtain ⟨y, hy⟩ := h 0 a (by simp)
   obtain ⟨r, h1, h2⟩ := b22 l fun i x hi => h (i + 1) x (by simpa using hi)
   refine ⟨y :: r, by simp [h1], fun i x z hx hz => ?_⟩
   cases i with
   | zero => simp at hx hz; subst hx; subst hz; exact hy
   | succ i => exact h2 i x z (by simpa using hx) (by simpa using hz)
theorem a3Y {Φ : Phi} {d : D} {v : Value} (h : RP Φ d v) : RPL Φ [d] [v] := by
 simp only [RPL]; exact ⟨v, [], rfl, h, rfl⟩
mutual
theorem a5O : ∀ (ty : Ty) (fuel : Nat) (t : TypeId) (cs : List Value) (x : DataW H × List MemPlace), a0D P ty t = true -> DataW.trod enc P W 0 (fun _ => true) held fuel t cs = some x ->
 ∃ ds, RPL (fun b => W.heap[b]?) ds cs /\ ds.all M9 = true /\ V5 ty ds
 | _, 0, t, cs, x, _, h => by simp [DataW.trod] at h
 | .bool, fuel + 1, t, cs, x, hk, h => by
   simp only [a0D] at hk
   split at hk
   case h_2 => cases hk
   rename_i hu
   unfold DataW.trod at h
   rw [hu] at h
   split at h <;> simp_all
   rename_i b
   exact ⟨[.bool b], a3Y (by simp only [RP]), by simp [M9], by simp [V5]⟩
 | .int k, fuel + 1, t, cs, x, hk, h => by
   simp only [a0D] at hk
   split at hk
   case h_2 => cases hk
   rename_i k' hu
   have hkk : k = k' := by simpa using hk
   subst hkk
   unfold DataW.trod at h
   rw [hu] at h
   split at h <;> simp_all
   rename_i kk nn hh
   obtain ⟨⟨h1, h2⟩, _⟩ := h
   subst h1
   exact ⟨[.int kk nn], a3Y (by simp only [RP]), by simp [M9], by simp only [V5]; exact ⟨nn, rfl, h2⟩⟩
 | .str, fuel + 1, t, cs, x, hk, h => by
   simp only [a0D] at hk
   split at hk
   case h_2 => cases hk
   rename_i hu
   unfold DataW.trod at h
   rw [hu] at h
   split at h <;> simp_all
   rename_i s
   exact ⟨[.str s], a3Y (by simp only [RP]), by simp [M9], by simp only [V5]; exact ⟨s, rfl, h.1⟩⟩
 | .slice sz e, fuel + 1, t, cs, x, hk, h => by
   simp only [a0D] at hk
   split at hk
   case h_2 => cases hk
   rename_i u hu
   simp only [Bool.and_eq_true, decide_eq_true_eq] at hk
   obtain ⟨⟨hsz, hpos⟩, hk⟩ := hk
   unfold DataW.trod at h
   rw [hu] at h
   split at h <;> (try (simp_all; done))
   ·exact ⟨[.nils], a3Y (by simp only [RP]), by simp [M9], by simp [V5]⟩
   ·rename_i e' a len cap hue
    cases hue
    dsimp only at h
    split at h
    case isFalse => cases h
    rename_i hc
    obtain ⟨_, hlc, hcap⟩ := hc
    cases hm : (List.range len).mapM (fun i => (W.cells? 0 (a.add (i * P.cellsOf u)) (P.cellsOf u)).bind (DataW.trod enc P W 0 (fun _ => true) held fuel u)) with
    | none => rw [hm] at h; cases h
    | some els =>
      obtain ⟨hl1, hl2⟩ := a57 hm
      have key : ∀ (i : Nat) k, (List.range len)[i]? = some k -> ∃ ds : List D, ds.length = sz /\ (∀ (j : Nat), j < sz -> ∃ v, W.cell? ((a.add (k * sz)).add j) = some v) /\ ds.all M9 = true /\ V5 e ds /\
       ∃ cc, RPL (fun b => W.heap[b]?) ds cc /\ ∀ (j : Nat) v, cc[j]? = some v -> W.cell? ((a.add (k * sz)).add j) = some v := by
       intro i k hi
       obtain ⟨y, _, hy⟩ := hl2 i k hi
       cases hcc : W.cells? 0 (a.add (k * P.cellsOf u)) (P.cellsOf u) with
       | none => simp [hcc] at hy
       | some cc =>
         simp only [hcc, Option.bind_some] at hy
         obtain ⟨ds, h1, h2, h3⟩ := a5O e fuel u cc y hk hy
         obtain ⟨h4, h5⟩ := c1g hcc
         rw [hsz] at h4 h5
         refine ⟨ds, by rw [<- b1i h1]; exact h4, fun j hj => ⟨cc[j], h5 j _ (List.getElem?_eq_getElem (by omega))⟩, h2, h3, cc, h1, h5⟩
      obtain ⟨r, hr1, hr2⟩ := b22 (List.range len) key
      have hrl : r.length = len := by simpa using hr1
      have hat : ∀ (i : Nat) ds, r[i]? = some ds -> _ := fun i ds hi => hr2 i i ds (List.getElem?_range (by have := (List.getElem?_eq_some_iff.1 hi).1; omega)) hi
      obtain ⟨b, o, spot⟩ := a
      by_cases hz : len = 0
      ·subst hz
       have : r = [] := List.eq_nil_of_length_eq_zero hrl
       subst this
       refine ⟨[.lst sz []], a3Y ?_, by simp [M9], ?_⟩
       ·simp only [RP]
        exact ⟨b, o, cap, spot, by simp, by simp, .inr trivial, by simp only [RG]⟩
       ·simp only [V5]
        exact .inr ⟨[], rfl, by simp, by simp⟩
      ·have hspot : spot = none := by
        obtain ⟨ds, hd⟩ : ∃ ds, r[0]? = some ds := ⟨r[0], List.getElem?_eq_getElem (by omega)⟩
        obtain ⟨_, h2, _⟩ := hat 0 ds hd
        obtain ⟨v, hv⟩ := h2 0 (by omega)
        simpa [Addr.add] using World.cell?_spot hv
       subst hspot
       refine ⟨[.lst sz r], a3Y ?_, by simp [M9], ?_⟩
       ·simp only [RP]
        refine ⟨b, o, cap, none, by rw [hrl], by omega, .inl rfl, b02 sz r b o fun i ds hi => ?_⟩
        obtain ⟨h1, _, h3, _, cc, h4, h5⟩ := hat i ds hi
        refine ⟨h1, b1t h4 h3 fun j v hj => ?_⟩
        have := h5 j v hj
        simpa [a1w] using this
       ·simp only [V5]
        refine .inr ⟨r, rfl, by omega, fun ds hd => ?_⟩
        obtain ⟨i, hi⟩ := List.getElem?_of_mem hd
        exact (hat i ds hi).2.2.2.1
 | .struct fs, fuel + 1, t, cs, x, hk, h => by
   simp only [a0D] at hk
   split at hk
   case h_2 => cases hk
   rename_i gs hu
   unfold DataW.trod at h
   rw [hu] at h
   split at h <;> (try (simp_all; done))
   rename_i cs _ _ gs' hue
   have hgs : gs' = gs := by simpa using hue.symm
   rw [hgs] at h
   split at h
   case isFalse => cases h
   rename_i hl
   cases hm : gs.toList.mapM (fun f => DataW.trod enc P W 0 (fun _ => true) held fuel f.type ((cs.drop f.offset).take (P.cellsOf f.type))) with
   | none => rw [hm] at h; cases h
   | some xs =>
     simp only [V5]
     have := openedFs fs fuel 0 gs.toList (P.cellsOf t) cs xs hk hl hm
     simpa using this
 | .arr n e, fuel + 1, t, cs, x, hk, h => by
   simp only [a0D] at hk
   split at hk
   case h_2 => cases hk
   rename_i m u hu
   simp only [Bool.and_eq_true, decide_eq_true_eq] at hk
   obtain ⟨⟨rfl, hsz⟩, hk⟩ := hk
   unfold DataW.trod at h
   rw [hu] at h
   split at h <;> (try (simp_all; done))
   rename_i cs _ _ n' e' hue
   have hgs : n' = m /\ e' = u := by simp at hue; exact ⟨hue.1.symm, hue.2.symm⟩
   rw [hgs.1, hgs.2] at h
   split at h
   case isFalse => cases h
   rename_i hl
   cases hm : (List.range m).mapM (fun i => DataW.trod enc P W 0 (fun _ => true) held fuel u ((cs.drop (i * P.cellsOf u)).take (P.cellsOf u))) with
   | none => rw [hm] at h; cases h
   | some xs =>
     obtain ⟨hl1, hl2⟩ := a57 hm
     have key : ∀ k, k <= m -> ∃ gs : List (List D), gs.length = k /\ RPL (fun b => W.heap[b]?) gs.flatten (cs.drop ((m - k) * P.cellsOf u)) /\ gs.flatten.all M9 = true /\ ∀ g ∈ gs, V5 e g := by
      intro k
      induction k with
      | zero =>
        intro _
        refine ⟨[], rfl, ?_, by simp, by simp⟩
        have : cs.drop (m * P.cellsOf u) = [] := List.drop_eq_nil_of_le (by omega)
        simp [this, RPL]
      | succ k ih =>
        intro hk'
        obtain ⟨gs, h1, h2, h3, h4⟩ := ih (by omega)
        obtain ⟨y, _, hy⟩ := hl2 (m - (k + 1)) (m - (k + 1)) (List.getElem?_range (by omega))
        obtain ⟨ds, d1, d2, d3⟩ := a5O e fuel u _ y hk hy
        refine ⟨ds :: gs, by simp [h1], ?_, ?_, ?_⟩
        ·have e1 : cs.drop ((m - (k + 1)) * P.cellsOf u) = (cs.drop ((m - (k + 1)) * P.cellsOf u)).take (P.cellsOf u) ++ cs.drop ((m - k) * P.cellsOf u) := by
          have : (m - k) * P.cellsOf u = (m - (k + 1)) * P.cellsOf u + P.cellsOf u := by
           have : m - k = (m - (k + 1)) + 1 := by omega
           rw [this, Nat.add_mul]; omega
          rw [this, <- List.drop_drop, List.take_append_drop]
         rw [e1, List.flatten_cons]
         exact a7z d1 h2
        ·rw [List.flatten_cons, List.all_append, d2, h3]; rfl
        ·intro g hg
         rcases List.mem_cons.1 hg with rfl | hg
         ·exact d3
         ·exact h4 g hg
     obtain ⟨gs, h1, h2, h3, h4⟩ := key m (Nat.le_refl _)
     simp only [V5]
     exact ⟨gs.flatten, by simpa using h2, h3, gs, h1, rfl, h4⟩
theorem openedFs : ∀ (ys : List Ty) (fuel off : Nat) (fs : List Field) (n : Nat) (cs : List Value) (xs : List (DataW H × List MemPlace)), fieldsOk P ys off fs n = true -> cs.length = n ->
 fs.mapM (fun f => DataW.trod enc P W 0 (fun _ => true) held fuel f.type ((cs.drop f.offset).take (P.cellsOf f.type))) = some xs ->
 ∃ ds, RPL (fun b => W.heap[b]?) ds (cs.drop off) /\ ds.all M9 = true /\ HasTs ys ds
 | [], fuel, off, fs, n, cs, xs, hk, hl, h => by
   cases fs with
   | cons f fs => simp [fieldsOk] at hk
   | nil =>
     simp only [fieldsOk, decide_eq_true_eq] at hk
     refine ⟨[], ?_, by simp, by simp [HasTs]⟩
     have : cs.drop off = [] := List.drop_eq_nil_of_le (by omega)
     simp [this, RPL]
 | y :: ys, fuel, off, fs, n, cs, xs, hk, hl, h => by
   cases fs with
   | nil => simp [fieldsOk] at hk
   | cons f fs =>
     simp only [fieldsOk, Bool.and_eq_true, decide_eq_true_eq] at hk
     obtain ⟨⟨h1, h2⟩, h3⟩ := hk
     rw [List.mapM_cons] at h
     cases ha : DataW.trod enc P W 0 (fun _ => true) held fuel f.type ((cs.drop f.offset).take (P.cellsOf f.type)) with
     | none => simp [ha] at h
     | some z =>
       cases hr : fs.mapM (fun f => DataW.trod enc P W 0 (fun _ => true) held fuel f.type ((cs.drop f.offset).take (P.cellsOf f.type))) with
       | none => simp [ha, hr] at h
       | some zs =>
         obtain ⟨ds, d1, d2, d3⟩ := a5O y fuel f.type _ z h2 ha
         obtain ⟨es, e1, e2, e3⟩ := openedFs ys fuel _ fs n cs zs h3 hl hr
         refine ⟨ds ++ es, ?_, by rw [List.all_append, d2, e2]; rfl, by simp only [HasTs]; exact ⟨ds, es, rfl, d3, e3⟩⟩
         have := a7z d1 e1
         rw [h1, <- List.drop_drop, List.take_append_drop] at this
         exact this
end
def a3I : Ty -> D -> Prop
 | .struct fs, d => ∃ ds, d = .agg ds /\ V5 (.struct fs) ds
 | .arr n e, d => ∃ ds, d = .agg ds /\ V5 (.arr n e) ds
 | ty, d => V5 ty [d]
def a3T : List Ty -> List D -> Prop
 | [], xs => xs = []
 | y :: ys, xs => ∃ d ds, xs = d :: ds /\ a3I y d /\ a3T ys ds
theorem b4T {Φ : Phi} {ds : List D} {v : Value} (h : RPL Φ ds [v]) : ∃ d, ds = [d] /\ RP Φ d v := by
 cases ds with
 | nil => simp [RPL] at h
 | cons d ds =>
   simp only [RPL] at h
   obtain ⟨u, us, e, h1, h2⟩ := h
   cases e
   cases ds with
   | nil => exact ⟨d, rfl, h1⟩
   | cons d' ds => simp [RPL] at h2
open Go.WideShapes in
theorem b93 {ty : Ty} {t : TypeId} {v : Value} {d : DataW H} {ps : List MemPlace} {base : Nat} (hk : a0D P ty t = true) (hval : Value.okWide P W .any base t v)
 (h : DataW.Trod enc P W 0 (fun _ => true) held t v d ps) : ∃ x, RP (fun b => W.heap[b]?) x v /\ a3I ty x := by
 have hT := h
 obtain ⟨fuel, hf⟩ := h
 obtain ⟨ds, h1, h2, h3⟩ := a5O ty fuel t _ _ hk hf
 have one : v.cells = #[v] -> ∃ x, RP (fun b => W.heap[b]?) x v /\ V5 ty [x] := by
  intro e
  rw [e] at h1
  obtain ⟨x, e2, h4⟩ := b4T h1
  subst e2
  exact ⟨x, h4, h3⟩
 have many : ∀ cs, v = .agg cs -> ∃ x, RP (fun b => W.heap[b]?) x v /\ ∃ ds, x = .agg ds /\ V5 ty ds := by
  intro cs e
  subst e
  simp only [Value.cells] at h1
  refine ⟨.agg ds, ?_, ds, rfl, h3⟩
  simp only [RP]
  exact ⟨cs.toList, rfl, h1⟩
 cases ty with
 | bool =>
   simp only [a0D] at hk
   split at hk
   case h_2 => cases hk
   rename_i hu
   refine one ?_
   obtain ⟨b, rfl, _⟩ := RowKit.open_bool hu hval hT
   rfl
 | int k =>
   simp only [a0D] at hk
   split at hk
   case h_2 => cases hk
   rename_i hu
   refine one ?_
   obtain ⟨b, rfl⟩ := okWide_int hu hval
   rfl
 | str =>
   simp only [a0D] at hk
   split at hk
   case h_2 => cases hk
   rename_i hu
   refine one ?_
   obtain ⟨b, rfl⟩ := okWide_string hu hval
   rfl
 | slice sz e =>
   simp only [a0D] at hk
   split at hk
   case h_2 => cases hk
   rename_i hu
   refine one ?_
   obtain ⟨a, l, c, rfl⟩ := okWide_slice hu hval
   rfl
 | struct fs =>
   simp only [a0D] at hk
   split at hk
   case h_2 => cases hk
   rename_i hu
   simp only [Value.okWide, hu] at hval
   obtain ⟨cs, e, _⟩ := hval
   exact many cs e
 | arr n e =>
   simp only [a0D] at hk
   split at hk
   case h_2 => cases hk
   rename_i hu
   simp only [Value.okWide, hu] at hval
   obtain ⟨cs, e, _⟩ := hval
   exact many cs e
def a3F (P : Program) : List Ty -> List TypeId -> Bool
 | [], [] => true
 | y :: ys, t :: ts => a0D P y t && a3F P ys ts
 | _, _ => false
theorem b1S {base : Nat} : ∀ {tys : List Ty} {ts : List TypeId} {vs : List Value} {ds : List (DataW H)} {ps : List MemPlace}, a3F P tys ts = true ->
 (∀ (j : Nat) t v, ts[j]? = some t -> vs[j]? = some v -> Value.okWide P W .any base t v) -> DataW.TrodAll enc P W 0 (fun _ => true) held ts vs ds ps ->
 ds.length = tys.length /\ ∃ xs, RPL (fun b => W.heap[b]?) xs vs /\ a3T tys xs
 | [], [], vs, ds, ps, _, _, h => by
   obtain ⟨rfl, rfl, rfl⟩ := ChangeShapes.trodAll_nil h
   exact ⟨rfl, [], by simp only [RPL], by simp only [a3T]⟩
 | [], _ :: _, _, _, _, hk, _, _ => by simp [a3F] at hk
 | _ :: _, [], _, _, _, hk, _, _ => by simp [a3F] at hk
 | y :: ys, t :: ts, vs, ds, ps, hk, hv, h => by
   simp only [a3F, Bool.and_eq_true] at hk
   obtain ⟨v, vs', d, ds', p, q, rfl, rfl, rfl, h1, h2⟩ := ChangeShapes.trodAll_cons h
   obtain ⟨x, x1, x2⟩ := b93 hk.1 (hv 0 t v rfl rfl) h1
   obtain ⟨hl, xs, x3, x4⟩ := b1S hk.2 (fun j u w hj hw => hv (j + 1) u w (by simpa using hj) (by simpa using hw)) h2
   refine ⟨by simp [hl], x :: xs, ?_, ?_⟩
   ·simp only [RPL]; exact ⟨v, vs', rfl, x1, x3⟩
   ·simp only [a3T]; exact ⟨x, xs, rfl, x2, x4⟩
theorem b28 (hl : laidOutB P = true) {W' : World} (hb : RowKit.Below W.heap.size W W') : ∀ {ts : List TypeId} {vs : List Value} {ds : List (DataW H)} {ps : List MemPlace},
 ts.all (fun t => P.readableRec t && decide (t < P.types.size)) = true -> DataW.TrodAll enc P W 0 (fun _ => true) true ts vs ds ps ->
 DataW.TrodAll enc P W' 0 (fun b => decide (b < W.heap.size)) true ts vs ds ps
 | [], vs, ds, ps, _, h => by
   obtain ⟨rfl, rfl, rfl⟩ := ChangeShapes.trodAll_nil h
   exact ChangeShapes.trodAll_mk0
 | t :: ts, vs, ds, ps, hr, h => by
   simp only [List.all_cons, Bool.and_eq_true, decide_eq_true_eq] at hr
   obtain ⟨v, vs', d, ds', p, q, rfl, rfl, rfl, h1, h2⟩ := ChangeShapes.trodAll_cons h
   refine ⟨p, q, ?_, b28 hl hb hr.2 h2, rfl⟩
   have lt : ∀ x ∈ p, x.block < W.heap.size := by obtain ⟨m, hm⟩ := h1; exact DataW.trod_lt m _ _ _ hm
   exact RowKit.Below.trod hl hr.1.1 hr.1.2 h1 hb lt
theorem b4C {C : Checked} {os : Os} {f : FuncId} {fn : Func} {s : ChangeSpec} {conds : List PathCond} {fs : Nat -> Option M6} {tb : TypeId}
 (own : ownKnob C.prog.godebug = none) (started : os.Started) (noInit : C.prog.inits.idxOf? f = none) (hfn : C.prog.funcs[f]? = some fn)
 (witness : ∃ (w : World) (tape : Tape) (i : Input), w.os = os /\ (w.forCall tape i).Shaped C.prog /\ i.vars = [] /\ Input.okWide C.prog (w.forCall tape i) .any w.heap.size f i /\
  s.pre6 enc C.prog fn conds false (w.forCall tape i).memory i.args /\ ({} : Assume).holds C.prog (lone (Frame.enter C.prog f i.args .normal) [] (w.forCall tape i)))
 (laid : laidOutB C.prog = true) (hvars : s.vars = []) (tys : List Ty) (htys : a3F C.prog tys fn.params.toList = true)
 (hread : fn.params.toList.all (fun t => C.prog.readableRec t && decide (t < C.prog.types.size)) = true)
 (hres : fn.resultTypes = #[tb]) (htb : C.prog.underlying tb = some .bool)
 (hspec : ∀ ds : List (DataW H), ds.length = tys.length -> s.fn H ds = { results := [.lit (.bool true)], args := ds })
 (hfs : a4x C.prog fs) (law : ∀ xs, a3T tys xs -> ∃ n s', a4d fs n f xs M1.empty = some (.bool true, s')) :
 ReturnsInHanded {} C os f .any (s.pre6 enc C.prog fn conds false) (s.post enc C.prog fn false true false false) := by
 refine returnsInHanded_of_change own started noInit hfn witness ?_
 intro W base args ds gs before hval hW hcnd _
 have hW' := hW
 obtain ⟨p, q, hA, hV, rfl, hfz, hnd⟩ := hW
 rw [hvars] at hV
 obtain ⟨rfl, rfl⟩ := ChangeShapes.trodVars_none hV
 obtain ⟨hlen, xs, x1, x2⟩ := b1S htys (fun j t v hj hv => hval j t v (by simpa using hj) (by simpa using hv)) hA
 obtain ⟨n, s', hn⟩ := law xs x2
 have := c30 hfs C.mixed hn x1
 refine this.mono ?_
 rintro e W' ⟨v, μ', Φ', rfl, hv, bel⟩
 simp only [R] at hv
 subst hv
 refine ⟨_, rfl, ds, [], _, [], p, [], hW', ?_, ?_, ?_, bel.frame _, fun h => by cases h⟩
 ·rw [List.append_nil, hspec ds hlen, hres]
  exact ChangeShapes.trodAll_mk1 (RowKit.shut_bool htb _)
 ·rw [List.append_nil, hspec ds hlen]
  exact b28 laid bel hread hA
 ·rw [hvars, List.append_nil, hspec ds hlen]
  rfl
end
end Go.V
namespace Go.V
def U1.le (C C' : U1) : Prop := ∀ f a s r, C f a s = some r -> C' f a s = some r
theorem c1A {C C' : U1} (h : C.le C') {md f args s r} (e : a0K C md f args s = some r) : a0K C' md f args s = some r := by
 unfold a0K at *
 split at e
 ·split at e
  ·exact h _ _ _ _ e
  ·split at e
   ·cases e
   ·rename_i args' ha
    split at e
    ·cases e
    ·rename_i r' s1 hc
     simp only [ha, h _ _ _ _ hc]
     exact e
 ·cases e
theorem c3b {C C' : U1} (h : C.le C') {env s o r} (e : evM C env s o = some r) : evM C' env s o = some r := by
 cases o <;> simp only [evM] at * <;> first | exact c1A h e | exact e
theorem b1C {C C' : U1} (h : C.le C') {env s o r} (e : P1 C env s o = some r) : P1 C' env s o = some r := by
 cases o <;> simp only [P1] at * <;> first | exact c3b h e | exact e
theorem a5W {C C' : U1} (h : C.le C') {pairs} : ∀ {ops tr env s r}, V3 C pairs ops tr env s = some r -> V3 C' pairs ops tr env s = some r
 | [], tr, env, s, r, e => by simpa only [V3] using e
 | (i, o) :: rest, tr, env, s, r, e => by
   simp only [V3] at e ⊢
   split at e
   ·cases e
   ·rename_i hw
    try simp only [hw]
    exact a5W h e
   ·rename_i hw
    try simp only [hw]
    split at e
    ·cases e
    ·rename_i d s' hr
     simp only [b1C h hr]
     split at e
     ·rename_i hp
      rw [if_pos hp]
      exact a5W h e
     ·cases e
theorem a4M {fs} {ex ex' : List Nat -> Z3 -> Env -> M1 -> Option Out} (h : ∀ v c e s r, ex v c e s = some r -> ex' v c e s = some r) : U1.le (a0e fs ex) (a0e fs ex') := by
 intro f a s r e
 unfold a0e at *
 split at e
 ·cases e
 ·rename_i vf hf
  try simp only [hf]
  split at e
  ·rename_i env' s' hx
   rw [h _ _ _ _ _ hx]
   exact e
  ·rename_i env' s' hx
   rw [h _ _ _ _ _ hx]
   exact e
  ·cases e
theorem b9V {fs} : ∀ n v c e s r, O7 fs n v c e s = some r -> O7 fs (n + 1) v c e s = some r := by
 intro n
 induction n with
 | zero => intro v c e s r h; simp [O7] at h
 | succ n ih =>
   intro v c e s r h
   cases c with
   | skip => simpa only [O7] using h
   | region rg =>
     rw [O7] at h ⊢
     split at h
     ·rename_i e' s' hr
      rw [a5W (a4M ih) hr]
      exact h
     ·cases h
   | seq a b =>
     rw [O7] at h ⊢
     split at h
     ·rename_i e' s' ha
      rw [ih _ _ _ _ _ ha]
      exact ih _ _ _ _ _ h
     ·rename_i hne
      rw [ih _ _ _ _ _ h]
      split
      ·rename_i e' s' hr
       cases hr
       exact absurd h (hne _ _)
      ·rfl
   | cond c x y =>
     rw [O7] at h ⊢
     split at h
     ·rename_i hc; exact ih _ _ _ _ _ h
     ·rename_i hc; exact ih _ _ _ _ _ h
     ·cases h
   | block id b =>
     rw [O7] at h ⊢
     split at h
     ·rename_i id' e' s' hb
      rw [ih _ _ _ _ _ hb]
      exact h
     ·rename_i hne
      rw [ih _ _ _ _ _ h]
      split
      ·rename_i id' e' s' hr
       cases hr
       exact absurd h (hne _ _ _)
      ·rfl
   | loop b =>
     rw [O7] at h ⊢
     split at h
     ·rename_i e' s' ha
      rw [ih _ _ _ _ _ ha]
      exact ih _ _ _ _ _ h
     ·rename_i hne
      rw [ih _ _ _ _ _ h]
      split
      ·rename_i e' s' hr
       cases hr
       exact absurd h (hne _ _)
      ·rfl
   | exit id => simpa only [O7] using h
   | ret => simpa only [O7] using h
theorem a2J {fs} {n m : Nat} (hnm : n <= m) {v c e s r} (h : O7 fs n v c e s = some r) : O7 fs m v c e s = some r := by
 induction hnm with
 | refl => exact h
 | step _ ih => exact b9V _ _ _ _ _ _ ih
variable {fs : FuncId -> Option M6}
def Ev (fs : FuncId -> Option M6) (f : FuncId) (args : List D) (s : M1) (d : D) (s' : M1) : Prop := ∃ n, a4d fs n f args s = some (d, s')
def WP (fs : FuncId -> Option M6) (vars : List Nat) (c : Z3) (env : Env) (s : M1) (Q : U7 -> Env -> M1 -> Prop) : Prop := ∃ n e env' s', O7 fs n vars c env s = some (e, env', s') /\ Q e env' s'
def WO (fs : FuncId -> Option M6) (pairs : List (Nat × Nat)) (ops : List (Nat × O6)) (tr : List Tr) (env : Env) (s : M1) (Q : Env -> M1 -> Prop) : Prop :=
 ∃ n env' s', V3 (a0e fs (O7 fs n)) pairs ops tr env s = some (env', s') /\ Q env' s'
theorem b1w {vars env s Q} (h : Q .normal env s) : WP fs vars .skip env s Q := ⟨1, _, _, _, rfl, h⟩
theorem b1H {vars env s id} {Q : U7 -> Env -> M1 -> Prop} (h : Q (.exit id) env s) : WP fs vars (.exit id) env s Q := ⟨1, _, _, _, rfl, h⟩
theorem b1J {vars env s} {Q : U7 -> Env -> M1 -> Prop} (h : Q .ret env s) : WP fs vars .ret env s Q := ⟨1, _, _, _, rfl, h⟩
theorem a8B {vars r env s Q} (h : WO fs r.pairs r.ops [] env s fun env' s' => Q .normal (env'.keep vars) s') : WP fs vars (.region r) env s Q := by
 obtain ⟨n, env', s', h1, h2⟩ := h
 exact ⟨n + 1, _, _, _, by rw [O7, h1], h2⟩
def P0 (fs : FuncId -> Option M6) (vars : List Nat) (b : Z3) (Q : U7 -> Env -> M1 -> Prop) : U7 -> Env -> M1 -> Prop
 | .normal, env, s => WP fs vars b env s Q
 | e, env, s => Q e env s
theorem b1o {vars a b env s Q} (h : WP fs vars a env s (P0 fs vars b Q)) : WP fs vars (.seq a b) env s Q := by
 obtain ⟨n, e, env', s', h1, h2⟩ := h
 cases e with
 | normal =>
   obtain ⟨m, e2, env2, s2, h3, h4⟩ := h2
   exact ⟨max n m + 1, e2, env2, s2, by rw [O7, a2J (Nat.le_max_left n m) h1]; exact a2J (Nat.le_max_right n m) h3, h4⟩
 | exit id => exact ⟨n + 1, _, _, _, by rw [O7, h1], h2⟩
 | ret => exact ⟨n + 1, _, _, _, by rw [O7, h1], h2⟩
theorem c1U {vars c x y env s Q} (b : Bool) (hc : env.ev c = .bool b) (h : WP fs vars (if b then x else y) env s Q) : WP fs vars (.cond c x y) env s Q := by
 obtain ⟨n, e, env', s', h1, h2⟩ := h
 refine ⟨n + 1, e, env', s', ?_, h2⟩
 rw [O7, hc]
 cases b <;> simpa using h1
def N4 (id : Nat) (Q : U7 -> Env -> M1 -> Prop) : U7 -> Env -> M1 -> Prop
 | .exit id', env, s => if id' = id then Q .normal env s else Q (.exit id') env s
 | e, env, s => Q e env s
theorem b1N {vars id b env s Q} (h : WP fs vars b env s (N4 id Q)) : WP fs vars (.block id b) env s Q := by
 obtain ⟨n, e, env', s', h1, h2⟩ := h
 cases e with
 | normal => exact ⟨n + 1, _, _, _, by rw [O7, h1], h2⟩
 | ret => exact ⟨n + 1, _, _, _, by rw [O7, h1], h2⟩
 | exit i =>
   simp only [N4] at h2
   by_cases hi : i = id
   ·rw [if_pos hi] at h2
    exact ⟨n + 1, _, _, _, by rw [O7, h1]; simp only [hi, if_true], h2⟩
   ·rw [if_neg hi] at h2
    exact ⟨n + 1, _, _, _, by rw [O7, h1]; simp only [hi, if_false], h2⟩
theorem a9u {vars b env s Q} (h : WP fs vars b env s (P0 fs vars (.loop b) Q)) : WP fs vars (.loop b) env s Q := by
 obtain ⟨n, e, env', s', h1, h2⟩ := h
 cases e with
 | normal =>
   obtain ⟨m, e2, env2, s2, h3, h4⟩ := h2
   exact ⟨max n m + 1, e2, env2, s2, by rw [O7, a2J (Nat.le_max_left n m) h1]; exact a2J (Nat.le_max_right n m) h3, h4⟩
 | exit id => exact ⟨n + 1, _, _, _, by rw [O7, h1], h2⟩
 | ret => exact ⟨n + 1, _, _, _, by rw [O7, h1], h2⟩
theorem WP.mono {vars c env s} {Q Q' : U7 -> Env -> M1 -> Prop} (h : WP fs vars c env s Q) (hq : ∀ e env' s', Q e env' s' -> Q' e env' s') : WP fs vars c env s Q' := by
 obtain ⟨n, e, env', s', h1, h2⟩ := h
 exact ⟨n, e, env', s', h1, hq _ _ _ h2⟩
theorem S9 {vars b Q} (I : Nat -> Env -> M1 -> Prop) (step : ∀ n env s, I n env s -> WP fs vars b env s fun e env' s' => match e with
 | .normal => ∃ m, m < n /\ I m env' s'
 | e => Q e env' s') : ∀ n env s, I n env s -> WP fs vars (.loop b) env s Q := by
 intro n
 induction n using Nat.strongRecOn with
 | _ n ih =>
   intro env s h
   refine a9u ((step n env s h).mono fun e env' s' hq => ?_)
   cases e with
   | normal => obtain ⟨m, hm, hi⟩ := hq; exact ih m hm env' s' hi
   | exit id => exact hq
   | ret => exact hq
theorem b2b {pairs tr env s Q} (h : Q env s) : WO fs pairs [] tr env s Q := ⟨0, _, _, rfl, h⟩
theorem b2y {pairs i o rest tr env s Q} (hw : Y6 env o.guard = some false) (h : WO fs pairs rest tr (env.put o.dst (.tup [])) s Q) : WO fs pairs ((i, o) :: rest) tr env s Q := by
 obtain ⟨n, env', s', h1, h2⟩ := h
 exact ⟨n, env', s', by simp only [V3, hw]; exact h1, h2⟩
def a1B (tr : List Tr) : Prop := ∀ t ∈ tr, t.pre = t.post
theorem a96 (s : M1) (r : Option Nat) : X3 s s r = true := by
 cases r with
 | none => rfl
 | some id => simp only [X3]; exact a4X _
theorem a23 {pairs : List (Nat × Nat)} {j : Tr} (hj : j.pre = j.post) : ∀ {tr : List Tr}, a1B tr -> Y8 pairs j tr = true
 | [], _ => rfl
 | i :: r, h => by
   have hi := h i (by simp)
   simp only [Y8, hj, hi, a96, Bool.and_true, ite_self, Bool.true_and]
   exact a23 hj fun t ht => h t (by simp [ht])
theorem a58 {j : Tr} : ∀ {tr : List Tr}, Y8 [] j tr = true
 | [] => rfl
 | i :: r => by simp only [Y8, List.contains_nil, Bool.false_eq_true, if_false, Bool.true_and]; exact a58
theorem a6l : a1B [] := by simp [a1B]
theorem b81 {pairs : List (Nat × Nat)} {tr : List Tr} {t : Tr} (h : a1B tr) (ht : t.pre = t.post) : a1B (if pairs.isEmpty then tr else t :: tr) := by
 split
 ·exact h
 ·intro x hx
  rcases List.mem_cons.1 hx with rfl | hx
  ·exact ht
  ·exact h x hx
def WQ (fs : FuncId -> Option M6) (pairs : List (Nat × Nat)) (ops : List (Nat × O6)) (env : Env) (s : M1) (Q : Env -> M1 -> Prop) : Prop := ∀ tr, a1B tr -> WO fs pairs ops tr env s Q
theorem b5A {vars r env s Q} (h : WQ fs r.pairs r.ops env s fun env' s' => Q .normal (env'.keep vars) s') : WP fs vars (.region r) env s Q := a8B (h [] a6l)
theorem b0m {pairs env s Q} (h : Q env s) : WQ fs pairs [] env s Q := fun _ _ => b2b h
theorem b1K {pairs i o rest env s Q} (hw : Y6 env o.guard = some false) (h : WQ fs pairs rest (env.put o.dst (.tup [])) s Q) : WQ fs pairs ((i, o) :: rest) env s Q :=
 fun tr ht => b2y hw (h tr ht)
theorem a07 {pairs i o rest tr env s Q} (hw : Y6 env o.guard = some true) {d s'} (m : Nat) (hr : P1 (a0e fs (O7 fs m)) env s o.op = some (d, s')) (hp : Y8 pairs ⟨i, V2 env o.op, s, s'⟩ tr = true)
 (h : WO fs pairs rest (if pairs.isEmpty then tr else ⟨i, V2 env o.op, s, s'⟩ :: tr) (env.put o.dst d) s' Q) : WO fs pairs ((i, o) :: rest) tr env s Q := by
 obtain ⟨n, env', s2, h1, h2⟩ := h
 have m1 : U1.le (a0e fs (O7 fs m)) (a0e fs (O7 fs (max m n))) := a4M fun v c e s r h => a2J (Nat.le_max_left m n) h
 have m2 : U1.le (a0e fs (O7 fs n)) (a0e fs (O7 fs (max m n))) := a4M fun v c e s r h => a2J (Nat.le_max_right m n) h
 refine ⟨max m n, env', s2, ?_, h2⟩
 simp only [V3, hw, b1C m1 hr, hp, if_true]
 exact a5W m2 h1
theorem a5u {pairs i o rest env s Q} (hw : Y6 env o.guard = some true) {d} (m : Nat) (hr : P1 (a0e fs (O7 fs m)) env s o.op = some (d, s))
 (h : WQ fs pairs rest (env.put o.dst d) s Q) : WQ fs pairs ((i, o) :: rest) env s Q :=
 fun tr ht => a07 hw m hr (a23 rfl ht) (h _ (b81 ht rfl))
theorem b2h {vars ops pairs dr env s Q} (h : WQ fs pairs ops env s fun env' s' => Q .normal (env'.keep vars) s') : WP fs vars (.region ⟨ops, pairs, dr⟩) env s Q := b5A h
theorem a5M {pairs i t o rest s Q} {env : Env} {d : D} (hr : evP env o = some d) (h : WQ fs pairs rest ((t, d) :: env) s Q) : WQ fs pairs ((i, ⟨some t, .p o, none⟩) :: rest) env s Q :=
 a5u rfl 0 (by simp only [P1, hr, Option.map_some]) h
theorem b2B {pairs i t o rest s Q} {env : Env} {d : D} (hr : evR env s.get o = some d) (h : WQ fs pairs rest ((t, d) :: env) s Q) : WQ fs pairs ((i, ⟨some t, .r o, none⟩) :: rest) env s Q :=
 a5u rfl 0 (by simp only [P1, hr, Option.map_some]) h
theorem b9X {pairs i t o r b rest s Q} {env : Env} (hw : env.get r = .bool b) (h : WQ fs pairs ((i, ⟨t, o, none⟩) :: rest) env s Q) : WQ fs pairs ((i, ⟨t, o, some (r, b)⟩) :: rest) env s Q := by
 intro tr ht
 obtain ⟨n, env', s', h1, h2⟩ := h tr ht
 refine ⟨n, env', s', ?_, h2⟩
 simp only [V3, Y6, hw, beq_self_eq_true] at h1 ⊢
 exact h1
theorem b4d {pairs i t o r b rest s Q} {env : Env} (hw : env.get r = .bool (!b)) (h : WQ fs pairs rest (env.put t (.tup [])) s Q) : WQ fs pairs ((i, ⟨t, o, some (r, b)⟩) :: rest) env s Q :=
 b1K (by simp only [Y6, hw]; cases b <;> rfl) h
theorem b6Q {pairs i t o r b rest s Q} {env : Env} (hw : env.get r = .tup []) (h : WQ fs pairs rest (env.put t (.tup [])) s Q) : WQ fs pairs ((i, ⟨t, o, some (r, b)⟩) :: rest) env s Q :=
 b1K (by simp only [Y6, hw]) h
theorem c38 {pairs i t f args rest s Q} {env : Env} {d : D} (hr : Ev fs f (env.evL args) s d s)
 (h : WQ fs pairs rest ((t, d) :: env) s Q) : WQ fs pairs ((i, ⟨some t, .m (.call .raw (.cst (.fn f [])) args), none⟩) :: rest) env s Q := by
 obtain ⟨n, hn⟩ := hr
 exact a5u rfl n (by simp only [P1, evM, a0K, Env.ev, List.append_nil]; exact hn) h
theorem c0o {pairs i t fo args rest s Q} {env : Env} {f : FuncId} {caps : List D} {d : D} (hf : env.ev fo = .fn f caps) (hr : Ev fs f (env.evL args ++ caps) s d s)
 (h : WQ fs pairs rest ((t, d) :: env) s Q) : WQ fs pairs ((i, ⟨some t, .m (.call .raw fo args), none⟩) :: rest) env s Q := by
 obtain ⟨n, hn⟩ := hr
 exact a5u rfl n (by simp only [P1, evM, a0K, hf]; exact hn) h
theorem b2O {pairs i t f args rest s Q} {env : Env} {args' : List D} {d r : D} {s1 : M1} (ha : N2 (ice s.get 20) (env.evL args) = some args')
 (hr : Ev fs f args' M1.empty r s1) (hi : ice s1.get 20 r = some d) (hs : (Y5 d || pureL (env.evL args)) = true)
 (h : WQ fs pairs rest ((t, d) :: env) s Q) : WQ fs pairs ((i, ⟨some t, .m (.call .iso (.cst (.fn f [])) args), none⟩) :: rest) env s Q := by
 obtain ⟨n, hn⟩ := hr
 refine a5u rfl n ?_ h
 have hn' : a0e fs (O7 fs n) f args' M1.empty = some (r, s1) := hn
 simp only [P1, evM, a0K, Env.ev, List.append_nil, ha, hn', hi, hs, if_true]
theorem a7K {i t o rest s Q} {env : Env} {ob : N9} {m : O8} (hr : evA env o = some (ob, m)) (h : WQ fs [] rest ((t, m.at s.next) :: env) (s.push ob) Q) : WQ fs [] ((i, ⟨some t, .a o, none⟩) :: rest) env s Q := by
 intro tr ht
 refine a07 rfl 0 (d := m.at s.next) (s' := s.push ob) (by simp only [P1, hr]) ?_ (h tr ht)
 exact a58
theorem a5C {i n a v rest s Q} {env : Env} {id : Nat} {ob : N9} (hr : evW env s.get n a v = some (id, ob)) (h : WQ fs [] rest env (s.set id (some ob)) Q) : WQ fs [] ((i, ⟨none, .w n a v, none⟩) :: rest) env s Q := by
 intro tr ht
 refine a07 rfl 0 (d := .tup []) (s' := s.set id (some ob)) (by simp only [P1, hr]) ?_ (h tr ht)
 exact a58
theorem a9e {i t o rest s Q} {env : Env} {d : D} {s' : M1} (hr : ∃ n, evM (a0e fs (O7 fs n)) env s o = some (d, s')) (h : WQ fs [] rest ((t, d) :: env) s' Q) : WQ fs [] ((i, ⟨some t, .m o, none⟩) :: rest) env s Q := by
 intro tr ht
 obtain ⟨n, hn⟩ := hr
 refine a07 rfl n (d := d) (s' := s') (by simp only [P1, hn]) ?_ (h tr ht)
 exact a58
theorem c2w {i t f args rest s Q} {env : Env} {d : D} {s' : M1} (hr : Ev fs f (env.evL args) s d s')
 (h : WQ fs [] rest ((t, d) :: env) s' Q) : WQ fs [] ((i, ⟨some t, .m (.call .raw (.cst (.fn f [])) args), none⟩) :: rest) env s Q := by
 obtain ⟨n, hn⟩ := hr
 exact a9e ⟨n, by simp only [evM, a0K, Env.ev, List.append_nil]; exact hn⟩ h
theorem a6Y {i t sz bytes a x rest s Q} {env : Env} {d : D} {s' : M1} (hr : S7 sz bytes (env.ev a) (env.ev x) s = some (d, s'))
 (h : WQ fs [] rest ((t, d) :: env) s' Q) : WQ fs [] ((i, ⟨some t, .m (.append sz bytes a x), none⟩) :: rest) env s Q :=
 a9e ⟨0, by simp only [evM]; exact hr⟩ h
theorem a8t {i t sz bytes a x rest s Q} {env : Env} {da dx d : D} {s' : M1} (ha : env.ev a = da) (hx : env.ev x = dx) (hr : S7 sz bytes da dx s = some (d, s'))
 (h : WQ fs [] rest ((t, d) :: env) s' Q) : WQ fs [] ((i, ⟨some t, .m (.append sz bytes a x), none⟩) :: rest) env s Q :=
 a6Y (by rw [ha, hx]; exact hr) h
theorem b5Y {pairs i t f args rest s Q} {env : Env} {l : List D} {d : D} (ha : env.evL args = l) (hr : Ev fs f l s d s)
 (h : WQ fs pairs rest ((t, d) :: env) s Q) : WQ fs pairs ((i, ⟨some t, .m (.call .raw (.cst (.fn f [])) args), none⟩) :: rest) env s Q := c38 (ha ▸ hr) h
theorem a1I {pairs i t f args rest s Q} {env : Env} {l l' : List D} {d r : D} {s1 : M1} (hl : env.evL args = l) (ha : N2 (ice s.get 20) l = some l')
 (hr : Ev fs f l' M1.empty r s1) (hi : ice s1.get 20 r = some d) (hs : (Y5 d || pureL l) = true)
 (h : WQ fs pairs rest ((t, d) :: env) s Q) : WQ fs pairs ((i, ⟨some t, .m (.call .iso (.cst (.fn f [])) args), none⟩) :: rest) env s Q :=
 b2O (hl ▸ ha) hr hi (hl ▸ hs) h
def Way (d : D) (b : Bool) (A B : Prop) : Prop := match d with
 | .bool c => if c = b then A else B
 | .tup [] => B
 | _ => False
theorem b05 {pairs i t o r b rest s Q} {env : Env} {d : D} (hw : env.get r = d)
 (h : Way d b (WQ fs pairs ((i, ⟨t, o, none⟩) :: rest) env s Q) (WQ fs pairs rest (env.put t (.tup [])) s Q)) : WQ fs pairs ((i, ⟨t, o, some (r, b)⟩) :: rest) env s Q := by
 unfold Way at h
 split at h
 ·rename_i c
  by_cases hc : c = b
  ·rw [if_pos hc] at h; subst hc; exact b9X hw h
  ·rw [if_neg hc] at h
   exact b4d (by rw [hw]; congr 1; cases c <;> cases b <;> simp_all) h
 ·exact b6Q hw h
 ·exact h.elim
def a0P (d : D) (A B : Prop) : Prop := match d with
 | .bool c => if c then A else B
 | _ => False
theorem c3d {A B : Prop} (h : B) : a0P (.bool false) A B := by
 show if false = true then A else B
 rw [if_neg (by simp)]; exact h
theorem b3D {vars c x y env s Q} {d : D} (hc : env.ev c = d) (h : a0P d (WP fs vars x env s Q) (WP fs vars y env s Q)) : WP fs vars (.cond c x y) env s Q := by
 unfold a0P at h
 split at h
 ·rename_i b
  refine c1U b hc ?_
  cases b <;> exact h
 ·exact h.elim
theorem b26 {pairs : List (Nat × Nat)} {j : Tr} (hp : (pairs.all fun p => p.2 != j.idx) = true) : ∀ {tr : List Tr}, Y8 pairs j tr = true
 | [] => rfl
 | i :: r => by
   have hc : pairs.contains (i.idx, j.idx) = false := by
    rw [Bool.eq_false_iff]
    intro h
    rw [List.contains_iff_mem] at h
    rw [List.all_eq_true] at hp
    have := hp _ h
    simp at this
   simp only [Y8, hc, Bool.false_eq_true, if_false, Bool.true_and]
   exact b26 hp
theorem a4R {C : U1} {pairs : List (Nat × Nat)} : ∀ {ops : List (Nat × O6)} {tr tr' : List Tr} {env : Env} {s : M1} {r : Env × M1}, (ops.all fun o => pairs.all fun p => p.2 != o.1) = true ->
 V3 C [] ops tr' env s = some r -> V3 C pairs ops tr env s = some r
 | [], _, _, _, _, _, _, e => by simpa only [V3] using e
 | (i, o) :: rest, tr, tr', env, s, r, hp, e => by
   simp only [List.all_cons, Bool.and_eq_true] at hp
   simp only [V3] at e ⊢
   split at e
   ·cases e
   ·rename_i hw
    try simp only [hw]
    exact a4R hp.2 e
   ·rename_i hw
    try simp only [hw]
    split at e
    ·cases e
    ·rename_i d s' hr
     try simp only [hr]
     split at e
     ·rw [if_pos (b26 hp.1)]
      exact a4R hp.2 e
     ·cases e
theorem c3s {pairs ops env s Q} (hp : (ops.all fun o => pairs.all fun p => p.2 != o.1) = true) (h : WQ fs [] ops env s Q) : WQ fs pairs ops env s Q := by
 intro tr _
 obtain ⟨n, env', s', h1, h2⟩ := h [] a6l
 exact ⟨n, env', s', a4R hp h1, h2⟩
theorem a5X {p pairs ops env s Q} (hp : (ops.all fun o => (p :: pairs).all fun p => p.2 != o.1) = true) (h : WQ fs [] ops env s Q) : WQ fs (p :: pairs) ops env s Q := c3s hp h
theorem a4U {f : FuncId} {vf : M6} {args : List D} {s s' : M1} {d : D} (hf : fs f = some vf) (h : WP fs vf.vars vf.code (vf.vars.map fun t => (t, args.getD t .undef)) s fun e env s2 => (e = .normal ∨ e = .ret) /\ s2 = s' /\ R9 env s2 vf.res = some d) : Ev fs f args s d s' := by
 obtain ⟨n, e, env, s2, h1, he, rfl, h2⟩ := h
 refine ⟨n, ?_⟩
 unfold a4d a0e
 rw [hf]
 simp only [h1]
 rcases he with rfl | rfl <;> simp only [h2, Option.map_some]
def EvP (fs : FuncId -> Option M6) (f : FuncId) (args : List D) (s : M1) (P : D -> M1 -> Prop) : Prop := ∃ d s', Ev fs f args s d s' /\ P d s'
theorem M8 {f : FuncId} {vf : M6} {args : List D} {s : M1} {P : D -> M1 -> Prop} (hf : fs f = some vf) (h : WP fs vf.vars vf.code (vf.vars.map fun t => (t, args.getD t .undef)) s fun e env s2 => (e = .normal ∨ e = .ret) /\ ∃ d, R9 env s2 vf.res = some d /\ P d s2) : EvP fs f args s P := by
 obtain ⟨n, e, env, s2, h1, he, d, h2, h3⟩ := h
 exact ⟨d, s2, a4U hf ⟨n, e, env, s2, h1, he, rfl, h2⟩, h3⟩
theorem S4 {i t f args rest s Q} {env : Env} {l : List D} {P : D -> M1 -> Prop} (hr : EvP fs f l s P) (ha : env.evL args = l)
 (h : ∀ d s', P d s' -> WQ fs [] rest ((t, d) :: env) s' Q) : WQ fs [] ((i, ⟨some t, .m (.call .raw (.cst (.fn f [])) args), none⟩) :: rest) env s Q := by
 subst ha
 obtain ⟨d, s', h1, h2⟩ := hr
 exact c2w h1 (h d s' h2)
theorem EvP.mono {f args s} {P P' : D -> M1 -> Prop} (h : EvP fs f args s P) (hp : ∀ d s', P d s' -> P' d s') : EvP fs f args s P' := by
 obtain ⟨d, s', h1, h2⟩ := h
 exact ⟨d, s', h1, hp _ _ h2⟩
theorem Ev.det {f args s d s' d2 s2} (h : Ev fs f args s d s') (k : Ev fs f args s d2 s2) : d = d2 /\ s' = s2 := by
 obtain ⟨n, hn⟩ := h
 obtain ⟨m, hm⟩ := k
 have a1 := a4M (fs := fs) (fun v c e s r h => a2J (Nat.le_max_left n m) h) _ _ _ _ hn
 have a2 := a4M (fs := fs) (fun v c e s r h => a2J (Nat.le_max_right n m) h) _ _ _ _ hm
 rw [a1] at a2
 cases a2
 exact ⟨rfl, rfl⟩
end Go.V
namespace Go.V
def ldV (g : P4) (n : Option Nat) : D -> Option D
 | .ptr id off => match g id with
   | some (.cells cs) => Y9 n off cs
   | _ => none
 | .fp cs off => Y9 n off cs
 | _ => none
theorem a4H {env : Env} {g : P4} {n : Option Nat} {x : Opd} : evR env g (.load n x) = ldV g n (env.ev x) := by
 simp only [evR]
 cases env.ev x <;> rfl
theorem b4o {g : P4} {n : Option Nat} {id off : Nat} : ldV g n (.ptr id off) = (match g id with | some (.cells cs) => Y9 n off cs | _ => none) := rfl
theorem b9m {g : P4} {n : Option Nat} {off : Nat} {cs : List D} : ldV g n (.fp cs off) = Y9 n off cs := rfl
theorem b9y {k : IntKind} {n : Int} : M9 (.int k n) = true := rfl
theorem c0p {k : IntKind} {n : Int} : cellsOf (.int k n) = [.int k n] := rfl
theorem b4K {b : Bool} : M9 (.bool b) = true := rfl
theorem c2A {b : Bool} : cellsOf (.bool b) = [.bool b] := rfl
theorem b7k {t : ByteArray} : M9 (.str t) = true := rfl
theorem b4H {t : ByteArray} : cellsOf (.str t) = [.str t] := rfl
theorem c1O : M9 .nilp = true := rfl
theorem b5O : cellsOf .nilp = [.nilp] := rfl
theorem b4R {i : Nat} {o : Nat} : M9 (.ptr i o) = true := rfl
theorem c04 {i : Nat} {o : Nat} : cellsOf (.ptr i o) = [.ptr i o] := rfl
theorem b4j {l : List D} {o : Nat} : M9 (.fp l o) = true := rfl
theorem c1i {l : List D} {o : Nat} : cellsOf (.fp l o) = [.fp l o] := rfl
theorem b9q : M9 .nils = true := rfl
theorem b9H : cellsOf .nils = [.nils] := rfl
theorem b9j {ll : List (List D)} {o : Nat} : M9 (.lst o ll) = true := rfl
theorem c0R {ll : List (List D)} {o : Nat} : cellsOf (.lst o ll) = [.lst o ll] := rfl
theorem b7L {i : Nat} {o : Nat} {p : Nat} {q : Nat} : M9 (.arr i o p q) = true := rfl
theorem b6S {i : Nat} {o : Nat} {p : Nat} {q : Nat} : cellsOf (.arr i o p q) = [.arr i o p q] := rfl
theorem c2P {f : FuncId} {l : List D} : M9 (.fn f l) = true := rfl
theorem b7h {f : FuncId} {l : List D} : cellsOf (.fn f l) = [.fn f l] := rfl
theorem c2Z : M9 .nilf = true := rfl
theorem b64 : cellsOf .nilf = [.nilf] := rfl
theorem b6k : M9 .nilm = true := rfl
theorem c08 : cellsOf .nilm = [.nilm] := rfl
theorem b7t {i : Nat} : M9 (.map i) = true := rfl
theorem c1L {i : Nat} : cellsOf (.map i) = [.map i] := rfl
theorem c2S {l : List D} : M9 (.agg l) = false := rfl
theorem b9i {l : List D} : cellsOf (.agg l) = l := rfl
theorem b1T {d : D} (h : M9 d = true) : cellsOf d = [d] := by cases d <;> first | rfl | (simp [M9] at h)
theorem c2Y : S6 false .nils = some (.int .i64 0) := rfl
theorem b7O {o : Nat} {ll : List (List D)} : S6 false (.lst o ll) = some (.int .i64 (ll.length : Int)) := rfl
theorem c3z {i o p q : Nat} : S6 false (.arr i o p q) = some (.int .i64 (p : Int)) := rfl
theorem c2g {t : ByteArray} : S6 true (.str t) = some (.int .i64 (t.size : Int)) := rfl
theorem b6x : a0X .p .nilp = some true := rfl
theorem b6l {i o : Nat} : a0X .p (.ptr i o) = some false := rfl
theorem b7E {l : List D} {o : Nat} : a0X .p (.fp l o) = some false := rfl
theorem b4n : a0X .s .nils = some true := rfl
theorem b91 {o : Nat} {ll : List (List D)} : a0X .s (.lst o ll) = some false := rfl
theorem c2K {i o p q : Nat} : a0X .s (.arr i o p q) = some false := rfl
theorem b94 : a0X .m .nilm = some true := rfl
theorem b9O {i : Nat} : a0X .m (.map i) = some false := rfl
theorem c1o : a0X .f .nilf = some true := rfl
theorem b8r {f : FuncId} {l : List D} : a0X .f (.fn f l) = some false := rfl
theorem b4k {k k' : IntKind} {a b : Int} : a2u false (.int k a) [.int k' b] = some (.int k (min a b)) := by
 simp only [a2u]; congr 2; simp only [Bool.false_eq_true, if_false]; split <;> omega
theorem b6r {k k' : IntKind} {a b : Int} : a2u true (.int k a) [.int k' b] = some (.int k (max a b)) := by
 simp only [a2u]; congr 2; simp only [if_true]; split <;> omega
theorem c0d {a b : Nat} : ((a : Int) == (b : Int)) = decide (a = b) := by rw [Bool.eq_iff_iff]; simp only [beq_iff_eq, decide_eq_true_eq]; omega
theorem c2b {a : Nat} : ((a : Int) == 0) = decide (a = 0) := by rw [Bool.eq_iff_iff]; simp only [beq_iff_eq, decide_eq_true_eq]; omega
theorem b6P {a : Nat} : ((a : Int) == 1) = decide (a = 1) := by rw [Bool.eq_iff_iff]; simp only [beq_iff_eq, decide_eq_true_eq]; omega
theorem b1F {i o p q z : Nat} {k : IntKind} {n : Int} (h0 : q = z) (h1 : 0 <= n) (h2 : n < p) : N3 z (.arr i o p q) (.int k n) = some (.ptr i (o + n.toNat * z)) := by
 simp only [N3]; rw [if_pos ⟨h0, h1, h2⟩]
def b00 (k : IntKind) (x y : Int) : Int := (BitVec.ofInt k.bits x &&& BitVec.ofInt k.bits y).toNat
def orI (k : IntKind) (x y : Int) : Int := (BitVec.ofInt k.bits x ||| BitVec.ofInt k.bits y).toNat
def c0N (k : IntKind) (x y : Int) : Int := (BitVec.ofInt k.bits x ^^^ BitVec.ofInt k.bits y).toNat
def a4Z (k : IntKind) (x y : Int) : Int := (BitVec.ofInt k.bits x &&& ~~~ BitVec.ofInt k.bits y).toNat
theorem b5u {k : IntKind} {x y : Int} : a0C .add k x y = some (.int k (k.wrap (x + y))) := rfl
theorem c2M {k : IntKind} {x y : Int} : a0C .sub k x y = some (.int k (k.wrap (x - y))) := rfl
theorem c0u {k : IntKind} {x y : Int} : a0C .mul k x y = some (.int k (k.wrap (x * y))) := rfl
theorem c2X {k : IntKind} {x y : Int} : a0C .quo k x y = if y = 0 then none else some (.int k (k.wrap (x.tdiv y))) := rfl
theorem b7R {k : IntKind} {x y : Int} : a0C .rem k x y = if y = 0 then none else some (.int k (x.tmod y)) := rfl
theorem b50 {k : IntKind} {x y : Int} : a0C .and k x y = some (.int k (k.wrap (b00 k x y))) := rfl
theorem b4E {k : IntKind} {x y : Int} : a0C .or k x y = some (.int k (k.wrap (orI k x y))) := rfl
theorem b5v {k : IntKind} {x y : Int} : a0C .xor k x y = some (.int k (k.wrap (c0N k x y))) := rfl
theorem b6m {k : IntKind} {x y : Int} : a0C .andNot k x y = some (.int k (k.wrap (a4Z k x y))) := rfl
theorem b9F {k : IntKind} {x y : Int} : a0C .eql k x y = some (.bool (x == y)) := rfl
theorem b9p {k : IntKind} {x y : Int} : a0C .neq k x y = some (.bool (x != y)) := rfl
theorem b7m {k : IntKind} {x y : Int} : a0C .lss k x y = some (.bool (x < y)) := rfl
theorem b8A {k : IntKind} {x y : Int} : a0C .leq k x y = some (.bool (x <= y)) := rfl
theorem b4O {k : IntKind} {x y : Int} : a0C .gtr k x y = some (.bool (x > y)) := rfl
theorem c27 {k : IntKind} {x y : Int} : a0C .geq k x y = some (.bool (x >= y)) := rfl
attribute [go_sem] evP a4H evR.eq_2 evR.eq_3 b4o a4S b9m b9y c0p b4K c2A b7k b4H c1O b5O b4R c04 b4j c1i b9q b9H b9j c0R b7L b6S c2P b7h c2Z b64 b6k c08 b7t c1L c2S b9i b1T c2Y b7O c3z c2g b6x b6l b7E b4n b91 c2K b94 b9O c1o b8r evA evW Env.evL Env.evO a56 b5u c2M c0u c2X b7R b50 b4E b5v b6m b9F b9p b7m b8A b4O c27 unV Y9 b1F a1s a0B b4k b6r c0d c2b b6P Y6 a1p a2g a2D O8.at Option.map_some Option.map List.getElem?_cons_zero List.getElem?_cons_succ List.getElem?_nil List.all_cons List.all_nil List.length_cons List.length_nil List.take List.drop List.map List.append List.cons_append List.nil_append List.append_nil Nat.zero_add Nat.add_zero Nat.zero_mul Nat.mul_one Int.toNat_natCast decide_true decide_false Bool.not_true Bool.not_false Bool.and_true Bool.true_and Bool.and_self and_self and_true true_and Bool.false_eq_true ge_iff_le gt_iff_lt beq_self_eq_true Nat.zero_le Nat.le_refl Nat.lt_irrefl M1.next_push M1.next_set
attribute [go_sem] Nat.reduceEqDiff Nat.reduceAdd Nat.reduceMul Nat.reduceLeDiff reduceCtorEq Int.reduceEq Int.reduceLT Int.reduceLE Int.reduceAdd Int.reduceSub Int.reduceMul Int.reduceNeg Int.reduceToNat Int.reduceBEq Int.reduceBNe
variable {fs : FuncId -> Option M6}
theorem vA {vars a b env s Q} (h : WP fs vars a env s (P0 fs vars b Q)) : WP fs vars (.seq a b) env s Q := b1o h
theorem vB {vars id b env s Q} (h : WP fs vars b env s (N4 id Q)) : WP fs vars (.block id b) env s Q := b1N h
theorem vC {vars ops pairs dr env s Q} (h : WQ fs pairs ops env s fun env' s' => Q .normal (env'.keep vars) s') : WP fs vars (.region ⟨ops, pairs, dr⟩) env s Q := b2h h
theorem vD {p pairs ops env s Q} (hp : (ops.all fun o => (p :: pairs).all fun p => p.2 != o.1) = true) (h : WQ fs [] ops env s Q) : WQ fs (p :: pairs) ops env s Q := a5X hp h
theorem vE {pairs env s Q} (h : Q env s) : WQ fs pairs [] env s Q := b0m h
theorem vF {vars env s Q} (h : Q .normal env s) : WP fs vars .skip env s Q := b1w h
theorem vG {vars env s id} {Q : U7 -> Env -> M1 -> Prop} (h : Q (.exit id) env s) : WP fs vars (.exit id) env s Q := b1H h
theorem vH {vars env s} {Q : U7 -> Env -> M1 -> Prop} (h : Q .ret env s) : WP fs vars .ret env s Q := b1J h
theorem vI {pairs i t o rest s Q} {env : Env} {d : D} (hr : evP env o = some d) (h : WQ fs pairs rest ((t, d) :: env) s Q) : WQ fs pairs ((i, ⟨some t, .p o, none⟩) :: rest) env s Q := a5M hr h
theorem vJ {pairs i t o rest s Q} {env : Env} {d : D} (hr : evR env s.get o = some d) (h : WQ fs pairs rest ((t, d) :: env) s Q) : WQ fs pairs ((i, ⟨some t, .r o, none⟩) :: rest) env s Q := b2B hr h
theorem vK {i t o rest s Q} {env : Env} {ob : N9} {m : O8} (hr : evA env o = some (ob, m)) (h : WQ fs [] rest ((t, m.at s.next) :: env) (s.push ob) Q) : WQ fs [] ((i, ⟨some t, .a o, none⟩) :: rest) env s Q := a7K hr h
theorem vL {i n a v rest s Q} {env : Env} {id : Nat} {ob : N9} (hr : evW env s.get n a v = some (id, ob)) (h : WQ fs [] rest env (s.set id (some ob)) Q) : WQ fs [] ((i, ⟨none, .w n a v, none⟩) :: rest) env s Q := a5C hr h
theorem vM {pairs i t o r b rest s Q} {env : Env} {d : D} (hw : env.get r = d)
 (h : Way d b (WQ fs pairs ((i, ⟨t, o, none⟩) :: rest) env s Q) (WQ fs pairs rest (env.put t (.tup [])) s Q)) : WQ fs pairs ((i, ⟨t, o, some (r, b)⟩) :: rest) env s Q := b05 hw h
theorem vN {vars c x y env s Q} {d : D} (hc : env.ev c = d) (h : a0P d (WP fs vars x env s Q) (WP fs vars y env s Q)) : WP fs vars (.cond c x y) env s Q := b3D hc h
theorem vO {A B : Prop} (h : A) : Way (.bool true) true A B := h
theorem vP {A B : Prop} (h : A) : Way (.bool false) false A B := h
theorem vQ {A B : Prop} (h : A) : a0P (.bool true) A B := h
theorem vR {A B : Prop} (h : B) : a0P (.bool false) A B := c3d h
theorem vS {A B : Prop} (h : B) : Way (.bool true) false A B := h
theorem vT {A B : Prop} (h : B) : Way (.bool false) true A B := h
theorem vU {b : Bool} {A B : Prop} (h : B) : Way (.tup []) b A B := h
theorem aN {a b : Prop} (x : a) (y : b) : a /\ b := ⟨x, y⟩
theorem zW0 {P Q : Prop} (k : Q) (h : Q -> P := by
 intro k
 (first|(with_reducible first|apply vA|apply vB|apply vC)|((with_reducible apply vD); (focus rfl))|((with_reducible first|apply vE|apply vF|apply vG|apply vH); simp only [Env.keep, Env.get, Env.ev, List.map, Nat.reduceEqDiff, ↓reduceIte, P0, N4])|((with_reducible first|apply vI|apply vJ|apply vK|apply vL|apply vM|apply vN); (focus (simp (disch := (first|with_reducible assumption|omega|((repeat (first|rw [nP]|rw [nS]))<;>omega)|fail)) only [go_sem, Env.ev, Env.get, ↓reduceIte] <;> rfl)); (first|(with_reducible (first|apply vO|apply vP|apply vQ|apply vR|apply vS|apply vT|apply vU); try simp only [Env.put])|with_reducible refine (?_ : WQ _ _ _ _ _ _))))
 repeat (first|(with_reducible first|apply vA|apply vB|apply vC)|((with_reducible apply vD); (focus rfl))|((with_reducible first|apply vE|apply vF|apply vG|apply vH); simp only [Env.keep, Env.get, Env.ev, List.map, Nat.reduceEqDiff, ↓reduceIte, P0, N4])|((with_reducible first|apply vI|apply vJ|apply vK|apply vL|apply vM|apply vN); (focus (simp (disch := (first|with_reducible assumption|omega|((repeat (first|rw [nP]|rw [nS]))<;>omega)|fail)) only [go_sem, Env.ev, Env.get, ↓reduceIte] <;> rfl)); (first|(with_reducible (first|apply vO|apply vP|apply vQ|apply vR|apply vS|apply vT|apply vU); try simp only [Env.put])|with_reducible refine (?_ : WQ _ _ _ _ _ _))))
 exact k) : P := h k
theorem zW {F P Q : Prop} (f : F) (k : Q) (h : F -> Q -> P := by
 intro f k
 (first|(with_reducible first|apply vA|apply vB|apply vC)|((with_reducible apply vD); (focus rfl))|((with_reducible first|apply vE|apply vF|apply vG|apply vH); simp only [Env.keep, Env.get, Env.ev, List.map, Nat.reduceEqDiff, ↓reduceIte, P0, N4])|((with_reducible first|apply vI|apply vJ|apply vK|apply vL|apply vM|apply vN); (focus (simp (disch := (first|with_reducible assumption|omega|((repeat (first|rw [nP]|rw [nS]))<;>omega)|fail)) only [go_sem, Env.ev, Env.get, ↓reduceIte, f] <;> rfl)); (first|(with_reducible (first|apply vO|apply vP|apply vQ|apply vR|apply vS|apply vT|apply vU); try simp only [Env.put])|with_reducible refine (?_ : WQ _ _ _ _ _ _))))
 repeat (first|(with_reducible first|apply vA|apply vB|apply vC)|((with_reducible apply vD); (focus rfl))|((with_reducible first|apply vE|apply vF|apply vG|apply vH); simp only [Env.keep, Env.get, Env.ev, List.map, Nat.reduceEqDiff, ↓reduceIte, P0, N4])|((with_reducible first|apply vI|apply vJ|apply vK|apply vL|apply vM|apply vN); (focus (simp (disch := (first|with_reducible assumption|omega|((repeat (first|rw [nP]|rw [nS]))<;>omega)|fail)) only [go_sem, Env.ev, Env.get, ↓reduceIte, f] <;> rfl)); (first|(with_reducible (first|apply vO|apply vP|apply vQ|apply vR|apply vS|apply vT|apply vU); try simp only [Env.put])|with_reducible refine (?_ : WQ _ _ _ _ _ _))))
 exact k) : P := h f k
theorem rR {P : Prop} (h : P := by simp only [R9, S1, T0, Env.get, Nat.reduceEqDiff, ↓reduceIte] <;> rfl) : P := h
theorem rG {F P : Prop} (f : F) (h : F -> P := by intro f; simp only [Env.get, Nat.reduceEqDiff, ↓reduceIte, f, and_self]) : P := h f
theorem nP (s : M1) (o : N9) : (s.push o).next = s.next + 1 := rfl
theorem nS (s : M1) (i : Nat) (o : Option N9) : (s.set i o).next = s.next := rfl
end Go.V
namespace Go.V
def xq (i t : Nat) (o : POp) : Nat × O6 := (i, ⟨some t, .p o, none⟩)
def xg (i t : Nat) (o : POp) (g : Nat) (b : Bool) : Nat × O6 := (i, ⟨some t, .p o, some (g, b)⟩)
def xm (i t x : Nat) : Nat × O6 := (i, ⟨some t, .p (.mov (.tmp x)), none⟩)
def xmg (i t x g : Nat) (b : Bool) : Nat × O6 := (i, ⟨some t, .p (.mov (.tmp x)), some (g, b)⟩)
def xc (i t : Nat) (d : D) : Nat × O6 := (i, ⟨some t, .p (.mov (.cst d)), none⟩)
def xl (i t : Nat) (n : Option Nat) (x : Nat) : Nat × O6 := (i, ⟨some t, .r (.load n (.tmp x)), none⟩)
def xlg (i t : Nat) (n : Option Nat) (x g : Nat) (b : Bool) : Nat × O6 := (i, ⟨some t, .r (.load n (.tmp x)), some (g, b)⟩)
def xf (i t off x : Nat) : Nat × O6 := (i, ⟨some t, .p (.fieldA off (.tmp x)), none⟩)
def xfg (i t off x g : Nat) (b : Bool) : Nat × O6 := (i, ⟨some t, .p (.fieldA off (.tmp x)), some (g, b)⟩)
def xw (i n a : Nat) (v : Opd) : Nat × O6 := (i, ⟨none, .w n (.tmp a) v, none⟩)
def xa (i t : Nat) (o : AOp) : Nat × O6 := (i, ⟨some t, .a o, none⟩)
def xk (i t f : Nat) (l : List Opd) : Nat × O6 := (i, ⟨some t, .m (.call .raw (.cst (.fn f [])) l), none⟩)
def xi (i t f : Nat) (l : List Opd) : Nat × O6 := (i, ⟨some t, .m (.call .iso (.cst (.fn f [])) l), none⟩)
def xig (i t f : Nat) (l : List Opd) (g : Nat) (b : Bool) : Nat × O6 := (i, ⟨some t, .m (.call .iso (.cst (.fn f [])) l), some (g, b)⟩)
def xo (i : Nat) (t : Option Nat) (o : VOp) (g : Option (Nat × Bool)) : Nat × O6 := (i, ⟨t, o, g⟩)
def xr (l : List (Nat × O6)) : Z3 := .region ⟨l, [], false⟩
def xrp (l : List (Nat × O6)) (p : List (Nat × Nat)) (b : Bool) : Z3 := .region ⟨l, p, b⟩
def bs (l : List Nat) : ByteArray := ⟨(l.map UInt8.ofNat).toArray⟩
def xn (n : Int) : Opd := .cst (.int .i64 n)
theorem zE {P Q : Prop} (k : Q) (h : P = Q := by
 simp only [xq, xg, xm, xmg, xc, xl, xlg, xf, xfg, xw, xa, xk, xi, xig, xo, xr, xrp, xn, List.map, List.getD, List.getElem?_cons_zero, List.getElem?_cons_succ, List.getElem?_nil, Option.getD]
 exact rfl) : P := h.mpr k
end Go.V
namespace Go.V
noncomputable def Q7 (P : Program) (l : List Nat) (ann : Ann) (vars : List Nat) (fn : Func) : M6 := match a2q P (a4B l) ann vars fn with
 | some v => v
 | none => ⟨[], .skip, []⟩
theorem b7A {P : Program} {md : FuncId -> W8} {ann : Ann} {vars : List Nat} {fn : Func} {v : M6} (h : a2q P md ann vars fn = some v) : v.vars = vars := by
 unfold a2q at h
 split at h
 ·cases h
 ·split at h
  ·split at h
   ·cases h
   ·cases h; rfl
  ·cases h
theorem okG {P : Program} {f : Nat} {l : List Nat} {ann : Ann} {vars : List Nat} {fn : Func} (hf : P.funcs[f]? = some fn) (h : (a2q P (a4B l) ann vars fn).isSome = true) : ∃ fn' md ann', P.funcs[f]? = some fn' /\ a2q P md ann' (Q7 P l ann vars fn).vars fn' = some (Q7 P l ann vars fn) := by
 obtain ⟨v, hv⟩ := Option.isSome_iff_exists.1 h
 have e : Q7 P l ann vars fn = v := by unfold Q7; rw [hv]
 rw [e, b7A hv]
 exact ⟨fn, a4B l, ann, hf, hv⟩
theorem okF {P : Program} {f : Nat} {fn : Func} {vf : M6} (l : List Nat) (ann : Ann) (hf : P.funcs[f]? = some fn) (h : a2q P (a4B l) ann vf.vars fn = some vf) : ∃ fn' md ann', P.funcs[f]? = some fn' /\ a2q P md ann' vf.vars fn' = some vf := ⟨fn, a4B l, ann, hf, h⟩
end Go.V
