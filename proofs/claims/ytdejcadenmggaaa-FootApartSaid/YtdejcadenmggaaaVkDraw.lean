/- The V machine: a region whose order is drawn. -/
import Derived.Test.YtdejcadenmggaaaVkSeq
namespace Go.V

def Opd.slot : Opd → List Nat
  | .tmp t => [t]
  | .cst _ => []
def slotsL : List Opd → List Nat
  | [] => []
  | x :: r => x.slot ++ slotsL r
def slotsO : Option Opd → List Nat
  | some x => x.slot
  | none => []
def slotsP3 : List (Nat × Nat × Opd) → List Nat
  | [] => []
  | (_, _, x) :: r => x.slot ++ slotsP3 r
def slotsP2 : List (Nat × Opd) → List Nat
  | [] => []
  | (_, x) :: r => x.slot ++ slotsP2 r
def POp.slots : POp → List Nat
  | .mov x => x.slot
  | .pick c a b => c.slot ++ (a.slot ++ b.slot)
  | .nilchk x => x.slot
  | .bin _ x y => x.slot ++ y.slot
  | .eqB _ x y => x.slot ++ y.slot
  | .eqAgg _ _ x y => x.slot ++ y.slot
  | .eqNil _ _ x => x.slot
  | .un _ x => x.slot
  | .conv _ x => x.slot
  | .build _ ps => slotsP3 ps
  | .fieldA _ x => x.slot
  | .field _ _ x => x.slot
  | .idxA _ x i => x.slot ++ i.slot
  | .idxS x i => x.slot ++ i.slot
  | .idxV _ _ _ x i => x.slot ++ i.slot
  | .len _ x => x.slot
  | .minmax _ x xs => x.slot ++ slotsL xs
  | .slice _ x lo hi => x.slot ++ (slotsO lo ++ slotsO hi)
  | .extract x _ => x.slot
  | .mkfn _ xs => slotsL xs
def ROp.slots : ROp → List Nat
  | .load _ x => x.slot
  | .lookup _ _ _ m k => m.slot ++ k.slot
  | .b2s x => x.slot
def AOp.slots : AOp → List Nat
  | .alloc _ => []
  | .box x => x.slot
  | .bslice _ _ _ ps => slotsP2 ps
  | .mkslice _ _ _ l c => l.slot ++ c.slot
  | .mkmap => []
def MOp.slots : MOp → List Nat
  | .call _ f xs => f.slot ++ slotsL xs
  | .append _ _ s x => s.slot ++ x.slot
  | .mapset _ m k v => m.slot ++ (k.slot ++ v.slot)
def VOp.slots : VOp → List Nat
  | .p o => o.slots
  | .r o => o.slots
  | .a o => o.slots
  | .w _ ad x => ad.slot ++ x.slot
  | .m o => o.slots
def guardSlot : Option (Nat × Bool) → List Nat
  | some (t, _) => [t]
  | none => []
def VOper.looks (o : VOper) : List Nat := guardSlot o.guard ++ o.op.slots

section
variable {env env' : Env}
def Same (env env' : Env) (l : List Nat) : Prop := ∀ t ∈ l, env.get t = env'.get t
theorem Same.left {l m : List Nat} (h : Same env env' (l ++ m)) : Same env env' l := fun t ht => h t (by simp [ht])
theorem Same.right {l m : List Nat} (h : Same env env' (l ++ m)) : Same env env' m := fun t ht => h t (by simp [ht])
theorem ev_c {x : Opd} (h : Same env env' x.slot) : env.ev x = env'.ev x := by
  cases x with
  | tmp t => exact h t (by simp [Opd.slot])
  | cst d => rfl
theorem evL_c : ∀ {xs : List Opd}, Same env env' (slotsL xs) → env.evL xs = env'.evL xs
  | [], _ => rfl
  | x :: xs, h => by simp only [Env.evL, slotsL] at h ⊢; rw [ev_c h.left, evL_c h.right]
theorem evO_c {x : Option Opd} (h : Same env env' (slotsO x)) : env.evO x = env'.evO x := by
  cases x with
  | none => rfl
  | some x => simp only [Env.evO, slotsO] at h ⊢; rw [ev_c h]
theorem fill_c : ∀ {ps : List (Nat × Nat × Opd)} (cs : List D), Same env env' (slotsP3 ps) → fillV env cs ps = fillV env' cs ps
  | [], cs, _ => rfl
  | (off, size, x) :: ps, cs, h => by
    simp only [fillV, slotsP3] at h ⊢
    rw [ev_c h.left]
    split
    · exact fill_c _ h.right
    · rfl
theorem slotsP2_map (sz : Nat) : ∀ ps : List (Nat × Opd), slotsP3 (ps.map fun (i, x) => (i * sz, sz, x)) = slotsP2 ps
  | [] => rfl
  | (i, x) :: ps => by simp only [List.map_cons, slotsP3, slotsP2, slotsP2_map sz ps]
theorem evP_c {po : POp} (h : Same env env' po.slots) : evP env po = evP env' po := by
  cases po <;> simp only [POp.slots] at h <;> simp only [evP] <;> first
    | rw [ev_c h]
    | rw [ev_c h.left, ev_c h.right.left, ev_c h.right.right]
    | rw [ev_c h.left, ev_c h.right]
    | rw [fill_c _ h]
    | rw [ev_c h.left, evL_c h.right]
    | rw [ev_c h.left, evO_c h.right.left, evO_c h.right.right]
    | rw [evL_c h]
theorem evR_c {ro : ROp} {g : Look} (h : Same env env' ro.slots) : evR env g ro = evR env' g ro := by
  cases ro <;> simp only [ROp.slots] at h <;> simp only [evR] <;> first
    | rw [ev_c h.left, ev_c h.right]
    | rw [ev_c h]
theorem rdR_c {ro : ROp} (h : Same env env' ro.slots) : rdR env ro = rdR env' ro := by
  cases ro <;> simp only [ROp.slots] at h <;> simp only [rdR] <;> first
    | rw [ev_c h.left]
    | rw [ev_c h]
theorem evA_c {ao : AOp} (h : Same env env' ao.slots) : evA env ao = evA env' ao := by
  cases ao with
  | alloc z => rfl
  | box x => simp only [evA]; rw [ev_c h]
  | bslice sz len z ps => simp only [evA]; rw [fill_c _ (by rw [slotsP2_map]; exact h)]
  | mkslice sz b z l c => simp only [evA]; simp only [AOp.slots] at h; rw [ev_c h.left, ev_c h.right]
  | mkmap => rfl
theorem evW_c {g : Look} {n : Nat} {ad x : Opd} (h : Same env env' (ad.slot ++ x.slot)) : evW env g n ad x = evW env' g n ad x := by
  simp only [evW]; rw [ev_c h.left, ev_c h.right]
theorem evM_c {C : CallF} {s : Store} {mo : MOp} (h : Same env env' mo.slots) : evM C env s mo = evM C env' s mo := by
  cases mo with
  | call m f xs => simp only [evM]; simp only [MOp.slots] at h; rw [ev_c h.left, evL_c h.right]
  | append sz b s x => simp only [evM]; simp only [MOp.slots] at h; rw [ev_c h.left, ev_c h.right]
  | mapset ks m k v => simp only [evM]; simp only [MOp.slots] at h; rw [ev_c h.left, ev_c h.right.left, ev_c h.right.right]
theorem want_c {g : Option (Nat × Bool)} (h : Same env env' (guardSlot g)) : wantV env g = wantV env' g := by
  cases g with
  | none => rfl
  | some p =>
    obtain ⟨t, b⟩ := p
    simp only [wantV]
    rw [h t (by simp [guardSlot])]
end

/-- What is read hangs on one object. -/
theorem evR_look {env : Env} {ro : ROp} {g g' : Look} (h : ∀ id, rdR env ro = some id → g id = g' id) : evR env g ro = evR env g' ro := by
  cases ro with
  | load n x =>
    simp only [evR, rdR] at h ⊢
    split
    · rename_i id off hx
      rw [hx] at h
      rw [h id rfl]
    · rfl
    · rfl
  | lookup ks z ok m k =>
    simp only [evR, rdR] at h ⊢
    split
    · rename_i id hx
      rw [hx] at h
      rw [h id rfl]
    · rfl
  | b2s x =>
    simp only [evR, rdR] at h ⊢
    have : rowOf g (env.ev x) = rowOf g' (env.ev x) := by
      generalize env.ev x = d at h ⊢
      cases d <;> simp only [rowOf]
      rw [h _ rfl]
    rw [this]

theorem evW_look {env : Env} {n : Nat} {ad x : Opd} {g g' : Look} (h : ∀ id, rdW env ad = some id → g id = g' id) : evW env g n ad x = evW env g' n ad x := by
  simp only [evW, rdW] at h ⊢
  split
  · rename_i id off hx
    rw [hx] at h
    rw [h id rfl]
  · rfl

/-! The checks. -/
def isP : VOp → Bool | .p _ => true | _ => false
def isR : VOp → Bool | .r _ => true | _ => false
def isA : VOp → Bool | .a _ => true | _ => false
def isW : VOp → Bool | .w _ _ _ => true | _ => false
def isM : VOp → Bool | .m _ => true | _ => false

def memOk (pairs : List (Nat × Nat)) (i j : Nat) (x y : VOp) : Bool :=
  isP x || isP y || (isR x && isR y) || (isA y) || (!(isM x && isM y) && !(isM x && isW y) && !(isW x && isM y) && !(isA x && isM y) && pairs.contains (i, j))
def apartDst (d : Option Nat) (l : List Nat) : Bool :=
  match d with
  | some t => !l.contains t
  | none => true
def slotsApart (x y : VOper) : Bool :=
  apartDst x.dst y.looks && apartDst y.dst x.looks && (match x.dst, y.dst with | some t, some u => t != u | _, _ => true)
def maskOf (acc : List Nat) : List Edge → Nat
  | [] => 0
  | e :: es => (if Region.binds .any e then 2 ^ e.on ||| acc.getD e.on 0 else 0) ||| maskOf acc es
def masks : List Oper → List Nat → List Nat
  | [], acc => acc
  | o :: r, acc => masks r (acc ++ [maskOf acc o.after.toList])
def pairOk (ms : List Nat) (pairs : List (Nat × Nat)) (x y : Nat × VOper) : Bool :=
  !(ms.getD x.1 0).testBit y.1 && ((ms.getD y.1 0).testBit x.1 || (slotsApart x.2 y.2 && memOk pairs x.1 y.1 x.2.op y.2.op))
def allPairs (f : Nat × VOper → Nat × VOper → Bool) : List (Nat × VOper) → Bool
  | [] => true
  | x :: r => r.all (f x) && allPairs f r
def edgesBack : List Oper → Nat → Bool
  | [], _ => true
  | o :: r, i => o.after.toList.all (fun e => !Region.binds .any e || decide (e.on < i)) && edgesBack r (i + 1)
def regionOk (ops : Array Oper) (l : List (Nat × VOper)) (pairs : List (Nat × Nat)) : Bool :=
  decide (l.map (·.1)).Nodup && decide (l.length = ops.size) && l.all (fun x => decide (x.1 < ops.size)) && edgesBack ops.toList 0 && (List.range ops.size).all (fun i => (l.map (·.1)).contains i) && allPairs (pairOk (masks ops.toList []) pairs) l

/-! What has been done is shut under what must come first. -/
def On (L : Array Bool) (i : Nat) : Prop := L.getD i false = true
def Shut (ops : Array Oper) (L : Array Bool) : Prop := ∀ (j : Nat) (o : Oper), ops[j]? = some o → On L j → ∀ e ∈ o.after.toList, Region.binds .any e = true → On L e.on

theorem mask_mem {acc : List Nat} : ∀ {es : List Edge} {i : Nat}, (maskOf acc es).testBit i = true → ∃ e ∈ es, Region.binds .any e = true ∧ (e.on = i ∨ (acc.getD e.on 0).testBit i = true)
  | [], i, h => by simp [maskOf] at h
  | e :: es, i, h => by
    simp only [maskOf, Nat.testBit_or, Bool.or_eq_true] at h
    rcases h with h | h
    · split at h
      · rename_i hb
        simp only [Nat.testBit_or, Bool.or_eq_true] at h
        rcases h with h | h
        · refine ⟨e, by simp, hb, .inl ?_⟩
          by_cases he : e.on = i
          · exact he
          · rw [Nat.testBit_two_pow_of_ne he] at h; cases h
        · exact ⟨e, by simp, hb, .inr h⟩
      · simp at h
    · obtain ⟨e', h1, h2, h3⟩ := mask_mem h
      exact ⟨e', by simp [h1], h2, h3⟩

theorem masks_get : ∀ (l : List Oper) (acc : List Nat), ∃ ms, masks l acc = acc ++ ms ∧ ms.length = l.length ∧ ∀ (j : Nat) (o : Oper), l[j]? = some o → ms[j]? = some (maskOf (acc ++ ms.take j) o.after.toList)
  | [], acc => ⟨[], by simp [masks], rfl, by simp⟩
  | o :: l, acc => by
    obtain ⟨ms, h1, h2, h3⟩ := masks_get l (acc ++ [maskOf acc o.after.toList])
    refine ⟨maskOf acc o.after.toList :: ms, by simp [masks, h1], by simp [h2], ?_⟩
    intro j o' hj
    cases j with
    | zero => simp at hj; subst hj; simp
    | succ j =>
      simp at hj
      have := h3 j o' hj
      simpa using this

theorem edgesBack_get : ∀ {l : List Oper} {i : Nat}, edgesBack l i = true → ∀ (j : Nat) (o : Oper), l[j]? = some o → ∀ e ∈ o.after.toList, Region.binds .any e = true → e.on < i + j
  | [], i, _, j, o, h => by simp at h
  | o :: l, i, hb, j, o', hj => by
    simp only [edgesBack, Bool.and_eq_true, List.all_eq_true] at hb
    intro e he hbe
    cases j with
    | zero =>
      simp at hj; subst hj
      have := hb.1 e he
      simp [hbe] at this
      omega
    | succ j =>
      have := edgesBack_get hb.2 j o' (by simpa using hj) e he hbe
      omega

theorem shut_mask {ops : Array Oper} {L : Array Bool} (hb : edgesBack ops.toList 0 = true) (hs : Shut ops L) : ∀ (j : Nat) (o : Oper), ops[j]? = some o → (∀ e ∈ o.after.toList, Region.binds .any e = true → On L e.on) →
    ∀ i, ((masks ops.toList []).getD j 0).testBit i = true → On L i := by
  obtain ⟨ms, h1, h2, h3⟩ := masks_get ops.toList []
  simp only [List.nil_append] at h1
  intro j
  induction j using Nat.strongRecOn with
  | _ j ih =>
    intro o ho hpre i hi
    have hm := h3 j o (by simpa using ho)
    rw [h1] at hi
    simp only [List.nil_append] at hm
    rw [List.getD_eq_getElem?_getD, hm, Option.getD_some] at hi
    obtain ⟨e, he, hbe, hcase⟩ := mask_mem hi
    have hon := hpre e he hbe
    rcases hcase with rfl | hbit
    · exact hon
    · have hlt : e.on < j := by
        have := edgesBack_get hb j o (by simpa using ho) e he hbe
        omega
      rw [List.getD_eq_getElem?_getD, List.getElem?_take_of_lt hlt, ← List.getD_eq_getElem?_getD] at hbit
      have hjs : j < ops.size := (Array.getElem?_eq_some_iff.1 ho).1
      have hoe : ops[e.on]? = some ops[e.on] := by simp
      refine ih e.on hlt _ hoe (hs e.on _ hoe hon) i ?_
      rw [h1]
      exact hbit

/-! The run in its one order, written down. -/
structure Rec where
  i : Nat
  o : VOper
  env : Env
  s : Store
  d : D
  s' : Store
  rd : Option Nat

def Rec.ok (C : CallF) (r : Rec) : Prop :=
  (wantV r.env r.o.guard = some false ∧ r.d = .tup [] ∧ r.s' = r.s ∧ r.rd = none) ∨
  (wantV r.env r.o.guard = some true ∧ runOp C r.env r.s r.o.op = some (r.d, r.s') ∧ r.rd = rdOf r.env r.o.op)

def TraceOk (C : CallF) : Env → Store → List Rec → Env → Store → Prop
  | env, s, [], env', s' => env' = env ∧ s' = s
  | env, s, r :: rs, env', s' => r.env = env ∧ r.s = s ∧ r.ok C ∧ TraceOk C (r.env.put r.o.dst r.d) r.s' rs env' s'

def Still (pairs : List (Nat × Nat)) (p q : Rec) : Prop := pairs.contains (p.i, q.i) = true → stable q.s q.s' p.rd = true ∧ stable p.s p.s' q.rd = true

theorem stable_self (s : Store) (rd : Option Nat) : stable s s rd = true := by
  cases rd with
  | none => rfl
  | some id => exact beqO_self _

theorem pairsOk_mem {pairs : List (Nat × Nat)} {j : Tr} : ∀ {l : List Tr}, pairsOk pairs j l = true → ∀ i ∈ l, pairs.contains (i.idx, j.idx) = true → stable j.pre j.post i.rd = true ∧ stable i.pre i.post j.rd = true
  | [], _, i, hi => by simp at hi
  | t :: l, h, i, hi => by
    simp only [pairsOk, Bool.and_eq_true] at h
    rcases List.mem_cons.1 hi with rfl | hi
    · intro hp
      have := h.1
      rw [hp] at this
      simpa using this
    · exact pairsOk_mem h.2 i hi

theorem trace_of {C : CallF} {pairs : List (Nat × Nat)} (hne : pairs.isEmpty = false) : ∀ {l : List (Nat × VOper)} {tr : List Tr} {env env' : Env} {s s' : Store}, runOps C pairs l tr env s = some (env', s') →
    ∃ rs : List Rec, rs.map (fun r => (r.i, r.o)) = l ∧ TraceOk C env s rs env' s' ∧ rs.Pairwise (Still pairs) ∧
      ∀ t ∈ tr, ∀ r ∈ rs, pairs.contains (t.idx, r.i) = true → stable r.s r.s' t.rd = true ∧ stable t.pre t.post r.rd = true
  | [], tr, env, env', s, s', h => by
    simp [runOps] at h
    exact ⟨[], rfl, ⟨h.1.symm, h.2.symm⟩, .nil, by simp⟩
  | (i, o) :: l, tr, env, env', s, s', h => by
    simp only [runOps] at h
    split at h
    · simp at h
    · rename_i hw
      obtain ⟨rs, h1, h2, h3, h4⟩ := trace_of hne h
      refine ⟨⟨i, o, env, s, .tup [], s, none⟩ :: rs, by simp [h1], ⟨rfl, rfl, .inl ⟨hw, rfl, rfl, rfl⟩, h2⟩, ?_, ?_⟩
      · refine List.pairwise_cons.2 ⟨?_, h3⟩
        intro q _ _
        exact ⟨rfl, stable_self _ _⟩
      · intro t ht r hr hp
        rcases List.mem_cons.1 hr with rfl | hr
        · exact ⟨stable_self _ _, rfl⟩
        · exact h4 t ht r hr hp
    · rename_i hw
      split at h
      · simp at h
      · rename_i d1 s1 h1
        split at h
        · rename_i hpk
          simp only [hne, Bool.false_eq_true, if_false] at h
          obtain ⟨rs, g1, g2, g3, g4⟩ := trace_of hne h
          refine ⟨⟨i, o, env, s, d1, s1, rdOf env o.op⟩ :: rs, by simp [g1], ⟨rfl, rfl, .inr ⟨hw, h1, rfl⟩, g2⟩, ?_, ?_⟩
          · refine List.pairwise_cons.2 ⟨?_, g3⟩
            intro q hq hp
            exact g4 ⟨i, rdOf env o.op, s, s1⟩ (by simp) q hq hp
          · intro t ht r hr hp
            rcases List.mem_cons.1 hr with rfl | hr
            · exact pairsOk_mem hpk t ht hp
            · exact g4 t (by simp [ht]) r hr hp
        · simp at h

theorem trace_of_empty {C : CallF} {pairs : List (Nat × Nat)} (hne : pairs.isEmpty = true) : ∀ {l : List (Nat × VOper)} {tr : List Tr} {env env' : Env} {s s' : Store}, runOps C pairs l tr env s = some (env', s') →
    ∃ rs : List Rec, rs.map (fun r => (r.i, r.o)) = l ∧ TraceOk C env s rs env' s' ∧ rs.Pairwise (Still pairs)
  | [], tr, env, env', s, s', h => by
    simp [runOps] at h
    exact ⟨[], rfl, ⟨h.1.symm, h.2.symm⟩, .nil⟩
  | (i, o) :: l, tr, env, env', s, s', h => by
    have hst : ∀ p q, Still pairs p q := by
      intro p q hp
      have : pairs = [] := by simpa using hne
      rw [this] at hp
      simp at hp
    simp only [runOps] at h
    split at h
    · simp at h
    · rename_i hw
      obtain ⟨rs, h1, h2, h3⟩ := trace_of_empty hne h
      exact ⟨⟨i, o, env, s, .tup [], s, none⟩ :: rs, by simp [h1], ⟨rfl, rfl, .inl ⟨hw, rfl, rfl, rfl⟩, h2⟩, List.pairwise_cons.2 ⟨fun q _ => hst _ q, h3⟩⟩
    · rename_i hw
      split at h
      · simp at h
      · rename_i d1 s1 h1
        split at h
        · obtain ⟨rs, g1, g2, g3⟩ := trace_of_empty hne h
          exact ⟨⟨i, o, env, s, d1, s1, rdOf env o.op⟩ :: rs, by simp [g1], ⟨rfl, rfl, .inr ⟨hw, h1, rfl⟩, g2⟩, List.pairwise_cons.2 ⟨fun q _ => hst _ q, g3⟩⟩
        · simp at h

/-! Where some have been done and others not. -/
section
open Classical
variable {V : Type}
noncomputable def cur (pre post : Rec → V) (L : Array Bool) : V → List Rec → V
  | v, [] => v
  | v, r :: rs => cur pre post L (if On L r.i ∧ pre r ≠ post r then post r else v) rs

def ChainV (pre post : Rec → V) : V → List Rec → V → Prop
  | v, [], v' => v' = v
  | v, r :: rs, v' => pre r = v ∧ ChainV pre post (post r) rs v'

theorem cur_rest {pre post : Rec → V} {L : Array Bool} : ∀ {rs : List Rec} (v : V), (∀ q ∈ rs, On L q.i → pre q = post q) → cur pre post L v rs = v
  | [], v, _ => rfl
  | r :: rs, v, h => by
    simp only [cur]
    have : ¬ (On L r.i ∧ pre r ≠ post r) := fun ⟨h1, h2⟩ => h2 (h r (by simp) h1)
    rw [if_neg this]
    exact cur_rest v fun q hq => h q (by simp [hq])

theorem cur_agree {pre post : Rec → V} {L : Array Bool} {r : Rec} {B : List Rec} {v' : V} : ∀ {A : List Rec} {v : V}, ChainV pre post v (A ++ r :: B) v' → (∀ q ∈ A, ¬ On L q.i → pre q = post q) → (¬ On L r.i ∨ pre r = post r) → (∀ q ∈ B, On L q.i → pre q = post q) →
    cur pre post L v (A ++ r :: B) = pre r
  | [], v, hc, _, hr, hB => by
    simp only [List.nil_append, ChainV] at hc
    simp only [List.nil_append, cur]
    have : ¬ (On L r.i ∧ pre r ≠ post r) := by
      rintro ⟨h1, h2⟩
      rcases hr with h | h
      · exact h h1
      · exact h2 h
    rw [if_neg this, cur_rest _ hB]
    exact hc.1.symm
  | q :: A, v, hc, hA, hr, hB => by
    simp only [List.cons_append, ChainV] at hc
    simp only [List.cons_append, cur]
    have hq : (if On L q.i ∧ pre q ≠ post q then post q else v) = post q := by
      by_cases h1 : On L q.i
      · by_cases h2 : pre q = post q
        · rw [if_neg (by simp [h2]), ← hc.1]; exact h2
        · rw [if_pos ⟨h1, h2⟩]
      · rw [if_neg (by simp [h1]), ← hc.1]; exact hA q (by simp) h1
    rw [hq]
    exact cur_agree hc.2 (fun p hp => hA p (by simp [hp])) hr hB

theorem cur_post {pre post : Rec → V} {L : Array Bool} {r : Rec} {B : List Rec} {v' : V} : ∀ {A : List Rec} {v : V}, ChainV pre post v (A ++ r :: B) v' → (∀ q ∈ A, ¬ On L q.i → pre q = post q) → On L r.i → (∀ q ∈ B, On L q.i → pre q = post q) →
    cur pre post L v (A ++ r :: B) = post r
  | [], v, hc, _, hr, hB => by
    simp only [List.nil_append, ChainV] at hc
    simp only [List.nil_append, cur]
    by_cases h2 : pre r = post r
    · rw [if_neg (by simp [h2]), cur_rest _ hB, ← hc.1]; exact h2
    · rw [if_pos ⟨hr, h2⟩, cur_rest _ hB]
  | q :: A, v, hc, hA, hr, hB => by
    simp only [List.cons_append, ChainV] at hc
    simp only [List.cons_append, cur]
    have hq : (if On L q.i ∧ pre q ≠ post q then post q else v) = post q := by
      by_cases h1 : On L q.i
      · by_cases h2 : pre q = post q
        · rw [if_neg (by simp [h2]), ← hc.1]; exact h2
        · rw [if_pos ⟨h1, h2⟩]
      · rw [if_neg (by simp [h1]), ← hc.1]; exact hA q (by simp) h1
    rw [hq]
    exact cur_post hc.2 (fun p hp => hA p (by simp [hp])) hr hB

/-- Another list of what has been done, alike but for one that turns nothing here. -/
theorem cur_same {pre post : Rec → V} {L L' : Array Bool} : ∀ {rs : List Rec} (v : V), (∀ q ∈ rs, (On L' q.i ↔ On L q.i) ∨ pre q = post q) → cur pre post L' v rs = cur pre post L v rs
  | [], v, _ => rfl
  | r :: rs, v, h => by
    simp only [cur]
    have : (if On L' r.i ∧ pre r ≠ post r then post r else v) = (if On L r.i ∧ pre r ≠ post r then post r else v) := by
      rcases h r (by simp) with h1 | h1
      · simp [h1]
      · simp [h1]
    rw [this]
    exact cur_same _ fun q hq => h q (by simp [hq])

theorem cur_all {pre post : Rec → V} {L : Array Bool} {v' : V} : ∀ {rs : List Rec} {v : V}, ChainV pre post v rs v' → (∀ q ∈ rs, On L q.i) → cur pre post L v rs = v'
  | [], v, hc, _ => by simp only [ChainV] at hc; simp only [cur]; exact hc.symm
  | r :: rs, v, hc, h => by
    simp only [ChainV] at hc
    simp only [cur]
    have : (if On L r.i ∧ pre r ≠ post r then post r else v) = post r := by
      by_cases h2 : pre r = post r
      · rw [if_neg (by simp [h2]), ← hc.1]; exact h2
      · rw [if_pos ⟨h r (by simp), h2⟩]
    rw [this]
    exact cur_all hc.2 fun q hq => h q (by simp [hq])

theorem cur_none {pre post : Rec → V} {L : Array Bool} {rs : List Rec} (v : V) (h : ∀ q ∈ rs, ¬ On L q.i) : cur pre post L v rs = v := cur_rest v fun q hq h1 => absurd h1 (h q hq)
end
end Go.V
