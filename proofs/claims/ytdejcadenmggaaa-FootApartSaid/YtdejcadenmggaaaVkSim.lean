/- The V machine: its store beside the model's memory. -/
import Derived.Test.YtdejcadenmggaaaVkRel
namespace Go.V

def RKV (μ : Mu) (Φ : Phi) : List (D × D) → List MapEntry → Prop
  | [], es => es = []
  | (k, v) :: r, es => ∃ e l, es = e :: l ∧ R μ Φ k e.key ∧ R μ Φ v e.val ∧ RKV μ Φ r l

theorem RKV_mono {μ μ' : Mu} {Φ Φ' : Phi} (hm : μ.le μ') (h : Φ.le Φ') : ∀ (ds : List (D × D)) (es : List MapEntry), RKV μ Φ ds es → RKV μ' Φ' ds es
  | [], _, e => by simpa only [RKV] using e
  | (k, v) :: r, es, e => by
    simp only [RKV] at e ⊢
    obtain ⟨x, l, e1, e2, e3, e4⟩ := e
    exact ⟨x, l, e1, R_mono hm h k _ e2, R_mono hm h v _ e3, RKV_mono hm h r l e4⟩

def ObjAt (μ : Mu) (Φ : Phi) (w : World) (b o z : Nat) : VObj → Prop
  | .cells cs => ∃ (a : Array Value) (e : TypeId) (vs tail : List Value), w.heap[b]? = some (.cells a e (0, 0)) ∧ a.size = z ∧ a.toList.drop o = vs ++ tail ∧ RL μ Φ cs vs ∧ cs.all oneCell = true
  | .map kvs => ∃ es clock, w.heap[b]? = some (.map es clock) ∧ RKV μ Φ kvs es.toList

structure Sim (μ : Mu) (Φ : Phi) (g : Look) (w : World) : Prop where
  phi : ∀ b ob, Φ b = some ob → w.heap[b]? = some ob
  obj : ∀ id ob, g id = some ob → ∃ b o z, μ id = some (b, o, z) ∧ ObjAt μ Φ w b o z ob ∧ Φ b = none
  inj : ∀ id id' b o z o' z', g id ≠ none → g id' ≠ none → μ id = some (b, o, z) → μ id' = some (b, o', z') → id = id'

def Owned (μ : Mu) (g : Look) (b : Nat) : Prop := ∃ id o z, g id ≠ none ∧ μ id = some (b, o, z)

structure Evo (μ : Mu) (Φ : Phi) (g : Look) (w : World) (μ' : Mu) (Φ' : Phi) (g' : Look) (w' : World) (n0 n1 : Nat) : Prop where
  mu : μ.le μ'
  muOut : ∀ id, id < n0 ∨ n1 ≤ id → μ' id = μ id
  phi : Φ.le Φ'
  os : w'.os = w.os
  tape : w'.tape = w.tape
  output : w'.output = w.output
  size : w.heap.size ≤ w'.heap.size
  keep : ∀ b, b < w.heap.size → ¬ Owned μ g b → w'.heap[b]? = w.heap[b]?
  phiNew : ∀ b ob, Φ' b = some ob → Φ b = some ob ∨ w.heap.size ≤ b
  ownNew : ∀ b, Owned μ' g' b → Owned μ g b ∨ w.heap.size ≤ b

theorem Evo.refl (μ : Mu) (Φ : Phi) (g : Look) (w : World) (n : Nat) : Evo μ Φ g w μ Φ g w n n :=
  ⟨Mu.le_refl _, fun _ _ => rfl, Phi.le_refl _, rfl, rfl, rfl, Nat.le_refl _, fun _ _ _ => rfl, fun _ _ h => .inl h, fun _ h => .inl h⟩

theorem Evo.trans {μ μ1 μ2 : Mu} {Φ Φ1 Φ2 : Phi} {g g1 g2 : Look} {w w1 w2 : World} {n0 n1 n2 : Nat} (h01 : n0 ≤ n1) (h12 : n1 ≤ n2)
    (h : Evo μ Φ g w μ1 Φ1 g1 w1 n0 n1) (k : Evo μ1 Φ1 g1 w1 μ2 Φ2 g2 w2 n1 n2) : Evo μ Φ g w μ2 Φ2 g2 w2 n0 n2 where
  mu := Mu.le_trans h.mu k.mu
  muOut id hid := by rw [k.muOut id (by omega), h.muOut id (by omega)]
  phi := Phi.le_trans h.phi k.phi
  os := k.os.trans h.os
  tape := k.tape.trans h.tape
  output := k.output.trans h.output
  size := Nat.le_trans h.size k.size
  keep b hb hn := by
    rw [k.keep b (Nat.lt_of_lt_of_le hb h.size) (fun ho => by rcases h.ownNew b ho with h1 | h1; exact hn h1; omega), h.keep b hb hn]
  phiNew b ob hb := by
    rcases k.phiNew b ob hb with h1 | h1
    · exact h.phiNew b ob h1
    · exact .inr (Nat.le_trans h.size h1)
  ownNew b hb := by
    rcases k.ownNew b hb with h1 | h1
    · exact h.ownNew b h1
    · exact .inr (Nat.le_trans h.size h1)

/-- A range may be given wider. -/
theorem Evo.widen {μ μ1 : Mu} {Φ Φ1 : Phi} {g g1 : Look} {w w1 : World} {n0 n1 m0 m1 : Nat} (h0 : m0 ≤ n0) (h1 : n1 ≤ m1)
    (h : Evo μ Φ g w μ1 Φ1 g1 w1 n0 n1) : Evo μ Φ g w μ1 Φ1 g1 w1 m0 m1 :=
  { h with muOut := fun id hid => h.muOut id (by omega) }

def upd (g : Look) (id : Nat) (o : Option VObj) : Look := fun i => if i = id then o else g i
def updMu (μ : Mu) (id : Nat) (l : Nat × Nat × Nat) : Mu := fun i => if i = id then some l else μ i

theorem updMu_le {μ : Mu} {id : Nat} {l : Nat × Nat × Nat} (h : μ id = none) : μ.le (updMu μ id l) := by
  intro i x hx
  unfold updMu
  by_cases e : i = id
  · subst e; rw [h] at hx; cases hx
  · rw [if_neg e]; exact hx

theorem ObjAt_mono {μ μ' : Mu} {Φ Φ' : Phi} {w : World} {b o z : Nat} {ob : VObj} (hm : μ.le μ') (h : Φ.le Φ') (e : ObjAt μ Φ w b o z ob) : ObjAt μ' Φ' w b o z ob := by
  cases ob with
  | cells cs =>
    obtain ⟨a, t, vs, tail, e1, e2, e3, e4⟩ := e
    exact ⟨a, t, vs, tail, e1, e2, e3, RL_mono hm h _ _ e4.1, e4.2⟩
  | map kvs =>
    obtain ⟨es, clock, e1, e2⟩ := e
    exact ⟨es, clock, e1, RKV_mono hm h _ _ e2⟩

theorem ObjAt_world {μ : Mu} {Φ : Phi} {w w' : World} {b o z : Nat} {ob : VObj} (hw : w'.heap[b]? = w.heap[b]?) (e : ObjAt μ Φ w b o z ob) : ObjAt μ Φ w' b o z ob := by
  cases ob with
  | cells cs =>
    obtain ⟨a, t, vs, tail, e1, e2⟩ := e
    exact ⟨a, t, vs, tail, by rw [hw]; exact e1, e2⟩
  | map kvs =>
    obtain ⟨es, clock, e1, e2⟩ := e
    exact ⟨es, clock, by rw [hw]; exact e1, e2⟩

theorem ObjAt.lt {μ : Mu} {Φ : Phi} {w : World} {b o z : Nat} {ob : VObj} (e : ObjAt μ Φ w b o z ob) : b < w.heap.size := by
  cases ob with
  | cells cs =>
    obtain ⟨a, t, vs, tail, e1, _⟩ := e
    exact (Array.getElem?_eq_some_iff.1 e1).1
  | map kvs =>
    obtain ⟨es, clock, e1, _⟩ := e
    exact (Array.getElem?_eq_some_iff.1 e1).1

section
variable {μ : Mu} {Φ : Phi} {g : Look} {w : World}

theorem Sim.owned_lt (h : Sim μ Φ g w) {b : Nat} (ho : Owned μ g b) : b < w.heap.size := by
  obtain ⟨id, o, z, h1, h2⟩ := ho
  cases hg : g id with
  | none => exact absurd hg h1
  | some ob =>
    obtain ⟨b', o', z', e1, e2, _⟩ := h.obj id ob hg
    rw [h2] at e1
    cases e1
    exact e2.lt

theorem Sim.phi_lt (h : Sim μ Φ g w) {b : Nat} {ob : Obj} (ho : Φ b = some ob) : b < w.heap.size :=
  (Array.getElem?_eq_some_iff.1 (h.phi b ob ho)).1

/-- Fewer objects. -/
theorem Sim.fewer (h : Sim μ Φ g w) {g' : Look} (hg : ∀ id ob, g' id = some ob → g id = some ob) : Sim μ Φ g' w := by
  have hne : ∀ id, g' id ≠ none → g id ≠ none := by
    intro id h1 h2
    cases hx : g' id with
    | none => exact h1 hx
    | some ob => rw [hg id ob hx] at h2; cases h2
  exact ⟨h.phi, fun id ob e => h.obj id ob (hg id ob e), fun id id' b o z o' z' h1 h2 => h.inj id id' b o z o' z' (hne id h1) (hne id' h2)⟩

/-- Another world with the same blocks where it matters. -/
theorem Sim.world (h : Sim μ Φ g w) {w' : World} (hp : ∀ b ob, Φ b = some ob → w'.heap[b]? = w.heap[b]?) (ho : ∀ b, Owned μ g b → w'.heap[b]? = w.heap[b]?) : Sim μ Φ g w' where
  phi b ob e := by rw [hp b ob e]; exact h.phi b ob e
  obj id ob e := by
    obtain ⟨b, o, z, e1, e2, e3⟩ := h.obj id ob e
    exact ⟨b, o, z, e1, ObjAt_world (ho b ⟨id, o, z, by rw [e]; simp, e1⟩) e2, e3⟩
  inj := h.inj

/-- A draw changes nothing. -/
theorem Sim.drew (h : Sim μ Φ g w) (n : Nat) : Sim μ Φ g { w with drawn := n } := h.world (fun _ _ _ => rfl) (fun _ _ => rfl)

theorem Sim.congr (h : Sim μ Φ g w) {g' : Look} (e : ∀ i, g' i = g i) : Sim μ Φ g' w := by
  have : g' = g := funext e
  rw [this]; exact h

/-- A location of what isn't there may be forgotten or told. -/
theorem Sim.mu (h : Sim μ Φ g w) {μ' : Mu} (hm : μ.le μ') : Sim μ' Φ g w where
  phi := h.phi
  obj id ob e := by
    obtain ⟨b, o, z, e1, e2, e3⟩ := h.obj id ob e
    exact ⟨b, o, z, hm _ _ e1, ObjAt_mono hm (Phi.le_refl _) e2, e3⟩
  inj id id' b o z o' z' h1 h2 e1 e2 := by
    cases hg : g id with
    | none => exact absurd hg h1
    | some ob =>
      cases hg' : g id' with
      | none => exact absurd hg' h2
      | some ob' =>
        obtain ⟨b1, o1, z1, f1, _⟩ := h.obj id ob hg
        obtain ⟨b2, o2, z2, f2, _⟩ := h.obj id' ob' hg'
        have g1 := hm _ _ f1
        have g2 := hm _ _ f2
        rw [e1] at g1; rw [e2] at g2
        cases g1; cases g2
        exact h.inj id id' _ _ _ _ _ h1 h2 f1 f2

/-- A new object in a new block. -/
theorem Sim.push (h : Sim μ Φ g w) {id : Nat} (hid : μ id = none) (hg : g id = none) {ob : Obj} {vo : VObj} {z : Nat}
    (hob : ObjAt (updMu μ id (w.heap.size, 0, z)) Φ (w.alloc ob) w.heap.size 0 z vo) :
    Sim (updMu μ id (w.heap.size, 0, z)) Φ (upd g id (some vo)) (w.alloc ob) ∧
    Evo μ Φ g w (updMu μ id (w.heap.size, 0, z)) Φ (upd g id (some vo)) (w.alloc ob) id (id + 1) := by
  have hle := updMu_le (l := (w.heap.size, 0, z)) hid
  have hal : ∀ k, k < w.heap.size → (w.alloc ob).heap[k]? = w.heap[k]? := fun k hk => RowKit.Below.heap_alloc w ob k hk
  have hid2 : updMu μ id (w.heap.size, 0, z) id = some (w.heap.size, 0, z) := by simp [updMu]
  have hid3 : ∀ i, i ≠ id → updMu μ id (w.heap.size, 0, z) i = μ i := fun i hi => by simp [updMu, hi]
  have hg2 : ∀ i, i ≠ id → upd g id (some vo) i = g i := fun i hi => by simp [upd, hi]
  have hsz : w.heap.size ≤ (w.alloc ob).heap.size := by simp
  refine ⟨⟨?_, ?_, ?_⟩, ⟨hle, ?_, Phi.le_refl _, rfl, rfl, rfl, hsz, fun b hb _ => hal b hb, fun _ _ h => .inl h, ?_⟩⟩
  · intro b o e
    rw [hal b (h.phi_lt e)]
    exact h.phi b o e
  · intro i o e
    by_cases hi : i = id
    · subst hi
      simp only [upd, if_true] at e
      cases e
      refine ⟨_, _, _, hid2, hob, ?_⟩
      cases hp : Φ w.heap.size with
      | none => rfl
      | some x => have := h.phi_lt hp; omega
    · rw [hg2 i hi] at e
      obtain ⟨b, o2, z2, e1, e2, e3⟩ := h.obj i o e
      exact ⟨b, o2, z2, by rw [hid3 i hi]; exact e1, ObjAt_world (hal b e2.lt) (ObjAt_mono hle (Phi.le_refl _) e2), e3⟩
  · intro i i' b o1 z1 o2 z2 h1 h2 e1 e2
    by_cases hi : i = id
    · subst hi
      by_cases hi' : i' = i
      · exact hi'.symm
      · rw [hid2] at e1
        cases e1
        rw [hid3 i' hi'] at e2
        rw [hg2 i' hi'] at h2
        have := h.owned_lt ⟨i', _, _, h2, e2⟩
        omega
    · by_cases hi' : i' = id
      · subst hi'
        rw [hid2] at e2
        cases e2
        rw [hid3 i hi] at e1
        rw [hg2 i hi] at h1
        have := h.owned_lt ⟨i, _, _, h1, e1⟩
        omega
      · rw [hid3 i hi] at e1
        rw [hid3 i' hi'] at e2
        rw [hg2 i hi] at h1
        rw [hg2 i' hi'] at h2
        exact h.inj i i' _ _ _ _ _ h1 h2 e1 e2
  · intro i hi
    exact hid3 i (by omega)
  · rintro b ⟨i, o2, z2, h1, h2⟩
    by_cases hi : i = id
    · subst hi
      rw [hid2] at h2
      cases h2
      exact .inr (Nat.le_refl _)
    · rw [hid3 i hi] at h2
      rw [hg2 i hi] at h1
      exact .inl ⟨i, o2, z2, h1, h2⟩

/-- Only one block has turned. -/
structure SameBut (b : Nat) (w w' : World) : Prop where
  os : w'.os = w.os
  tape : w'.tape = w.tape
  output : w'.output = w.output
  size : w'.heap.size = w.heap.size
  block : ∀ k, k ≠ b → w'.heap[k]? = w.heap[k]?

theorem SameBut.refl (b : Nat) (w : World) : SameBut b w w := ⟨rfl, rfl, rfl, rfl, fun _ _ => rfl⟩
theorem SameBut.trans {b : Nat} {w w1 w2 : World} (h : SameBut b w w1) (k : SameBut b w1 w2) : SameBut b w w2 :=
  ⟨k.os.trans h.os, k.tape.trans h.tape, k.output.trans h.output, k.size.trans h.size, fun i hi => (k.block i hi).trans (h.block i hi)⟩

/-- An object is written. -/
theorem Sim.write (h : Sim μ Φ g w) {id b o z : Nat} {vo vo' : VObj} (hg : g id = some vo) (hid : μ id = some (b, o, z)) {w' : World} (hw : SameBut b w w')
    (hob : ObjAt μ Φ w' b o z vo') (n : Nat) : Sim μ Φ (upd g id (some vo')) w' ∧ Evo μ Φ g w μ Φ (upd g id (some vo')) w' n n := by
  have hown : Owned μ g b := ⟨id, o, z, by rw [hg]; simp, hid⟩
  have hpb : Φ b = none := by
    obtain ⟨b', o', z', e1, _, e3⟩ := h.obj id vo hg
    rw [hid] at e1
    cases e1
    exact e3
  refine ⟨⟨?_, ?_, ?_⟩, ⟨Mu.le_refl _, fun _ _ => rfl, Phi.le_refl _, hw.os, hw.tape, hw.output, by rw [hw.size]; exact Nat.le_refl _, ?_, fun _ _ h => .inl h, ?_⟩⟩
  · intro b' ob e
    rw [hw.block b' (fun e' => by subst e'; rw [hpb] at e; cases e)]
    exact h.phi b' ob e
  · intro i ob e
    by_cases hi : i = id
    · subst hi
      simp only [upd, if_true] at e
      cases e
      exact ⟨b, o, z, hid, hob, hpb⟩
    · simp only [upd, hi, if_false] at e
      obtain ⟨b', o', z', e1, e2, e3⟩ := h.obj i ob e
      refine ⟨b', o', z', e1, ObjAt_world (hw.block b' ?_) e2, e3⟩
      intro e'
      subst e'
      exact hi (h.inj i id _ _ _ _ _ (by rw [e]; simp) (by rw [hg]; simp) e1 hid)
  · intro i i' b1 o1 z1 o2 z2 h1 h2
    have f : ∀ j, upd g id (some vo') j ≠ none → g j ≠ none := by
      intro j hj
      by_cases hj' : j = id
      · subst hj'; rw [hg]; simp
      · simpa [upd, hj'] using hj
    exact h.inj i i' b1 o1 z1 o2 z2 (f i h1) (f i' h2)
  · intro b' _ hn
    exact hw.block b' (fun e => by subst e; exact hn hown)
  · rintro b' ⟨i, o2, z2, h1, h2⟩
    refine .inl ⟨i, o2, z2, ?_, h2⟩
    by_cases hj' : i = id
    · subst hj'; rw [hg]; simp
    · simpa [upd, hj'] using h1
end

/-! Cells: reading and writing. -/
theorem addr_add (b o n : Nat) : (⟨b, o, none⟩ : Addr).add n = ⟨b, o + n, none⟩ := by
  unfold Addr.add
  split
  · rename_i h; subst h; rfl
  · rfl

theorem cell_of_block {w : World} {b : Nat} {a : Array Value} {e : TypeId} {f : Nat × Nat} (h : w.heap[b]? = some (.cells a e f)) (o : Nat) : w.cell? ⟨b, o, none⟩ = a[o]? := by
  simp [World.cell?, h]

theorem Sim.cellP {μ : Mu} {Φ : Phi} {g : Look} {w : World} (h : Sim μ Φ g w) {b o : Nat} {u : Value} (e : Φ.cell b o = some u) : w.cell? ⟨b, o, none⟩ = some u := by
  unfold Phi.cell at e
  cases hb : Φ b with
  | none => simp [hb] at e
  | some ob =>
    rw [hb] at e
    cases ob with
    | cells c t f =>
      have := h.phi b _ hb
      rw [cell_of_block this]
      exact e
    | _ => simp at e

theorem ObjAt.cell {μ : Mu} {Φ : Phi} {w : World} {b o z : Nat} {cs : List D} (h : ObjAt μ Φ w b o z (.cells cs)) {j : Nat} {d : D} (hj : cs[j]? = some d) :
    ∃ u, w.cell? ⟨b, o + j, none⟩ = some u ∧ R μ Φ d u := by
  obtain ⟨a, e, vs, tail, h1, h2, h3, h4, _⟩ := h
  obtain ⟨u, hu, hr⟩ := RL_get h4 hj
  refine ⟨u, ?_, hr⟩
  rw [cell_of_block h1]
  have h5 : (a.toList.drop o)[j]? = some u := by
    rw [h3, List.getElem?_append_left (List.getElem?_eq_some_iff.1 hu).1]
    exact hu
  rw [List.getElem?_drop, Array.getElem?_toList] at h5
  exact h5

theorem run_loadCellsFrom (P : Program) (w : World) (b o : Nat) : ∀ (us : List Value) (i : Nat) (acc : Array Value),
    (∀ j u, us[j]? = some u → w.cell? ⟨b, o + i + j, none⟩ = some u) → (loadCellsFrom ⟨b, o, none⟩ i us.length acc).run P w = .ok (acc ++ us.toArray) w
  | [], i, acc, _ => by simp [loadCellsFrom]
  | u :: us, i, acc, h => by
    have h0 := h 0 u (by simp)
    simp only [Nat.add_zero] at h0
    have ih := run_loadCellsFrom P w b o us (i + 1) (acc.push u) (fun j x hx => by
      have := h (j + 1) x (by simpa using hx)
      rw [← this]
      congr 2
      omega)
    simp only [List.length_cons, loadCellsFrom, Sem.run_bind, run_load, addr_add, h0, Result.andThen_ok, ih]
    simp

theorem run_loadCells (P : Program) (w : World) (b o : Nat) (us : List Value) (h : ∀ j u, us[j]? = some u → w.cell? ⟨b, o + j, none⟩ = some u) :
    (loadCells ⟨b, o, none⟩ us.length).run P w = .ok us.toArray w := by
  have := run_loadCellsFrom P w b o us 0 #[] (by simpa using h)
  simpa [loadCells] using this

theorem frozen_of_block {w : World} {b : Nat} {a : Array Value} {e : TypeId} (h : w.heap[b]? = some (.cells a e (0, 0))) (o : Nat) : w.frozen? ⟨b, o, none⟩ = false := by
  simp [World.frozen?, h]

theorem setCell_block {w : World} {b : Nat} {a : Array Value} {e : TypeId} (h : w.heap[b]? = some (.cells a e (0, 0))) (o : Nat) (v : Value) :
    (w.setCell ⟨b, o, none⟩ v).heap[b]? = some (.cells (a.setIfInBounds o v) e (0, 0)) := by
  simp [World.setCell, Array.getElem?_modify, h]

theorem sameBut_setCell (w : World) (b o : Nat) (v : Value) : SameBut b w (w.setCell ⟨b, o, none⟩ v) :=
  ⟨rfl, rfl, rfl, by simp [World.setCell], fun k hk => RowKit.Below.heap_setCell _ _ _ _ hk⟩

def oneV : Value → Bool
  | .agg _ | .tuple _ => false
  | _ => true

theorem run_storeCells (P : Program) (b k : Nat) (e : TypeId) : ∀ (vs : List Value) (i : Nat) (w : World) (a : Array Value), w.heap[b]? = some (.cells a e (0, 0)) →
    (∀ v ∈ vs, oneV v = true) → k + i + vs.length ≤ a.size →
    ∃ w' a', (storeCells ⟨b, k, none⟩ vs i).run P w = .ok () w' ∧ SameBut b w w' ∧ w'.heap[b]? = some (.cells a' e (0, 0)) ∧ a'.size = a.size ∧
      a'.toList = a.toList.take (k + i) ++ vs ++ a.toList.drop (k + i + vs.length)
  | [], i, w, a, h, _, _ => ⟨w, a, by simp [storeCells], SameBut.refl _ _, h, rfl, by simp⟩
  | v :: vs, i, w, a, h, hv, hs => by
    have hone : v.oneCell' = true := by
      have := hv v (by simp)
      cases v <;> simp_all [oneV, Value.oneCell']
    simp only [List.length_cons] at hs
    have hlt : k + i < a.size := by omega
    have hc : w.cell? ⟨b, k + i, none⟩ = some a[k + i] := by
      rw [cell_of_block h]; simp [hlt]
    have hb1 := setCell_block h (k + i) v
    obtain ⟨w', a', r1, r2, r3, r4, r5⟩ := run_storeCells P b k e vs (i + 1) (w.setCell ⟨b, k + i, none⟩ v) _ hb1 (fun x hx => hv x (by simp [hx])) (by simp; omega)
    refine ⟨w', a', ?_, (sameBut_setCell w b (k + i) v).trans r2, r3, by simpa using r4, ?_⟩
    · simp only [storeCells, Sem.run_bind, addr_add, run_store P w _ v .plain hone, hc, frozen_of_block h, Bool.false_eq_true, if_false, Result.andThen_ok, r1]
    · rw [r5]
      simp only [Array.toList_setIfInBounds, List.length_cons]
      have e1 : k + (i + 1) = (k + i) + 1 := by omega
      rw [e1, List.take_succ_eq_append_getElem (by simp; omega)]
      have e2 : k + i + 1 + vs.length = k + i + (vs.length + 1) := by omega
      rw [e2, List.take_set_of_le (Nat.le_refl _), List.drop_set_of_lt (by omega)]
      simp
end Go.V
