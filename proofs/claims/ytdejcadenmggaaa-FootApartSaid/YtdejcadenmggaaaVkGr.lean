/- Stores and graphs, as the V machine holds them: no program in sight. -/
import Derived.Test.YtdejcadenmggaaaVkLem
namespace Go.V

theorem i64_id {n : Int} (h1 : -9223372036854775808 ≤ n) (h2 : n < 9223372036854775808) : IntKind.i64.wrap n = n := IntWalk.i64_in n ⟨by omega, by omega⟩

/-- All but these is as it was. -/
def Fr (ids : List Nat) (s s' : Store) : Prop := s.next ≤ s'.next ∧ ∀ i, i < s.next → i ∉ ids → s'.get i = s.get i
theorem Fr.refl (ids : List Nat) (s : Store) : Fr ids s s := ⟨Nat.le_refl _, fun _ _ _ => rfl⟩
theorem Fr.trans {ids : List Nat} {ids' : List Nat} {a b c : Store} (h : Fr ids a b) (k : Fr ids' b c) (hi : ∀ i ∈ ids', i ∈ ids ∨ a.next ≤ i) : Fr ids a c := by
  refine ⟨Nat.le_trans h.1 k.1, fun i hl hn => ?_⟩
  rw [k.2 i (Nat.lt_of_lt_of_le hl h.1) ?_, h.2 i hl hn]
  intro hc
  rcases hi i hc with h1 | h1
  · exact hn h1
  · omega
theorem Fr.push {ids : List Nat} {s : Store} (o : VObj) : Fr ids s (s.push o) := ⟨by rw [Store.next_push]; omega, fun i hl _ => by rw [Store.get_push, if_neg (by omega)]⟩
theorem Fr.set {ids : List Nat} {s : Store} {id : Nat} (o : Option VObj) (h : id ∈ ids) : Fr ids s (s.set id o) := ⟨by rw [Store.next_set]; omega, fun i hl hn => by
  rw [Store.get_set, if_neg]; rintro ⟨rfl, _⟩; exact hn h⟩

theorem Fr.thenPush {ids : List Nat} {a b : Store} (h : Fr ids a b) (o : VObj) : Fr ids a (b.push o) := h.trans (Fr.push (ids := []) o) (by simp)
theorem Fr.thenSet {ids : List Nat} {a b : Store} {id : Nat} (h : Fr ids a b) (o : Option VObj) (hi : id ∈ ids ∨ a.next ≤ id) : Fr ids a (b.set id o) :=
  h.trans (Fr.set (ids := [id]) o (by simp)) (by simpa using hi)
theorem Fr.weaken {ids ids' : List Nat} {a b : Store} (h : Fr ids a b) (hi : ∀ i ∈ ids, i ∈ ids') : Fr ids' a b := ⟨h.1, fun i hl hn => h.2 i hl fun hc => hn (hi i hc)⟩
theorem get_lts {s : Store} {i : Nat} {o : VObj} (h : s.get i = some o) : i < s.next := by
  unfold Store.get at h
  split at h
  · assumption
  · cases h

theorem get_push_old {s : Store} {o : VObj} {i : Nat} (h : i < s.next) : (s.push o).get i = s.get i := by rw [Store.get_push, if_neg (by omega)]
theorem get_push_new {s : Store} {o : VObj} {i : Nat} (h : i = s.next) : (s.push o).get i = some o := by rw [Store.get_push, if_pos h]
theorem get_set_ne {s : Store} {o : Option VObj} {i id : Nat} (h : i ≠ id) : (s.set id o).get i = s.get i := by rw [Store.get_set, if_neg (by rintro ⟨rfl, _⟩; exact h rfl)]
theorem get_set_eq {s : Store} {o : Option VObj} {i : Nat} (h : i < s.next) : (s.set i o).get i = o := by rw [Store.get_set, if_pos ⟨rfl, h⟩]

def cellsI (l : List Nat) : List D := l.map fun (n : Nat) => .int .i64 (n : Int)
def cellsB (l : List Bool) : List D := l.map fun b => .bool b
def cellsN : List (Nat × Nat) → List D
  | [] => []
  | p :: r => .int .i64 (p.1 : Int) :: .int .i64 (p.2 : Int) :: cellsN r
def kvs (l : List ((Nat × Nat) × Nat)) : List (D × D) := l.map fun x => (.agg [.int .i64 (x.1.1 : Int), .int .i64 (x.1.2 : Int)], .int .i64 (x.2 : Int))

@[simp] theorem cellsI_length (l : List Nat) : (cellsI l).length = l.length := by simp [cellsI]
@[simp] theorem cellsB_length (l : List Bool) : (cellsB l).length = l.length := by simp [cellsB]
@[simp] theorem cellsN_length : ∀ (l : List (Nat × Nat)), (cellsN l).length = l.length * 2
  | [] => rfl
  | p :: r => by simp only [cellsN, List.length_cons, cellsN_length r]; omega
theorem cellsN_append : ∀ (l m : List (Nat × Nat)), cellsN (l ++ m) = cellsN l ++ cellsN m
  | [], m => rfl
  | p :: r, m => by simp [cellsN, cellsN_append r m]
theorem cellsI_append (l m : List Nat) : cellsI (l ++ m) = cellsI l ++ cellsI m := by simp [cellsI]
theorem cellsB_append (l m : List Bool) : cellsB (l ++ m) = cellsB l ++ cellsB m := by simp [cellsB]
theorem cellsI_get {l : List Nat} {i : Nat} (h : i < l.length) : (cellsI l)[i]? = some (.int .i64 (l[i] : Int)) := by simp [cellsI, h]
theorem cellsB_get {l : List Bool} {i : Nat} (h : i < l.length) : (cellsB l)[i]? = some (.bool l[i]) := by simp [cellsB, h]
theorem cellsN_pull : ∀ {l : List (Nat × Nat)} {i : Nat} (h : i < l.length), pull (some 2) (i * 2) (cellsN l) = some (.agg [.int .i64 (l[i].1 : Int), .int .i64 (l[i].2 : Int)])
  | p :: r, 0, h => by
    simp only [pull, cellsN_length, List.length_cons]
    rw [if_pos (by omega)]
    simp [cellsN]
  | p :: r, i + 1, h => by
    have ih := cellsN_pull (l := r) (i := i) (by simpa using h)
    simp only [pull, cellsN_length, List.length_cons] at ih ⊢
    have h' : i < r.length := by simpa using h
    rw [if_pos (by omega)] at ih ⊢
    rw [show (i + 1) * 2 = i * 2 + 1 + 1 by omega]
    simpa [cellsN] using ih

/-! What a slice of one-celled things reads as. -/
def Rd (s : Store) (d : D) (l : List D) : Prop :=
  (d = .nils ∧ l = []) ∨ d = .lst 1 (l.map fun x => [x]) ∨ ∃ id off cs, d = .arr id off l.length 1 ∧ s.get id = some (.cells cs) ∧ off + l.length ≤ cs.length ∧ (cs.drop off).take l.length = l
theorem Rd.len {s : Store} {d : D} {l : List D} (h : Rd s d l) : lenV false d = some (.int .i64 (l.length : Int)) := by
  rcases h with ⟨rfl, rfl⟩ | rfl | ⟨id, off, cs, rfl, _⟩ <;> simp [lenV]
theorem Rd.one {s : Store} {d : D} {l : List D} (h : Rd s d l) : oneCell d = true := by
  rcases h with ⟨rfl, rfl⟩ | rfl | ⟨id, off, cs, rfl, _⟩ <;> rfl
theorem Rd.idx {s : Store} {d : D} {l : List D} (h : Rd s d l) (ho : l.all oneCell = true) {i : Nat} (hi : i < l.length) {k : IntKind} {z : Int} (hz : z = (i : Int)) : ∃ p, idxAV 1 d (.int k z) = some p ∧ ldV s.get none p = some l[i] := by
  subst hz
  have ho' : oneCell l[i] = true := by rw [List.all_eq_true] at ho; exact ho _ (List.getElem_mem hi)
  rcases h with ⟨rfl, rfl⟩ | rfl | ⟨id, off, cs, rfl, h1, h2, h3⟩
  · simp at hi
  · refine ⟨.fp [l[i]] 0, ?_, ?_⟩
    · simp [idxAV, hi]
    · simp [ldV, pull, ho']
  · refine ⟨.ptr id (off + i), ?_, ?_⟩
    · simp only [idxAV]
      rw [if_pos (by refine ⟨trivial, ?_, ?_⟩ <;> omega)]
      simp
    · simp only [ldV, h1, pull]
      have : cs[off + i]? = some l[i] := by
        have e : l[i]? = some l[i] := List.getElem?_eq_getElem hi
        rw [← e]
        conv => rhs; rw [← h3]
        rw [List.getElem?_take_of_lt hi, List.getElem?_drop]
      rw [this]
      simp [ho']
theorem Rd.row {s : Store} {d : D} {l : List D} (h : Rd s d l) : rowOf s.get d = some l ∧ srcLen d = some l.length ∧ srcSz 1 d = true := by
  rcases h with ⟨rfl, rfl⟩ | rfl | ⟨id, off, cs, rfl, h1, h2, h3⟩
  · simp [rowOf, srcLen, srcSz]
  · refine ⟨?_, by simp [srcLen], by simp [srcSz]⟩
    simp only [rowOf]
    congr 1
    induction l with
    | nil => rfl
    | cons a l ih => simp [ih]
  · refine ⟨?_, by simp [srcLen], by simp [srcSz]⟩
    simp only [rowOf, h1, Nat.mul_one]
    rw [if_pos h2, h3]
theorem Rd.arr {s : Store} {id : Nat} {l : List D} (h : s.get id = some (.cells l)) : Rd s (.arr id 0 l.length 1) l := .inr (.inr ⟨id, 0, l, rfl, h, by simp, by simp⟩)
theorem Rd.stay {s s' : Store} {d : D} {l : List D} (h : Rd s d l) (hs : ∀ id off len, d = .arr id off len 1 → s'.get id = s.get id) : Rd s' d l := by
  rcases h with h | h | ⟨id, off, cs, rfl, h1, h2, h3⟩
  · exact .inl h
  · exact .inr (.inl h)
  · exact .inr (.inr ⟨id, off, cs, rfl, by rw [hs id off _ rfl, h1], h2, h3⟩)
theorem all_cellsI (l : List Nat) : (cellsI l).all oneCell = true := by simp [cellsI, oneCell]
theorem all_cellsB (l : List Bool) : (cellsB l).all oneCell = true := by simp [cellsB, oneCell]

theorem Rd.lenI {s : Store} {d : D} {l : List Nat} (h : Rd s d (cellsI l)) : lenV false d = some (.int .i64 (l.length : Int)) := by rw [h.len, cellsI_length]
theorem Rd.lenB {s : Store} {d : D} {l : List Bool} (h : Rd s d (cellsB l)) : lenV false d = some (.int .i64 (l.length : Int)) := by rw [h.len, cellsB_length]
theorem Rd.idxI {s : Store} {d : D} {l : List Nat} (h : Rd s d (cellsI l)) {i : Nat} (hi : i < l.length) : ∃ p, idxAV 1 d (.int .i64 (i : Int)) = some p ∧ ldV s.get none p = some (.int .i64 (l[i] : Int)) := by
  obtain ⟨p, h1, h2⟩ := h.idx (all_cellsI l) (i := i) (by simpa using hi) (k := .i64) rfl
  exact ⟨p, h1, by rw [h2]; simp [cellsI]⟩
theorem Rd.idxB {s : Store} {d : D} {l : List Bool} (h : Rd s d (cellsB l)) {i : Nat} (hi : i < l.length) : ∃ p, idxAV 1 d (.int .i64 (i : Int)) = some p ∧ ldV s.get none p = some (.bool l[i]) := by
  obtain ⟨p, h1, h2⟩ := h.idx (all_cellsB l) (i := i) (by simpa using hi) (k := .i64) rfl
  exact ⟨p, h1, by rw [h2]; simp [cellsB]⟩
def scal1 : D → Bool
  | .int _ _ => true
  | .bool _ => true
  | .str _ => true
  | _ => false
theorem ice_scal {g : Look} {d : D} (h : scal1 d = true) : ∀ n, ice g (n + 1) d = some d := by
  intro n
  cases d <;> first | rfl | (simp [scal1] at h)
theorem scalarD_scal {d : D} (h : scal1 d = true) : scalarD d = true := by cases d <;> first | rfl | (simp [scal1] at h)
theorem mapO_ice {g : Look} {n : Nat} : ∀ {l : List D}, l.all scal1 = true → mapO (ice g (n + 1)) l = some l
  | [], _ => rfl
  | d :: r, h => by
    simp only [List.all_cons, Bool.and_eq_true] at h
    simp only [mapO, ice_scal h.1, mapO_ice h.2]
theorem chunk_one : ∀ (l : List D), chunk 1 l.length l = l.map fun x => [x]
  | [] => rfl
  | d :: r => by simp [chunk, chunk_one r]
theorem Rd.ice {s : Store} {d : D} {l : List D} (h : Rd s d l) (hl : l.all scal1 = true) : ∃ d', ice s.get 20 d = some d' ∧ Rd Store.empty d' l := by
  have hrow := h.row.1
  rcases h with ⟨rfl, rfl⟩ | rfl | ⟨id, off, cs, rfl, h1, h2, h3⟩
  · exact ⟨.nils, rfl, .inl ⟨rfl, rfl⟩⟩
  · exact ⟨_, rfl, .inr (.inl rfl)⟩
  · refine ⟨.lst 1 (l.map fun x => [x]), ?_, .inr (.inl rfl)⟩
    simp only [V.ice, hrow]
    rw [mapO_ice hl]
    simp only [Option.map_some, chunk_one]
theorem scal_cellsI (l : List Nat) : (cellsI l).all scal1 = true := by simp [cellsI, scal1]
theorem scal_cellsB (l : List Bool) : (cellsB l).all scal1 = true := by simp [cellsB, scal1]
theorem vq_isoL {fs : FuncId → Option VFunc} {pairs i t f args rest s Q} {env : Env} {l l' : List D} {r : D} {s1 : Store} (hr : Ev fs f l' Store.empty r s1) (hs : scal1 r = true) (hl : env.evL args = l) (ha : mapO (V.ice s.get 20) l = some l')
    (h : WQ fs pairs rest ((t, r) :: env) s Q) : WQ fs pairs ((i, ⟨some t, .m (.call .iso (.cst (.fn f [])) args), none⟩) :: rest) env s Q :=
  vq_iso' hl ha hr (ice_scal hs 19) (by rw [scalarD_scal hs]; rfl) h
theorem ev_of_fst {fs : FuncId → Option VFunc} {n : Nat} {f : FuncId} {args : List D} {s : Store} {d : D} (h : (vcall fs n f args s).map Prod.fst = some d) : ∃ s', Ev fs f args s d s' := by
  cases hv : vcall fs n f args s with
  | none => rw [hv] at h; cases h
  | some r =>
    rw [hv] at h
    obtain ⟨d', s'⟩ := r
    simp at h
    subst h
    exact ⟨s', n, hv⟩

/-- A slice in the store that covers its object: it may be written and grown. -/
def Sl (s : Store) (d : D) (l : List D) (ids : List Nat) : Prop :=
  (d = .nils ∧ l = [] ∧ ids = []) ∨ ∃ id, d = .arr id 0 l.length 1 ∧ s.get id = some (.cells l) ∧ ids = [id]
theorem Sl.rd {s : Store} {d : D} {l : List D} {ids : List Nat} (h : Sl s d l ids) : Rd s d l := by
  rcases h with ⟨rfl, rfl, _⟩ | ⟨id, rfl, h, _⟩
  · exact .inl ⟨rfl, rfl⟩
  · exact Rd.arr h
theorem Sl.one {s : Store} {d : D} {l : List D} {ids : List Nat} (h : Sl s d l ids) : oneCell d = true := h.rd.one
theorem Sl.lt {s : Store} {d : D} {l : List D} {ids : List Nat} (h : Sl s d l ids) : ∀ i ∈ ids, i < s.next := by
  rcases h with ⟨_, _, rfl⟩ | ⟨id, _, h, rfl⟩
  · simp
  · simpa using get_lts h
/-- Something is put behind a slice: its object is another then. -/
theorem Sl.push {s : Store} {d : D} {l : List D} {ids : List Nat} {new : List D} {id2 bytes : Nat} (h : Sl s d l ids) (h3 : s.get id2 = some (.cells new)) (hne : new ≠ []) (hb : bytes ≤ 16) (hl : l.length + new.length ≤ 2 ^ 40) :
    ∃ s' d', appendV 1 bytes d (.arr id2 0 new.length 1) s = some (d', s') ∧ Sl s' d' (l ++ new) [s.next] ∧ s'.next = s.next + 1 ∧ ∀ i, i ∉ ids → i < s.next → s'.get i = s.get i := by
  have hn : new.length ≠ 0 := by simpa using hne
  have b1 : (l.length + new.length) * bytes ≤ 2 ^ 45 := Nat.le_trans (Nat.mul_le_mul hl hb) (by decide)
  have b2 : l.length + new.length ≤ 2 ^ 45 := Nat.le_trans hl (by decide)
  have b3 : bytes ≤ 2 ^ 20 := Nat.le_trans hb (by decide)
  rcases h with ⟨rfl, rfl, rfl⟩ | ⟨id, rfl, h1, rfl⟩
  · refine ⟨s.push (.cells new), .arr s.next 0 new.length 1, ?_, .inr ⟨s.next, by simp, by simp [Store.get_push], rfl⟩, rfl, fun i _ hi => by rw [Store.get_push, if_neg (by omega)]⟩
    unfold appendV
    simp only [List.length_nil, Nat.zero_add] at b1 b2
    simp only [rowOf, h3, srcLen, srcSz, Nat.zero_add, Nat.mul_one, Nat.le_refl, if_true, List.drop_zero, beq_self_eq_true, b3, decide_true, Bool.and_self, and_self, hn, if_false, b1, b2, List.take_length]
  · refine ⟨(s.set id none).push (.cells (l ++ new)), .arr s.next 0 (l.length + new.length) 1, ?_, .inr ⟨s.next, by simp, by rw [Store.get_push, if_pos (by simp only [Store.next_set])], rfl⟩, rfl, fun i hi hl => ?_⟩
    · unfold appendV
      simp only [rowOf, h3, srcLen, srcSz, Nat.zero_add, Nat.mul_one, Nat.le_refl, if_true, List.drop_zero, beq_self_eq_true, b3, decide_true, Bool.and_self, h1, and_self, hn, if_false, b1, b2, List.take_length]
    · simp only [List.mem_singleton] at hi
      rw [Store.get_push, if_neg (by simp only [Store.next_set]; omega), Store.get_set, if_neg (by rintro ⟨rfl, _⟩; exact hi rfl)]

structure Gr where
  nodes : List (Nat × Nat)
  ins : List Nat
  known : List ((Nat × Nat) × Nat)

structure GraphAt (s : Store) (g : Nat) (G : Gr) (nid mid : Nat) (dins : D) (iids : List Nat) : Prop where
  obj : s.get g = some (.cells [.arr nid 0 G.nodes.length 2, dins, .map mid])
  nodes : s.get nid = some (.cells (cellsN G.nodes))
  ins : Sl s dins (cellsI G.ins) iids
  known : s.get mid = some (.map (kvs G.known))
  nd : (g :: nid :: mid :: iids).Nodup

/-- A graph, and which objects are its own. -/
def GA (s : Store) (g : Nat) (G : Gr) (ids : List Nat) : Prop := ∃ nid mid dins iids, GraphAt s g G nid mid dins iids ∧ ids = g :: nid :: mid :: iids

/-- From one graph to the next: all else stays. -/
def GrStep (s : Store) (g : Nat) (ids : List Nat) (s' : Store) (G' : Gr) (ids' : List Nat) : Prop := GA s' g G' ids' ∧ Fr ids s s' ∧ ∀ i ∈ ids', i ∈ ids ∨ s.next ≤ i

theorem GrStep.trans {s s' s'' : Store} {g : Nat} {ids ids' ids'' : List Nat} {G' G'' : Gr} (h : GrStep s g ids s' G' ids') (k : GrStep s' g ids' s'' G'' ids'') : GrStep s g ids s'' G'' ids'' := by
  refine ⟨k.1, h.2.1.trans k.2.1 h.2.2, fun i hi => ?_⟩
  rcases k.2.2 i hi with h1 | h1
  · exact h.2.2 i h1
  · exact .inr (Nat.le_trans h.2.1.1 h1)
theorem GrStep.refl {s : Store} {g : Nat} {G : Gr} {ids : List Nat} (h : GA s g G ids) : GrStep s g ids s G ids := ⟨h, Fr.refl _ _, fun _ hi => .inl hi⟩

/-- A graph stays if what is turned is not its own. -/
theorem GA.stay' {s s' : Store} {g : Nat} {G : Gr} {ids : List Nat} (h : GA s g G ids) (hs : ∀ i ∈ ids, i < s.next → s'.get i = s.get i) : GA s' g G ids := by
  obtain ⟨nid, mid, dins, iids, hg, rfl⟩ := h
  have k : ∀ i o, i ∈ g :: nid :: mid :: iids → s.get i = some o → s'.get i = some o := fun i o hi ho => by rw [hs i hi (get_lts ho), ho]
  refine ⟨nid, mid, dins, iids, ⟨k _ _ (by simp) hg.obj, k _ _ (by simp) hg.nodes, ?_, k _ _ (by simp) hg.known, hg.nd⟩, rfl⟩
  rcases hg.ins with h1 | ⟨id, h1, h2, rfl⟩
  · exact .inl h1
  · exact .inr ⟨id, h1, k _ _ (by simp) h2, rfl⟩
theorem GA.stay {s s' : Store} {g : Nat} {G : Gr} {ids ids2 : List Nat} (h : GA s g G ids) (hf : Fr ids2 s s') (hd : ∀ i ∈ ids, i ∉ ids2) : GA s' g G ids := h.stay' fun i hi hl => hf.2 i hl (hd i hi)
theorem Sl.stay {s s' : Store} {d : D} {l : List D} {ids ids2 : List Nat} (h : Sl s d l ids) (hf : Fr ids2 s s') (hd : ∀ i ∈ ids, i ∉ ids2) : Sl s' d l ids := by
  rcases h with h1 | ⟨id, h1, h2, rfl⟩
  · exact .inl h1
  · exact .inr ⟨id, h1, by rw [hf.2 id (get_lts h2) (hd id (by simp)), h2], rfl⟩
theorem GA.lt {s : Store} {g : Nat} {G : Gr} {ids : List Nat} (h : GA s g G ids) : ∀ i ∈ ids, i < s.next := by
  obtain ⟨nid, mid, dins, iids, hg, rfl⟩ := h
  intro i hi
  simp only [List.mem_cons] at hi
  rcases hi with rfl | rfl | rfl | hi
  · exact get_lts hg.obj
  · exact get_lts hg.nodes
  · exact get_lts hg.known
  · exact hg.ins.lt i hi
theorem GA.pos {s : Store} {g : Nat} {G : Gr} {ids : List Nat} (h : GA s g G ids) : ∃ nid dins mid, s.get g = some (.cells [.arr nid 0 G.nodes.length 2, dins, .map mid]) := by
  obtain ⟨nid, mid, dins, iids, hg, rfl⟩ := h
  exact ⟨nid, dins, mid, hg.obj⟩

theorem GA.push {s : Store} {g : Nat} {G : Gr} {ids : List Nat} (hG : GA s g G ids) (o : VObj) : GA (s.push o) g G ids := hG.stay (ids2 := []) (Fr.push _) (by simp)
theorem GA.newer {s s' : Store} {g : Nat} {G : Gr} {ids : List Nat} (hG : GA s g G ids) (h : Fr [] s s') : GrStep s g ids s' G ids := ⟨hG.stay h (by simp), h.weaken (by simp), fun _ h => .inl h⟩

/-! What the graph's functions do. -/
def notN (e : Nat) : Nat := if e % 2 = 0 then e + 1 else e - 1
def Gr.own (G : Gr) (e : Int) : Nat := if e < 0 ∨ (G.nodes.length : Int) ≤ e.tdiv 2 then 0 else e.toNat
/-- A graph that isn't full. -/
def Gr.add (G : Gr) (p : Nat × Nat) : Gr := { G with nodes := G.nodes ++ [p] }
def Gr.input (G : Gr) : Gr := { nodes := G.nodes ++ [(0, 0)], ins := G.ins ++ [G.nodes.length], known := G.known }
def find (k : Nat × Nat) : List ((Nat × Nat) × Nat) → Option Nat
  | [] => none
  | (p, n) :: r => if k = p then some n else find k r
def Gr.and (G : Gr) (a b : Nat) : Nat × Gr :=
  if min a b = 0 ∨ min a b = notN (max a b) then (0, G)
  else if min a b = 1 ∨ min a b = max a b then (max a b, G)
  else match find (min a b, max a b) G.known with
    | some n => (2 * n, G)
    | none => (2 * G.nodes.length, { nodes := G.nodes ++ [(min a b, max a b)], ins := G.ins, known := G.known ++ [((min a b, max a b), G.nodes.length)] })
theorem sameScalars2 (a b c d : Nat) : sameScalars [.i, .i] [.int .i64 (a : Int), .int .i64 (b : Int)] [.int .i64 (c : Int), .int .i64 (d : Int)] = some (decide ((a, b) = (c, d))) := by
  have e1 : ((a : Int) == (c : Int)) = decide (a = c) := by rw [Bool.eq_iff_iff]; simp; omega
  have e2 : ((b : Int) == (d : Int)) = decide (b = d) := by rw [Bool.eq_iff_iff]; simp; omega
  simp [sameScalars, sameScalar, e1, e2, Bool.and_comm]
theorem findKV_kvs (x y : Nat) : ∀ (l : List ((Nat × Nat) × Nat)), findKV [.i, .i] [.int .i64 (x : Int), .int .i64 (y : Int)] (kvs l) = some ((find (x, y) l).map fun n => .int .i64 (n : Int))
  | [] => rfl
  | ((a, b), n) :: r => by
    have ih := findKV_kvs x y r
    simp only [kvs, List.map_cons, findKV, sameScalars2, find] at ih ⊢
    by_cases h : (x, y) = (a, b)
    · simp only [h, decide_true, if_true, Option.map_some]
    · simp only [h, decide_false, if_false]; exact ih
theorem putKV_kvs (x y m : Nat) : ∀ (l : List ((Nat × Nat) × Nat)), find (x, y) l = none → putKV [.i, .i] [.int .i64 (x : Int), .int .i64 (y : Int)] (.int .i64 (m : Int)) (kvs l) = some (kvs (l ++ [((x, y), m)]))
  | [], _ => rfl
  | ((a, b), n) :: r, hf => by
    have ih := putKV_kvs x y m r
    simp only [find] at hf
    split at hf
    · cases hf
    · rename_i h
      simp only [kvs, List.map_cons, putKV, sameScalars2, h, decide_false, List.cons_append] at ih ⊢
      rw [ih hf]
      rfl
theorem nat_xor1 (n : Nat) : n ^^^ 1 = if n % 2 = 0 then n + 1 else n - 1 := by
  have h1 : (n ^^^ 1) / 2 = n / 2 := by
    have := Nat.shiftRight_xor_distrib (a := n) (b := 1) (i := 1)
    simpa [Nat.shiftRight_eq_div_pow] using this
  have h2 : (n ^^^ 1) % 2 = (n + 1) % 2 := by
    have h := Nat.testBit_xor n 1 0
    simp only [Nat.testBit_zero, Nat.reduceMod, decide_true] at h
    by_cases a : (n ^^^ 1) % 2 = 1 <;> by_cases b : n % 2 = 1 <;> simp [a, b] at h <;> omega
  split <;> omega
theorem i64_xor1 {e : Int} (h1 : 0 ≤ e) (h2 : e < 4611686018427387904) : IntKind.i64.wrap (xorI .i64 e 1) = (notN e.toNat : Nat) := by
  show IntKind.i64.wrap ((BitVec.ofInt IntKind.i64.bits e ^^^ BitVec.ofInt IntKind.i64.bits 1).toNat : Int) = (notN e.toNat : Nat)
  obtain ⟨n, rfl⟩ := Int.eq_ofNat_of_zero_le h1
  have hn : n < 4611686018427387904 := by omega
  have e1 : (BitVec.ofInt IntKind.i64.bits (n : Int) ^^^ BitVec.ofInt IntKind.i64.bits 1).toNat = n ^^^ 1 := by
    rw [BitVec.toNat_xor]
    have a1 : (BitVec.ofInt IntKind.i64.bits (n : Int)).toNat = n := by
      rw [BitVec.toNat_ofInt]
      simp only [IntKind.bits]
      omega
    have a2 : (BitVec.ofInt IntKind.i64.bits (1 : Int)).toNat = 1 := by
      rfl
    rw [a1, a2]
  rw [e1, nat_xor1]
  have : (n : Int) % 2 = ((n % 2 : Nat) : Int) := by omega
  by_cases hp : n % 2 = 0
  · rw [if_pos hp, i64_id (by omega) (by omega)]
    simp only [notN, Int.toNat_natCast]; rw [if_pos (by omega)]
  · rw [if_neg hp, i64_id (by omega) (by omega)]
    simp only [notN, Int.toNat_natCast]; rw [if_neg (by omega)]

/-- One slice behind another, both in the store. -/
theorem append_arr {sz bytes id id2 len n : Nat} {st : Store} {cs new : List D} (h1 : st.get id = some (.cells cs)) (h2 : cs.length = len * sz) (h3 : st.get id2 = some (.cells new)) (h4 : new.length = n * sz)
    (hn : n ≠ 0) (hb : bytes ≤ 16) (hl : len + n ≤ 2 ^ 40) :
    appendV sz bytes (.arr id 0 len sz) (.arr id2 0 n sz) st = some (.arr st.next 0 (len + n) sz, (st.set id none).push (.cells (cs ++ new))) := by
  have b1 : (len + n) * bytes ≤ 2 ^ 45 := Nat.le_trans (Nat.mul_le_mul hl hb) (by decide)
  have b2 : len + n ≤ 2 ^ 45 := Nat.le_trans hl (by decide)
  have b3 : bytes ≤ 2 ^ 20 := Nat.le_trans hb (by decide)
  unfold appendV
  simp only [rowOf, h3, srcLen, srcSz, Nat.zero_add, h4, Nat.le_refl, if_true, List.drop_zero, beq_self_eq_true, b3, decide_true, Bool.and_self, h1, h2, and_self, hn, if_false, b1, b2]
  rw [← h4, List.take_length]
theorem append_nils {sz bytes id2 n : Nat} {st : Store} {new : List D} (h3 : st.get id2 = some (.cells new)) (h4 : new.length = n * sz) (hn : n ≠ 0) (hb : bytes ≤ 16) (hl : n ≤ 2 ^ 40) :
    appendV sz bytes .nils (.arr id2 0 n sz) st = some (.arr st.next 0 n sz, st.push (.cells new)) := by
  have b1 : n * bytes ≤ 2 ^ 45 := Nat.le_trans (Nat.mul_le_mul hl hb) (by decide)
  have b2 : n ≤ 2 ^ 45 := Nat.le_trans hl (by decide)
  have b3 : bytes ≤ 2 ^ 20 := Nat.le_trans hb (by decide)
  unfold appendV
  simp only [rowOf, h3, srcLen, srcSz, Nat.zero_add, h4, Nat.le_refl, if_true, List.drop_zero, beq_self_eq_true, b3, decide_true, Bool.and_self, and_self, hn, if_false, b1, b2]
  rw [← h4, List.take_length]
attribute [go_sem] get_push_old get_push_new get_set_ne get_set_eq i64_id
end Go.V
