/- Texts one behind the other. -/
import Derived.Test.YtlaeblilmppodaaZ2
import Derived.Laws.Strings
import Derived.Test.YtlaeblilmppodaaVt
set_option linter.unusedSimpArgs false
set_option linter.unusedVariables false
namespace Go.V
theorem i64_id {n : Int} (h1 : -9223372036854775808 ≤ n) (h2 : n < 9223372036854775808) : IntKind.i64.wrap n = n := IntWalk.i64_in n ⟨by omega, by omega⟩
def Fr (ids : List Nat) (s s' : Store) : Prop := s.next ≤ s'.next ∧ ∀ i, i < s.next → i ∉ ids → s'.get i = s.get i
theorem Fr.refl (ids : List Nat) (s : Store) : Fr ids s s := ⟨Nat.le_refl _, fun _ _ _ => rfl⟩
theorem Fr.trans {ids : List Nat} {ids' : List Nat} {a b c : Store} (h : Fr ids a b) (k : Fr ids' b c) (hi : ∀ i ∈ ids', i ∈ ids ∨ a.next ≤ i) : Fr ids a c := by
  refine ⟨Nat.le_trans h.1 k.1, fun i hl hn => ?_⟩
  rw [k.2 i (Nat.lt_of_lt_of_le hl h.1) ?_, h.2 i hl hn]
  intro hc
  rcases hi i hc with h1 | h1
  · exact hn h1
  · omega
theorem Fr.push {ids : List Nat} {s : Store} (o : VObj) : Fr ids s (s.push o) := ⟨by rw [Store.next_push]; omega, fun i hl _ => by rw [Store.get_push, if_neg (by omega)]⟩
theorem Fr.set {ids : List Nat} {s : Store} {id : Nat} (o : Option VObj) (h : id ∈ ids) : Fr ids s (s.set id o) := ⟨by rw [Store.next_set]; omega, fun i hl hn => by
  rw [Store.get_set, if_neg]; rintro ⟨rfl, _⟩; exact hn h⟩
theorem Fr.thenPush {ids : List Nat} {a b : Store} (h : Fr ids a b) (o : VObj) : Fr ids a (b.push o) := h.trans (Fr.push (ids := []) o) (by simp)
theorem Fr.thenSet {ids : List Nat} {a b : Store} {id : Nat} (h : Fr ids a b) (o : Option VObj) (hi : id ∈ ids ∨ a.next ≤ id) : Fr ids a (b.set id o) :=
  h.trans (Fr.set (ids := [id]) o (by simp)) (by simpa using hi)
theorem Fr.weaken {ids ids' : List Nat} {a b : Store} (h : Fr ids a b) (hi : ∀ i ∈ ids, i ∈ ids') : Fr ids' a b := ⟨h.1, fun i hl hn => h.2 i hl fun hc => hn (hi i hc)⟩
theorem get_lts {s : Store} {i : Nat} {o : VObj} (h : s.get i = some o) : i < s.next := by
  unfold Store.get at h
  split at h
  · assumption
  · cases h
theorem get_push_old {s : Store} {o : VObj} {i : Nat} (h : i < s.next) : (s.push o).get i = s.get i := by rw [Store.get_push, if_neg (by omega)]
theorem get_push_new {s : Store} {o : VObj} {i : Nat} (h : i = s.next) : (s.push o).get i = some o := by rw [Store.get_push, if_pos h]
theorem get_set_ne {s : Store} {o : Option VObj} {i id : Nat} (h : i ≠ id) : (s.set id o).get i = s.get i := by rw [Store.get_set, if_neg (by rintro ⟨rfl, _⟩; exact h rfl)]
theorem get_set_eq {s : Store} {o : Option VObj} {i : Nat} (h : i < s.next) : (s.set i o).get i = o := by rw [Store.get_set, if_pos ⟨rfl, h⟩]
def cellsI (l : List Nat) : List D := l.map fun (n : Nat) => .int .i64 (n : Int)
def cellsB (l : List Bool) : List D := l.map fun b => .bool b
def cellsN : List (Nat × Nat) → List D
  | [] => []
  | p :: r => .int .i64 (p.1 : Int) :: .int .i64 (p.2 : Int) :: cellsN r
def kvs (l : List ((Nat × Nat) × Nat)) : List (D × D) := l.map fun x => (.agg [.int .i64 (x.1.1 : Int), .int .i64 (x.1.2 : Int)], .int .i64 (x.2 : Int))
@[simp] theorem cellsI_length (l : List Nat) : (cellsI l).length = l.length := by simp [cellsI]
@[simp] theorem cellsB_length (l : List Bool) : (cellsB l).length = l.length := by simp [cellsB]
@[simp] theorem cellsN_length : ∀ (l : List (Nat × Nat)), (cellsN l).length = l.length * 2
  | [] => rfl
  | p :: r => by simp only [cellsN, List.length_cons, cellsN_length r]; omega
theorem cellsN_append : ∀ (l m : List (Nat × Nat)), cellsN (l ++ m) = cellsN l ++ cellsN m
  | [], m => rfl
  | p :: r, m => by simp [cellsN, cellsN_append r m]
theorem cellsI_append (l m : List Nat) : cellsI (l ++ m) = cellsI l ++ cellsI m := by simp [cellsI]
theorem cellsB_append (l m : List Bool) : cellsB (l ++ m) = cellsB l ++ cellsB m := by simp [cellsB]
theorem cellsI_get {l : List Nat} {i : Nat} (h : i < l.length) : (cellsI l)[i]? = some (.int .i64 (l[i] : Int)) := by simp [cellsI, h]
theorem cellsB_get {l : List Bool} {i : Nat} (h : i < l.length) : (cellsB l)[i]? = some (.bool l[i]) := by simp [cellsB, h]
theorem cellsN_pull : ∀ {l : List (Nat × Nat)} {i : Nat} (h : i < l.length), pull (some 2) (i * 2) (cellsN l) = some (.agg [.int .i64 (l[i].1 : Int), .int .i64 (l[i].2 : Int)])
  | p :: r, 0, h => by
    simp only [pull, cellsN_length, List.length_cons]
    rw [if_pos (by omega)]
    simp [cellsN]
  | p :: r, i + 1, h => by
    have ih := cellsN_pull (l := r) (i := i) (by simpa using h)
    simp only [pull, cellsN_length, List.length_cons] at ih ⊢
    have h' : i < r.length := by simpa using h
    rw [if_pos (by omega)] at ih ⊢
    rw [show (i + 1) * 2 = i * 2 + 1 + 1 by omega]
    simpa [cellsN] using ih
def Rd (s : Store) (d : D) (l : List D) : Prop :=
  (d = .nils ∧ l = []) ∨ d = .lst 1 (l.map fun x => [x]) ∨ ∃ id off cs, d = .arr id off l.length 1 ∧ s.get id = some (.cells cs) ∧ off + l.length ≤ cs.length ∧ (cs.drop off).take l.length = l
theorem Rd.len {s : Store} {d : D} {l : List D} (h : Rd s d l) : lenV false d = some (.int .i64 (l.length : Int)) := by
  rcases h with ⟨rfl, rfl⟩ | rfl | ⟨id, off, cs, rfl, _⟩ <;> simp [lenV]
theorem Rd.one {s : Store} {d : D} {l : List D} (h : Rd s d l) : oneCell d = true := by
  rcases h with ⟨rfl, rfl⟩ | rfl | ⟨id, off, cs, rfl, _⟩ <;> rfl
theorem Rd.idx {s : Store} {d : D} {l : List D} (h : Rd s d l) (ho : l.all oneCell = true) {i : Nat} (hi : i < l.length) {k : IntKind} {z : Int} (hz : z = (i : Int)) : ∃ p, idxAV 1 d (.int k z) = some p ∧ ldV s.get none p = some l[i] := by
  subst hz
  have ho' : oneCell l[i] = true := by rw [List.all_eq_true] at ho; exact ho _ (List.getElem_mem hi)
  rcases h with ⟨rfl, rfl⟩ | rfl | ⟨id, off, cs, rfl, h1, h2, h3⟩
  · simp at hi
  · refine ⟨.fp [l[i]] 0, ?_, ?_⟩
    · simp [idxAV, hi]
    · simp [ldV, pull, ho']
  · refine ⟨.ptr id (off + i), ?_, ?_⟩
    · simp only [idxAV]
      rw [if_pos (by refine ⟨trivial, ?_, ?_⟩ <;> omega)]
      simp
    · simp only [ldV, h1, pull]
      have : cs[off + i]? = some l[i] := by
        have e : l[i]? = some l[i] := List.getElem?_eq_getElem hi
        rw [← e]
        conv => rhs; rw [← h3]
        rw [List.getElem?_take_of_lt hi, List.getElem?_drop]
      rw [this]
      simp [ho']
theorem Rd.row {s : Store} {d : D} {l : List D} (h : Rd s d l) : rowOf s.get d = some l ∧ srcLen d = some l.length ∧ srcSz 1 d = true := by
  rcases h with ⟨rfl, rfl⟩ | rfl | ⟨id, off, cs, rfl, h1, h2, h3⟩
  · simp [rowOf, srcLen, srcSz]
  · refine ⟨?_, by simp [srcLen], by simp [srcSz]⟩
    simp only [rowOf]
    congr 1
    induction l with
    | nil => rfl
    | cons a l ih => simp [ih]
  · refine ⟨?_, by simp [srcLen], by simp [srcSz]⟩
    simp only [rowOf, h1, Nat.mul_one]
    rw [if_pos h2, h3]
theorem Rd.arr {s : Store} {id : Nat} {l : List D} (h : s.get id = some (.cells l)) : Rd s (.arr id 0 l.length 1) l := .inr (.inr ⟨id, 0, l, rfl, h, by simp, by simp⟩)
theorem Rd.stay {s s' : Store} {d : D} {l : List D} (h : Rd s d l) (hs : ∀ id off len, d = .arr id off len 1 → s'.get id = s.get id) : Rd s' d l := by
  rcases h with h | h | ⟨id, off, cs, rfl, h1, h2, h3⟩
  · exact .inl h
  · exact .inr (.inl h)
  · exact .inr (.inr ⟨id, off, cs, rfl, by rw [hs id off _ rfl, h1], h2, h3⟩)
theorem all_cellsI (l : List Nat) : (cellsI l).all oneCell = true := by simp [cellsI, oneCell]
theorem all_cellsB (l : List Bool) : (cellsB l).all oneCell = true := by simp [cellsB, oneCell]
theorem Rd.lenI {s : Store} {d : D} {l : List Nat} (h : Rd s d (cellsI l)) : lenV false d = some (.int .i64 (l.length : Int)) := by rw [h.len, cellsI_length]
theorem Rd.lenB {s : Store} {d : D} {l : List Bool} (h : Rd s d (cellsB l)) : lenV false d = some (.int .i64 (l.length : Int)) := by rw [h.len, cellsB_length]
theorem Rd.idxI {s : Store} {d : D} {l : List Nat} (h : Rd s d (cellsI l)) {i : Nat} (hi : i < l.length) : ∃ p, idxAV 1 d (.int .i64 (i : Int)) = some p ∧ ldV s.get none p = some (.int .i64 (l[i] : Int)) := by
  obtain ⟨p, h1, h2⟩ := h.idx (all_cellsI l) (i := i) (by simpa using hi) (k := .i64) rfl
  exact ⟨p, h1, by rw [h2]; simp [cellsI]⟩
theorem Rd.idxB {s : Store} {d : D} {l : List Bool} (h : Rd s d (cellsB l)) {i : Nat} (hi : i < l.length) : ∃ p, idxAV 1 d (.int .i64 (i : Int)) = some p ∧ ldV s.get none p = some (.bool l[i]) := by
  obtain ⟨p, h1, h2⟩ := h.idx (all_cellsB l) (i := i) (by simpa using hi) (k := .i64) rfl
  exact ⟨p, h1, by rw [h2]; simp [cellsB]⟩
def scal1 : D → Bool
  | .int _ _ => true
  | .bool _ => true
  | .str _ => true
  | _ => false
theorem ice_scal {g : Look} {d : D} (h : scal1 d = true) : ∀ n, ice g (n + 1) d = some d := by
  intro n
  cases d <;> first | rfl | (simp [scal1] at h)
theorem scalarD_scal {d : D} (h : scal1 d = true) : scalarD d = true := by cases d <;> first | rfl | (simp [scal1] at h)
theorem mapO_ice {g : Look} {n : Nat} : ∀ {l : List D}, l.all scal1 = true → mapO (ice g (n + 1)) l = some l
  | [], _ => rfl
  | d :: r, h => by
    simp only [List.all_cons, Bool.and_eq_true] at h
    simp only [mapO, ice_scal h.1, mapO_ice h.2]
theorem chunk_one : ∀ (l : List D), chunk 1 l.length l = l.map fun x => [x]
  | [] => rfl
  | d :: r => by simp [chunk, chunk_one r]
theorem Rd.ice {s : Store} {d : D} {l : List D} (h : Rd s d l) (hl : l.all scal1 = true) : ∃ d', ice s.get 20 d = some d' ∧ Rd Store.empty d' l := by
  have hrow := h.row.1
  rcases h with ⟨rfl, rfl⟩ | rfl | ⟨id, off, cs, rfl, h1, h2, h3⟩
  · exact ⟨.nils, rfl, .inl ⟨rfl, rfl⟩⟩
  · exact ⟨_, rfl, .inr (.inl rfl)⟩
  · refine ⟨.lst 1 (l.map fun x => [x]), ?_, .inr (.inl rfl)⟩
    simp only [V.ice, hrow]
    rw [mapO_ice hl]
    simp only [Option.map_some, chunk_one]
theorem scal_cellsI (l : List Nat) : (cellsI l).all scal1 = true := by simp [cellsI, scal1]
theorem scal_cellsB (l : List Bool) : (cellsB l).all scal1 = true := by simp [cellsB, scal1]
theorem vq_isoL {fs : FuncId → Option VFunc} {pairs i t f args rest s Q} {env : Env} {l l' : List D} {r : D} {s1 : Store} (hr : Ev fs f l' Store.empty r s1) (hs : scal1 r = true) (hl : env.evL args = l) (ha : mapO (V.ice s.get 20) l = some l')
    (h : WQ fs pairs rest ((t, r) :: env) s Q) : WQ fs pairs ((i, ⟨some t, .m (.call .iso (.cst (.fn f [])) args), none⟩) :: rest) env s Q :=
  vq_iso' hl ha hr (ice_scal hs 19) (by rw [scalarD_scal hs]; rfl) h
theorem ev_of_fst {fs : FuncId → Option VFunc} {n : Nat} {f : FuncId} {args : List D} {s : Store} {d : D} (h : (vcall fs n f args s).map Prod.fst = some d) : ∃ s', Ev fs f args s d s' := by
  cases hv : vcall fs n f args s with
  | none => rw [hv] at h; cases h
  | some r =>
    rw [hv] at h
    obtain ⟨d', s'⟩ := r
    simp at h
    subst h
    exact ⟨s', n, hv⟩
def Sl (s : Store) (d : D) (l : List D) (ids : List Nat) : Prop :=
  (d = .nils ∧ l = [] ∧ ids = []) ∨ ∃ id, d = .arr id 0 l.length 1 ∧ s.get id = some (.cells l) ∧ ids = [id]
theorem Sl.rd {s : Store} {d : D} {l : List D} {ids : List Nat} (h : Sl s d l ids) : Rd s d l := by
  rcases h with ⟨rfl, rfl, _⟩ | ⟨id, rfl, h, _⟩
  · exact .inl ⟨rfl, rfl⟩
  · exact Rd.arr h
theorem Sl.one {s : Store} {d : D} {l : List D} {ids : List Nat} (h : Sl s d l ids) : oneCell d = true := h.rd.one
theorem Sl.lt {s : Store} {d : D} {l : List D} {ids : List Nat} (h : Sl s d l ids) : ∀ i ∈ ids, i < s.next := by
  rcases h with ⟨_, _, rfl⟩ | ⟨id, _, h, rfl⟩
  · simp
  · simpa using get_lts h
theorem Sl.push {s : Store} {d : D} {l : List D} {ids : List Nat} {new : List D} {id2 bytes : Nat} (h : Sl s d l ids) (h3 : s.get id2 = some (.cells new)) (hne : new ≠ []) (hb : bytes ≤ 16) (hl : l.length + new.length ≤ 2 ^ 40) :
    ∃ s' d', appendV 1 bytes d (.arr id2 0 new.length 1) s = some (d', s') ∧ Sl s' d' (l ++ new) [s.next] ∧ s'.next = s.next + 1 ∧ ∀ i, i ∉ ids → i < s.next → s'.get i = s.get i := by
  have hn : new.length ≠ 0 := by simpa using hne
  have b1 : (l.length + new.length) * bytes ≤ 2 ^ 45 := Nat.le_trans (Nat.mul_le_mul hl hb) (by decide)
  have b2 : l.length + new.length ≤ 2 ^ 45 := Nat.le_trans hl (by decide)
  have b3 : bytes ≤ 2 ^ 20 := Nat.le_trans hb (by decide)
  rcases h with ⟨rfl, rfl, rfl⟩ | ⟨id, rfl, h1, rfl⟩
  · refine ⟨s.push (.cells new), .arr s.next 0 new.length 1, ?_, .inr ⟨s.next, by simp, by simp [Store.get_push], rfl⟩, rfl, fun i _ hi => by rw [Store.get_push, if_neg (by omega)]⟩
    unfold appendV
    simp only [List.length_nil, Nat.zero_add] at b1 b2
    simp only [rowOf, h3, srcLen, srcSz, Nat.zero_add, Nat.mul_one, Nat.le_refl, if_true, List.drop_zero, beq_self_eq_true, b3, decide_true, Bool.and_self, and_self, hn, if_false, b1, b2, List.take_length]
  · refine ⟨(s.set id none).push (.cells (l ++ new)), .arr s.next 0 (l.length + new.length) 1, ?_, .inr ⟨s.next, by simp, by rw [Store.get_push, if_pos (by simp only [Store.next_set])], rfl⟩, rfl, fun i hi hl => ?_⟩
    · unfold appendV
      simp only [rowOf, h3, srcLen, srcSz, Nat.zero_add, Nat.mul_one, Nat.le_refl, if_true, List.drop_zero, beq_self_eq_true, b3, decide_true, Bool.and_self, h1, and_self, hn, if_false, b1, b2, List.take_length]
    · simp only [List.mem_singleton] at hi
      rw [Store.get_push, if_neg (by simp only [Store.next_set]; omega), Store.get_set, if_neg (by rintro ⟨rfl, _⟩; exact hi rfl)]
structure Gr where
  nodes : List (Nat × Nat)
  ins : List Nat
  known : List ((Nat × Nat) × Nat)
structure GraphAt (s : Store) (g : Nat) (G : Gr) (nid mid : Nat) (dins : D) (iids : List Nat) : Prop where
  obj : s.get g = some (.cells [.arr nid 0 G.nodes.length 2, dins, .map mid])
  nodes : s.get nid = some (.cells (cellsN G.nodes))
  ins : Sl s dins (cellsI G.ins) iids
  known : s.get mid = some (.map (kvs G.known))
  nd : (g :: nid :: mid :: iids).Nodup
def GA (s : Store) (g : Nat) (G : Gr) (ids : List Nat) : Prop := ∃ nid mid dins iids, GraphAt s g G nid mid dins iids ∧ ids = g :: nid :: mid :: iids
def GrStep (s : Store) (g : Nat) (ids : List Nat) (s' : Store) (G' : Gr) (ids' : List Nat) : Prop := GA s' g G' ids' ∧ Fr ids s s' ∧ ∀ i ∈ ids', i ∈ ids ∨ s.next ≤ i
theorem GrStep.trans {s s' s'' : Store} {g : Nat} {ids ids' ids'' : List Nat} {G' G'' : Gr} (h : GrStep s g ids s' G' ids') (k : GrStep s' g ids' s'' G'' ids'') : GrStep s g ids s'' G'' ids'' := by
  refine ⟨k.1, h.2.1.trans k.2.1 h.2.2, fun i hi => ?_⟩
  rcases k.2.2 i hi with h1 | h1
  · exact h.2.2 i h1
  · exact .inr (Nat.le_trans h.2.1.1 h1)
theorem GrStep.refl {s : Store} {g : Nat} {G : Gr} {ids : List Nat} (h : GA s g G ids) : GrStep s g ids s G ids := ⟨h, Fr.refl _ _, fun _ hi => .inl hi⟩
theorem GA.stay' {s s' : Store} {g : Nat} {G : Gr} {ids : List Nat} (h : GA s g G ids) (hs : ∀ i ∈ ids, i < s.next → s'.get i = s.get i) : GA s' g G ids := by
  obtain ⟨nid, mid, dins, iids, hg, rfl⟩ := h
  have k : ∀ i o, i ∈ g :: nid :: mid :: iids → s.get i = some o → s'.get i = some o := fun i o hi ho => by rw [hs i hi (get_lts ho), ho]
  refine ⟨nid, mid, dins, iids, ⟨k _ _ (by simp) hg.obj, k _ _ (by simp) hg.nodes, ?_, k _ _ (by simp) hg.known, hg.nd⟩, rfl⟩
  rcases hg.ins with h1 | ⟨id, h1, h2, rfl⟩
  · exact .inl h1
  · exact .inr ⟨id, h1, k _ _ (by simp) h2, rfl⟩
theorem GA.stay {s s' : Store} {g : Nat} {G : Gr} {ids ids2 : List Nat} (h : GA s g G ids) (hf : Fr ids2 s s') (hd : ∀ i ∈ ids, i ∉ ids2) : GA s' g G ids := h.stay' fun i hi hl => hf.2 i hl (hd i hi)
theorem Sl.stay {s s' : Store} {d : D} {l : List D} {ids ids2 : List Nat} (h : Sl s d l ids) (hf : Fr ids2 s s') (hd : ∀ i ∈ ids, i ∉ ids2) : Sl s' d l ids := by
  rcases h with h1 | ⟨id, h1, h2, rfl⟩
  · exact .inl h1
  · exact .inr ⟨id, h1, by rw [hf.2 id (get_lts h2) (hd id (by simp)), h2], rfl⟩
theorem GA.lt {s : Store} {g : Nat} {G : Gr} {ids : List Nat} (h : GA s g G ids) : ∀ i ∈ ids, i < s.next := by
  obtain ⟨nid, mid, dins, iids, hg, rfl⟩ := h
  intro i hi
  simp only [List.mem_cons] at hi
  rcases hi with rfl | rfl | rfl | hi
  · exact get_lts hg.obj
  · exact get_lts hg.nodes
  · exact get_lts hg.known
  · exact hg.ins.lt i hi
theorem GA.pos {s : Store} {g : Nat} {G : Gr} {ids : List Nat} (h : GA s g G ids) : ∃ nid dins mid, s.get g = some (.cells [.arr nid 0 G.nodes.length 2, dins, .map mid]) := by
  obtain ⟨nid, mid, dins, iids, hg, rfl⟩ := h
  exact ⟨nid, dins, mid, hg.obj⟩
theorem GA.push {s : Store} {g : Nat} {G : Gr} {ids : List Nat} (hG : GA s g G ids) (o : VObj) : GA (s.push o) g G ids := hG.stay (ids2 := []) (Fr.push _) (by simp)
theorem GA.newer {s s' : Store} {g : Nat} {G : Gr} {ids : List Nat} (hG : GA s g G ids) (h : Fr [] s s') : GrStep s g ids s' G ids := ⟨hG.stay h (by simp), h.weaken (by simp), fun _ h => .inl h⟩
def notN (e : Nat) : Nat := if e % 2 = 0 then e + 1 else e - 1
def Gr.own (G : Gr) (e : Int) : Nat := if e < 0 ∨ (G.nodes.length : Int) ≤ e.tdiv 2 then 0 else e.toNat
def Gr.add (G : Gr) (p : Nat × Nat) : Gr := { G with nodes := G.nodes ++ [p] }
def Gr.input (G : Gr) : Gr := { nodes := G.nodes ++ [(0, 0)], ins := G.ins ++ [G.nodes.length], known := G.known }
def find (k : Nat × Nat) : List ((Nat × Nat) × Nat) → Option Nat
  | [] => none
  | (p, n) :: r => if k = p then some n else find k r
def Gr.and (G : Gr) (a b : Nat) : Nat × Gr :=
  if min a b = 0 ∨ min a b = notN (max a b) then (0, G)
  else if min a b = 1 ∨ min a b = max a b then (max a b, G)
  else match find (min a b, max a b) G.known with
    | some n => (2 * n, G)
    | none => (2 * G.nodes.length, { nodes := G.nodes ++ [(min a b, max a b)], ins := G.ins, known := G.known ++ [((min a b, max a b), G.nodes.length)] })
theorem sameScalars2 (a b c d : Nat) : sameScalars [.i, .i] [.int .i64 (a : Int), .int .i64 (b : Int)] [.int .i64 (c : Int), .int .i64 (d : Int)] = some (decide ((a, b) = (c, d))) := by
  have e1 : ((a : Int) == (c : Int)) = decide (a = c) := by rw [Bool.eq_iff_iff]; simp; omega
  have e2 : ((b : Int) == (d : Int)) = decide (b = d) := by rw [Bool.eq_iff_iff]; simp; omega
  simp [sameScalars, sameScalar, e1, e2, Bool.and_comm]
theorem findKV_kvs (x y : Nat) : ∀ (l : List ((Nat × Nat) × Nat)), findKV [.i, .i] [.int .i64 (x : Int), .int .i64 (y : Int)] (kvs l) = some ((find (x, y) l).map fun n => .int .i64 (n : Int))
  | [] => rfl
  | ((a, b), n) :: r => by
    have ih := findKV_kvs x y r
    simp only [kvs, List.map_cons, findKV, sameScalars2, find] at ih ⊢
    by_cases h : (x, y) = (a, b)
    · simp only [h, decide_true, if_true, Option.map_some]
    · simp only [h, decide_false, if_false]; exact ih
theorem putKV_kvs (x y m : Nat) : ∀ (l : List ((Nat × Nat) × Nat)), find (x, y) l = none → putKV [.i, .i] [.int .i64 (x : Int), .int .i64 (y : Int)] (.int .i64 (m : Int)) (kvs l) = some (kvs (l ++ [((x, y), m)]))
  | [], _ => rfl
  | ((a, b), n) :: r, hf => by
    have ih := putKV_kvs x y m r
    simp only [find] at hf
    split at hf
    · cases hf
    · rename_i h
      simp only [kvs, List.map_cons, putKV, sameScalars2, h, decide_false, List.cons_append] at ih ⊢
      rw [ih hf]
      rfl
theorem nat_xor1 (n : Nat) : n ^^^ 1 = if n % 2 = 0 then n + 1 else n - 1 := by
  have h1 : (n ^^^ 1) / 2 = n / 2 := by
    have := Nat.shiftRight_xor_distrib (a := n) (b := 1) (i := 1)
    simpa [Nat.shiftRight_eq_div_pow] using this
  have h2 : (n ^^^ 1) % 2 = (n + 1) % 2 := by
    have h := Nat.testBit_xor n 1 0
    simp only [Nat.testBit_zero, Nat.reduceMod, decide_true] at h
    by_cases a : (n ^^^ 1) % 2 = 1 <;> by_cases b : n % 2 = 1 <;> simp [a, b] at h <;> omega
  split <;> omega
theorem i64_xor1 {e : Int} (h1 : 0 ≤ e) (h2 : e < 4611686018427387904) : IntKind.i64.wrap (xorI .i64 e 1) = (notN e.toNat : Nat) := by
  show IntKind.i64.wrap ((BitVec.ofInt IntKind.i64.bits e ^^^ BitVec.ofInt IntKind.i64.bits 1).toNat : Int) = (notN e.toNat : Nat)
  obtain ⟨n, rfl⟩ := Int.eq_ofNat_of_zero_le h1
  have hn : n < 4611686018427387904 := by omega
  have e1 : (BitVec.ofInt IntKind.i64.bits (n : Int) ^^^ BitVec.ofInt IntKind.i64.bits 1).toNat = n ^^^ 1 := by
    rw [BitVec.toNat_xor]
    have a1 : (BitVec.ofInt IntKind.i64.bits (n : Int)).toNat = n := by
      rw [BitVec.toNat_ofInt]
      simp only [IntKind.bits]
      omega
    have a2 : (BitVec.ofInt IntKind.i64.bits (1 : Int)).toNat = 1 := by
      rfl
    rw [a1, a2]
  rw [e1, nat_xor1]
  have : (n : Int) % 2 = ((n % 2 : Nat) : Int) := by omega
  by_cases hp : n % 2 = 0
  · rw [if_pos hp, i64_id (by omega) (by omega)]
    simp only [notN, Int.toNat_natCast]; rw [if_pos (by omega)]
  · rw [if_neg hp, i64_id (by omega) (by omega)]
    simp only [notN, Int.toNat_natCast]; rw [if_neg (by omega)]
theorem append_arr {sz bytes id id2 len n : Nat} {st : Store} {cs new : List D} (h1 : st.get id = some (.cells cs)) (h2 : cs.length = len * sz) (h3 : st.get id2 = some (.cells new)) (h4 : new.length = n * sz)
    (hn : n ≠ 0) (hb : bytes ≤ 16) (hl : len + n ≤ 2 ^ 40) :
    appendV sz bytes (.arr id 0 len sz) (.arr id2 0 n sz) st = some (.arr st.next 0 (len + n) sz, (st.set id none).push (.cells (cs ++ new))) := by
  have b1 : (len + n) * bytes ≤ 2 ^ 45 := Nat.le_trans (Nat.mul_le_mul hl hb) (by decide)
  have b2 : len + n ≤ 2 ^ 45 := Nat.le_trans hl (by decide)
  have b3 : bytes ≤ 2 ^ 20 := Nat.le_trans hb (by decide)
  unfold appendV
  simp only [rowOf, h3, srcLen, srcSz, Nat.zero_add, h4, Nat.le_refl, if_true, List.drop_zero, beq_self_eq_true, b3, decide_true, Bool.and_self, h1, h2, and_self, hn, if_false, b1, b2]
  rw [← h4, List.take_length]
theorem append_nils {sz bytes id2 n : Nat} {st : Store} {new : List D} (h3 : st.get id2 = some (.cells new)) (h4 : new.length = n * sz) (hn : n ≠ 0) (hb : bytes ≤ 16) (hl : n ≤ 2 ^ 40) :
    appendV sz bytes .nils (.arr id2 0 n sz) st = some (.arr st.next 0 n sz, st.push (.cells new)) := by
  have b1 : n * bytes ≤ 2 ^ 45 := Nat.le_trans (Nat.mul_le_mul hl hb) (by decide)
  have b2 : n ≤ 2 ^ 45 := Nat.le_trans hl (by decide)
  have b3 : bytes ≤ 2 ^ 20 := Nat.le_trans hb (by decide)
  unfold appendV
  simp only [rowOf, h3, srcLen, srcSz, Nat.zero_add, h4, Nat.le_refl, if_true, List.drop_zero, beq_self_eq_true, b3, decide_true, Bool.and_self, and_self, hn, if_false, b1, b2]
  rw [← h4, List.take_length]
attribute [go_sem] get_push_old get_push_new get_set_ne get_set_eq i64_id
end Go.V
namespace Go.V
def FL (sz : Nat) (d : D) (rows : List (List D)) : Prop := (d = .nils ∧ rows = []) ∨ d = .lst sz rows
theorem FL.len {sz : Nat} {d : D} {rows : List (List D)} (h : FL sz d rows) : lenV false d = some (.int .i64 (rows.length : Int)) := by
  rcases h with ⟨rfl, rfl⟩ | rfl <;> rfl
theorem FL.one {sz : Nat} {d : D} {rows : List (List D)} (h : FL sz d rows) : oneCell d = true := by
  rcases h with ⟨rfl, rfl⟩ | rfl <;> rfl
theorem FL.pure {sz : Nat} {d : D} {rows : List (List D)} (h : FL sz d rows) : pureD d = true := by
  rcases h with ⟨rfl, rfl⟩ | rfl <;> rfl
theorem FL.ice {sz : Nat} {d : D} {rows : List (List D)} (h : FL sz d rows) {g : Look} {n : Nat} : ice g (n + 1) d = some d := by
  rcases h with ⟨rfl, rfl⟩ | rfl <;> rfl
theorem FL.idx {sz : Nat} {d : D} {rows : List (List D)} (h : FL sz d rows) {i : Nat} (hi : i < rows.length) {k : IntKind} : idxAV sz d (.int k (i : Int)) = some (.fp rows[i] 0) := by
  rcases h with ⟨rfl, rfl⟩ | rfl
  · simp at hi
  · simp [idxAV, hi]
theorem FL.cells {sz : Nat} {d : D} {rows : List (List D)} (h : FL sz d rows) : cellsOf d = [d] := by
  rcases h with ⟨rfl, rfl⟩ | rfl <;> rfl
def FS (d : D) (l : List ByteArray) : Prop := FL 1 d (l.map fun x => [.str x])
def FI (d : D) (l : List Int) : Prop := FL 1 d (l.map fun n => [.int .i64 n])
def FB (d : D) (l : List Bool) : Prop := FL 1 d (l.map fun b => [.bool b])
theorem FS.len {d : D} {l : List ByteArray} (h : FS d l) : lenV false d = some (.int .i64 (l.length : Int)) := by rw [FL.len h, List.length_map]
theorem FI.len {d : D} {l : List Int} (h : FI d l) : lenV false d = some (.int .i64 (l.length : Int)) := by rw [FL.len h, List.length_map]
theorem FB.len {d : D} {l : List Bool} (h : FB d l) : lenV false d = some (.int .i64 (l.length : Int)) := by rw [FL.len h, List.length_map]
theorem FS.idx {d : D} {l : List ByteArray} (h : FS d l) {i : Nat} (hi : i < l.length) {k : IntKind} : idxAV 1 d (.int k (i : Int)) = some (.fp [.str l[i]] 0) := by
  rw [FL.idx h (by simpa using hi)]; simp
theorem FI.idx {d : D} {l : List Int} (h : FI d l) {i : Nat} (hi : i < l.length) {k : IntKind} : idxAV 1 d (.int k (i : Int)) = some (.fp [.int .i64 l[i]] 0) := by
  rw [FL.idx h (by simpa using hi)]; simp
theorem FB.idx {d : D} {l : List Bool} (h : FB d l) {i : Nat} (hi : i < l.length) {k : IntKind} : idxAV 1 d (.int k (i : Int)) = some (.fp [.bool l[i]] 0) := by
  rw [FL.idx h (by simpa using hi)]; simp
theorem FL.drop {sz : Nat} {d : D} {rows : List (List D)} (h : FL sz d rows) {n : Nat} (hn : n ≤ rows.length) {k : IntKind} : ∃ d', sliceV (some sz) d (some (.int k (n : Int))) none = some d' ∧ FL sz d' (rows.drop n) := by
  rcases h with ⟨rfl, rfl⟩ | rfl
  · obtain rfl : n = 0 := by simpa using hn
    exact ⟨.nils, by simp [sliceV, boundOf], .inl ⟨rfl, rfl⟩⟩
  · exact ⟨_, by simp [sliceV, boundOf, hn], .inr rfl⟩
theorem FL.take {sz : Nat} {d : D} {rows : List (List D)} (h : FL sz d rows) {n : Nat} (hn : n ≤ rows.length) {k : IntKind} : ∃ d', sliceV (some sz) d none (some (.int k (n : Int))) = some d' ∧ FL sz d' (rows.take n) := by
  rcases h with ⟨rfl, rfl⟩ | rfl
  · obtain rfl : n = 0 := by simpa using hn
    exact ⟨.nils, by simp [sliceV, boundOf], .inl ⟨rfl, rfl⟩⟩
  · exact ⟨_, by simp [sliceV, boundOf, hn], .inr rfl⟩
theorem str_eq {a b : ByteArray} : (a.toList == b.toList) = decide (a = b) := by
  rw [Bool.eq_iff_iff, beq_iff_eq, decide_eq_true_eq]
  constructor
  · intro h
    rw [ByteArray.toList_eq, ByteArray.toList_eq] at h
    cases a; cases b
    simp at h
    rw [h]
  · rintro rfl; rfl
theorem bst_eql {a b : ByteArray} : binStr .eql a b = some (.bool (decide (a = b))) := by rw [← str_eq]; rfl
theorem bst_neq {a b : ByteArray} : binStr .neq a b = some (.bool (!decide (a = b))) := by rw [← str_eq]; rfl
attribute [go_sem] bst_eql bst_neq
end Go.V
namespace Go.V
theorem map_of {α β : Type} {f : α → β} {P : α → Prop} : ∀ {xs : List β}, (∀ x ∈ xs, ∃ a, x = f a ∧ P a) → ∃ aa : List α, xs = aa.map f ∧ ∀ a ∈ aa, P a
  | [], _ => ⟨[], rfl, by simp⟩
  | x :: r, h => by
    obtain ⟨a, rfl, ha⟩ := h x (by simp)
    obtain ⟨aa, rfl, has⟩ := map_of (xs := r) fun x hx => h x (by simp [hx])
    exact ⟨a :: aa, rfl, by simpa using ⟨ha, has⟩⟩
def in64 (n : Int) : Prop := -9223372036854775808 ≤ n ∧ n < 9223372036854775808
theorem in64_of {n : Int} (h : (Lit.int .i64 n).wf = true) : in64 n := by
  simp only [Lit.wf, Bool.and_eq_true, decide_eq_true_eq] at h
  have h1 : IntKind.i64.min = -9223372036854775808 := rfl
  have h2 : IntKind.i64.max = 9223372036854775807 := rfl
  rw [h1, h2] at h
  exact ⟨h.1, by omega⟩
theorem inU8_of {n : Int} (h : (Lit.int .u8 n).wf = true) : 0 ≤ n ∧ n < 256 := by
  simp only [Lit.wf, Bool.and_eq_true, decide_eq_true_eq] at h
  have h1 : IntKind.u8.min = 0 := rfl
  have h2 : IntKind.u8.max = 255 := rfl
  rw [h1, h2] at h
  omega
structure RdA (d : D) (aa : List (Int × Int × Int × Int)) : Prop where
  len : lenV false d = some (.int .i64 (aa.length : Int))
  idx : ∀ i (h : i < aa.length), idxAV 4 d (.int .i64 (i : Int)) = some (.fp [.int .i64 aa[i].1, .int .i64 aa[i].2.1, .int .i64 aa[i].2.2.1, .int .i64 aa[i].2.2.2] 0)
  rng : ∀ a ∈ aa, in64 a.1 ∧ in64 a.2.1 ∧ in64 a.2.2.1 ∧ in64 a.2.2.2
def Ty.act : Ty := .slice 4 (.struct [.int .i64, .int .i64, .int .i64, .int .i64])
theorem acts_of {d : D} (h : ArgT Ty.act d) : ∃ aa, RdA d aa := by
  have h : HasT Ty.act [d] := h
  simp only [Ty.act, HasT] at h
  rcases h with h | ⟨xs, h, _, hx⟩
  · simp at h
    subst h
    exact ⟨[], rfl, by intro i h; simp at h, by simp⟩
  · simp at h
    subst h
    obtain ⟨aa, rfl, has⟩ := map_of (f := fun (a : Int × Int × Int × Int) => [D.int .i64 a.1, .int .i64 a.2.1, .int .i64 a.2.2.1, .int .i64 a.2.2.2]) (P := fun a => in64 a.1 ∧ in64 a.2.1 ∧ in64 a.2.2.1 ∧ in64 a.2.2.2) (xs := xs) (by
      intro x hm
      have := hx x hm
      simp only [HasTs, HasT] at this
      obtain ⟨a1, b1, rfl, ⟨n1, rfl, w1⟩, a2, b2, rfl, ⟨n2, rfl, w2⟩, a3, b3, rfl, ⟨n3, rfl, w3⟩, a4, b4, rfl, ⟨n4, rfl, w4⟩, rfl⟩ := this
      exact ⟨(n1, n2, n3, n4), rfl, in64_of w1, in64_of w2, in64_of w3, in64_of w4⟩)
    refine ⟨aa, by simp [lenV], fun i hi => ?_, has⟩
    simp [idxAV, hi]
theorem bools_of {d : D} (h : ArgT (.slice 1 .bool) d) : ∃ bs : List Bool, ∀ s, Rd s d (cellsB bs) := by
  have h : HasT (.slice 1 .bool) [d] := h
  simp only [HasT] at h
  rcases h with h | ⟨xs, h, _, hx⟩
  · simp at h
    subst h
    exact ⟨[], fun s => .inl ⟨rfl, rfl⟩⟩
  · simp at h
    subst h
    obtain ⟨bs, rfl, _⟩ := map_of (f := fun (b : Bool) => [D.bool b]) (P := fun _ => True) (xs := xs) (fun x hm => by
      obtain ⟨b, hb⟩ := hx x hm
      exact ⟨b, hb, trivial⟩)
    exact ⟨bs, fun s => .inr (.inl (by simp [cellsB]))⟩
def cellsU (l : List Nat) : List D := l.map fun (n : Nat) => .int .u8 (n : Int)
@[simp] theorem cellsU_length (l : List Nat) : (cellsU l).length = l.length := by simp [cellsU]
theorem all_cellsU (l : List Nat) : (cellsU l).all oneCell = true := by simp [cellsU, oneCell]
theorem Rd.lenU {s : Store} {d : D} {l : List Nat} (h : Rd s d (cellsU l)) : lenV false d = some (.int .i64 (l.length : Int)) := by rw [h.len, cellsU_length]
theorem Rd.idxU {s : Store} {d : D} {l : List Nat} (h : Rd s d (cellsU l)) {i : Nat} (hi : i < l.length) : ∃ p, idxAV 1 d (.int .i64 (i : Int)) = some p ∧ ldV s.get none p = some (.int .u8 (l[i] : Int)) := by
  obtain ⟨p, h1, h2⟩ := h.idx (all_cellsU l) (i := i) (by simpa using hi) (k := .i64) rfl
  exact ⟨p, h1, by rw [h2]; simp [cellsU]⟩
theorem bytes_of {d : D} (h : ArgT (.slice 1 (.int .u8)) d) : ∃ bs : List Nat, (∀ s, Rd s d (cellsU bs)) ∧ ∀ b ∈ bs, b < 256 := by
  have h : HasT (.slice 1 (.int .u8)) [d] := h
  simp only [HasT] at h
  rcases h with h | ⟨xs, h, _, hx⟩
  · simp at h
    subst h
    exact ⟨[], fun s => .inl ⟨rfl, rfl⟩, by simp⟩
  · simp at h
    subst h
    obtain ⟨bs, rfl, hb⟩ := map_of (f := fun (b : Nat) => [D.int .u8 (b : Int)]) (P := fun b => b < 256) (xs := xs) (fun x hm => by
      obtain ⟨n, hn, hw⟩ := hx x hm
      have := inU8_of hw
      refine ⟨n.toNat, ?_, by omega⟩
      rw [hn, Int.toNat_of_nonneg this.1])
    exact ⟨bs, fun s => .inr (.inl (by simp [cellsU])), hb⟩
theorem Sl.push1 {s : Store} {d : D} {l : List D} {ids : List Nat} (h : Sl s d l ids) (x : D) {bytes : Nat} (hb : bytes ≤ 16) (hl : l.length < 2 ^ 40) :
    ∃ s' d', appendV 1 bytes d (.arr s.next 0 1 1) (s.push (.cells [x])) = some (d', s') ∧ Sl s' d' (l ++ [x]) [s.next + 1] ∧ s'.next = s.next + 2 ∧ Fr ids s s' := by
  have h' : Sl (s.push (.cells [x])) d l ids := h.stay (ids2 := []) (Fr.push _) (by simp)
  obtain ⟨s', d', e1, e2, e3, e4⟩ := h'.push (new := [x]) (id2 := s.next) (bytes := bytes) (get_push_new rfl) (by simp) hb (by simp; omega)
  refine ⟨s', d', e1, e2, e3, by rw [e3, Store.next_push]; omega, fun i hi hn => ?_⟩
  rw [e4 i hn (by simp only [Store.next_push]; omega), get_push_old hi]
section
variable {fs : FuncId → Option VFunc}
theorem vq_ld {pairs i t n x rest s Q} {env : Env} {p d : D} (hx : env.ev x = p) (hl : ldV s.get n p = some d) (h : WQ fs pairs rest ((t, d) :: env) s Q) : WQ fs pairs ((i, ⟨some t, .r (.load n x), none⟩) :: rest) env s Q :=
  vq_r (by rw [evR_load, hx]; exact hl) h
theorem splice_set {l : List D} {n : Nat} {x : D} (h : n < l.length) : splice l n [x] = l.set n x := by
  simp only [splice, List.length_singleton]
  rw [List.set_eq_take_append_cons_drop, if_pos h]
  simp
theorem vq_w1 {i a v rest s Q} {env : Env} {id n : Nat} {l : List D} {x : D} (hg : s.get id = some (.cells l)) (hn : n < l.length) (ho : oneCell x = true) (ha : env.ev a = .ptr id n) (hv : env.ev v = x)
    (h : WQ fs [] rest env (s.set id (some (.cells (l.set n x)))) Q) : WQ fs [] ((i, ⟨none, .w 1 a v, none⟩) :: rest) env s Q := by
  refine vq_w (id := id) (ob := .cells (l.set n x)) ?_ h
  simp only [evW, ha, hg, hv, cellsOf_one ho, List.length_singleton, List.all_cons, List.all_nil, ho]
  rw [if_pos ⟨trivial, by omega, rfl, by omega⟩, splice_set hn]
theorem cellsB_set (l : List Bool) (n : Nat) (b : Bool) : (cellsB l).set n (.bool b) = cellsB (l.set n b) := by simp [cellsB, List.map_set]
theorem cellsI_set (l : List Nat) (n k : Nat) : (cellsI l).set n (.int .i64 (k : Int)) = cellsI (l.set n k) := by simp [cellsI, List.map_set]
theorem vq_wB {i a v rest s Q} {env : Env} {id n : Nat} {l : List Bool} {b : Bool} (hg : s.get id = some (.cells (cellsB l))) (hn : n < l.length) (ha : env.ev a = .ptr id n) (hv : env.ev v = .bool b)
    (h : WQ fs [] rest env (s.set id (some (.cells (cellsB (l.set n b))))) Q) : WQ fs [] ((i, ⟨none, .w 1 a v, none⟩) :: rest) env s Q :=
  vq_w1 hg (by simpa using hn) rfl ha hv (by rw [cellsB_set]; exact h)
theorem vq_wI {i a v rest s Q} {env : Env} {id n k : Nat} {l : List Nat} (hg : s.get id = some (.cells (cellsI l))) (hn : n < l.length) (ha : env.ev a = .ptr id n) (hv : env.ev v = .int .i64 (k : Int))
    (h : WQ fs [] rest env (s.set id (some (.cells (cellsI (l.set n k))))) Q) : WQ fs [] ((i, ⟨none, .w 1 a v, none⟩) :: rest) env s Q :=
  vq_w1 hg (by simpa using hn) rfl ha hv (by rw [cellsI_set]; exact h)
end
theorem zerosB : ∀ n, zeros [.bool false] n = cellsB (List.replicate n false)
  | 0 => rfl
  | n + 1 => by simp only [zeros, zerosB n, List.replicate_succ, cellsB, List.map_cons, List.cons_append, List.nil_append]
theorem zerosI : ∀ n, zeros [.int .i64 0] n = cellsI (List.replicate n 0)
  | 0 => rfl
  | n + 1 => by simp only [zeros, zerosI n, List.replicate_succ, cellsI, List.map_cons, List.cons_append, List.nil_append]; rfl
theorem rdB_arr {s : Store} {id : Nat} {l : List Bool} (h : s.get id = some (.cells (cellsB l))) : Rd s (.arr id 0 l.length 1) (cellsB l) := by
  have := Rd.arr h
  rwa [cellsB_length] at this
theorem rdI_arr {s : Store} {id : Nat} {l : List Nat} (h : s.get id = some (.cells (cellsI l))) : Rd s (.arr id 0 l.length 1) (cellsI l) := by
  have := Rd.arr h
  rwa [cellsI_length] at this
end Go.V
namespace Go.V
structure Nd where
  kind : Int
  dw : D
  dn : D
  dk : D
  pos : Int
  words : List ByteArray
  nums : List Int
  kids : List Int
  deriving Inhabited
def Nd.row (x : Nd) : List D := [.int .i64 x.kind, x.dw, x.dn, x.dk, .int .i64 x.pos]
structure Nd.Ok (x : Nd) : Prop where
  w : FS x.dw x.words
  n : FI x.dn x.nums
  k : FI x.dk x.kids
  ki : in64 x.kind
  wl : x.words.length ≤ maxLen
  nl : x.nums.length ≤ maxLen
  kl : x.kids.length ≤ maxLen
  ni : ∀ n ∈ x.nums, in64 n
  ii : ∀ n ∈ x.kids, in64 n
structure TreeAt (d : D) (t : List Nd) : Prop where
  fl : FL 5 d (t.map Nd.row)
  ok : ∀ x ∈ t, x.Ok
  le : t.length ≤ maxLen
theorem TreeAt.len {d : D} {t : List Nd} (h : TreeAt d t) : lenV false d = some (.int .i64 (t.length : Int)) := by rw [h.fl.len, List.length_map]
theorem TreeAt.idx {d : D} {t : List Nd} (h : TreeAt d t) {i : Nat} (hi : i < t.length) {k : IntKind} : idxAV 5 d (.int k (i : Int)) = some (.fp [.int .i64 t[i].kind, t[i].dw, t[i].dn, t[i].dk, .int .i64 t[i].pos] 0) := by
  rw [h.fl.idx (by simpa using hi)]; simp [Nd.row]
theorem TreeAt.get {d : D} {t : List Nd} (h : TreeAt d t) {i : Nat} (hi : i < t.length) : t[i].Ok := h.ok _ (List.getElem_mem hi)
def Ty.node : Ty := .struct [.int .i64, .slice 1 .str, .slice 1 (.int .i64), .slice 1 (.int .i64), .int .i64]
def Ty.tree : Ty := .slice 5 Ty.node
theorem strs_of {a : List D} (h : HasT (.slice 1 .str) a) : ∃ d l, a = [d] ∧ FS d l ∧ l.length ≤ maxLen := by
  simp only [HasT] at h
  rcases h with rfl | ⟨xs, rfl, hl, hx⟩
  · exact ⟨.nils, [], rfl, .inl ⟨rfl, rfl⟩, by simp⟩
  · obtain ⟨l, rfl, _⟩ := map_of (f := fun (b : ByteArray) => [D.str b]) (P := fun _ => True) (xs := xs) (fun x hm => by
      obtain ⟨b, hb, _⟩ := hx x hm
      exact ⟨b, hb, trivial⟩)
    exact ⟨_, l, rfl, .inr rfl, by simpa using hl⟩
theorem ints_of {a : List D} (h : HasT (.slice 1 (.int .i64)) a) : ∃ d l, a = [d] ∧ FI d l ∧ l.length ≤ maxLen ∧ ∀ n ∈ l, in64 n := by
  simp only [HasT] at h
  rcases h with rfl | ⟨xs, rfl, hl, hx⟩
  · exact ⟨.nils, [], rfl, .inl ⟨rfl, rfl⟩, by simp, by simp⟩
  · obtain ⟨l, rfl, hi⟩ := map_of (f := fun (n : Int) => [D.int .i64 n]) (P := fun n => in64 n) (xs := xs) (fun x hm => by
      obtain ⟨n, hn, w⟩ := hx x hm
      exact ⟨n, hn, in64_of w⟩)
    exact ⟨_, l, rfl, .inr rfl, by simpa using hl, hi⟩
theorem node_of {a : List D} (h : HasT Ty.node a) : ∃ x : Nd, a = x.row ∧ x.Ok := by
  simp only [Ty.node, HasT, HasTs] at h
  obtain ⟨a1, b1, rfl, ⟨n1, rfl, w1⟩, a2, b2, rfl, h2, a3, b3, rfl, h3, a4, b4, rfl, h4, a5, b5, rfl, ⟨n5, rfl, w5⟩, rfl⟩ := h
  obtain ⟨dw, lw, rfl, fw, lwl⟩ := strs_of (by simpa only [HasT] using h2)
  obtain ⟨dn, ln, rfl, fn, lnl, lni⟩ := ints_of (by simpa only [HasT] using h3)
  obtain ⟨dk, lk, rfl, fk, lkl, lki⟩ := ints_of (by simpa only [HasT] using h4)
  exact ⟨⟨n1, dw, dn, dk, n5, lw, ln, lk⟩, rfl, fw, fn, fk, in64_of w1, lwl, lnl, lkl, lni, lki⟩
theorem tree_of {d : D} (h : ArgT Ty.tree d) : ∃ t, TreeAt d t := by
  have h : HasT Ty.tree [d] := h
  rw [Ty.tree, HasT] at h
  rcases h with h | ⟨xs, h, hl, hx⟩
  · simp at h
    subst h
    exact ⟨[], .inl ⟨rfl, rfl⟩, by simp, by simp⟩
  · simp at h
    subst h
    obtain ⟨t, rfl, hi⟩ := map_of (f := Nd.row) (P := Nd.Ok) (xs := xs) fun x hm => node_of (hx x hm)
    exact ⟨t, .inr rfl, hi, by simpa using hl⟩
theorem intsA_of {d : D} (h : ArgT (.slice 1 (.int .i64)) d) : ∃ l, FI d l ∧ l.length ≤ maxLen ∧ ∀ n ∈ l, in64 n := by
  obtain ⟨d', l, e, h⟩ := ints_of (a := [d]) h
  simp at e
  subst e
  exact ⟨l, h⟩
end Go.V
namespace Go.V
structure Ch where
  name : ByteArray
  room : Int
  width : Int
  lossy : Bool
  copying : Bool
  deriving Inhabited
structure Vr where
  name : ByteArray
  width : Int
  value : Int
  deriving Inhabited
structure Ed where
  frm : Nat
  to : Nat
  act : Nat
  expr : Int
  var : Int
  chan : Int
  keep : Bool
  node : Nat
  deriving Inhabited
structure Pr where
  name : ByteArray
  copy : Nat
  locals : List Nat
  places : Nat
  rest : List Bool
  edges : List Ed
  names : List ByteArray
  vars : List Nat
  deriving Inhabited
def Ch.row (c : Ch) : List D := [.str c.name, .int .i64 c.room, .int .i64 c.width, .bool c.lossy, .bool c.copying]
def Vr.row (v : Vr) : List D := [.str v.name, .int .i64 v.width, .int .i64 v.value]
def Ed.row (e : Ed) : List D := [.int .i64 (e.frm : Int), .int .i64 (e.to : Int), .int .i64 (e.act : Int), .int .i64 e.expr, .int .i64 e.var, .int .i64 e.chan, .bool e.keep, .int .i64 (e.node : Int)]
def Pr.put (p : Pr) (frm to act : Nat) (node : Nat) (expr v c : Int) : Pr := { p with edges := p.edges ++ [⟨frm, to, act, expr, v, c, false, node⟩] }
def Pr.place (p : Pr) : Pr := { p with places := p.places + 1, rest := p.rest ++ [false] }
def Pr.idle (p : Pr) (n : Nat) (is : Int) : Pr := if is = 1 then { p with rest := p.rest.set n true } else p
def findN (l : List ByteArray) (s : ByteArray) : Nat := if l.findIdx (fun x => decide (x = s)) < l.length then l.findIdx (fun x => decide (x = s)) else 0
def inB (l : List ByteArray) (s : ByteArray) : Bool := l.any fun x => decide (x = s)
theorem inB_iff {l : List ByteArray} {s : ByteArray} : inB l s = true ↔ s ∈ l := by
  unfold inB
  rw [List.any_eq_true]
  constructor
  · rintro ⟨x, hx, h⟩
    rw [decide_eq_true_eq] at h
    exact h ▸ hx
  · intro h
    exact ⟨s, h, by simp⟩
def nd (t : List Nd) (i : Nat) : Nd := t.getD i default
def Nd.kid (x : Nd) (i : Nat) : Nat := (x.kids.getD i 0).toNat
def Nd.ks (x : Nd) : List Nat := x.kids.map Int.toNat
def Nd.word (x : Nd) (i : Nat) : ByteArray := x.words.getD i default
def Nd.num (x : Nd) (i : Nat) : Int := x.nums.getD i 0
def sevF (st : Pr → Nat → Nat → Nat → Pr) (node : Nat) : Pr → List Nat → Nat → Nat → Pr
  | p, [], frm, to => p.put frm to 0 node (-1) (-1) (-1)
  | p, [k], frm, to => st p k frm to
  | p, k :: k' :: ks, frm, to => sevF st node (st p.place k frm p.places) (k' :: ks) p.places to
def blkF (t : List Nd) (st : Pr → Nat → Nat → Nat → Pr) (p : Pr) (b frm to : Nat) : Pr := sevF st b p (nd t b).ks frm to
def loops (t : List Nd) (b : Nat) : Bool := match (nd t b).ks with
  | [] => false
  | k :: _ => (nd t k).kind == 12
def chooseF (t : List Nd) (st : Pr → Nat → Nat → Nat → Pr) (frm to : Nat) : Pr → List Nat → Pr
  | p, [] => p
  | p, k :: ks => chooseF t st frm to (if loops t k then blkF t st (p.place.put frm p.places 0 k (-1) (-1) (-1)) k p.places to else blkF t st p k frm to) ks
def markK (n to : Nat) (l : List Ed) : List Ed := l.take n ++ (l.drop n).map fun e => { e with keep := e.to != to && e.to != 1 }
def statF (t : List Nd) (ch : List ByteArray) : Nat → Pr → Nat → Nat → Nat → Pr
  | 0, p, _, _, _ => p
  | f + 1, p, at', frm, to =>
    let n := nd t at'
    let st := statF t ch f
    if n.kind = 6 then p.put frm to 1 at' (n.kid 0) (p.vars.getD (findN p.names (n.word 0)) 0 : Nat) (-1)
    else if n.kind = 7 then p.put frm to 2 at' (n.kid 0) (-1) (findN ch (n.word 0) : Nat)
    else if n.kind = 8 then (p.idle frm (n.num 0)).put frm to 3 at' (-1) (p.vars.getD (findN p.names (n.word 1)) 0 : Nat) (findN ch (n.word 0) : Nat)
    else if n.kind = 9 then (p.idle frm (n.num 0)).put frm to 4 at' (n.kid 0) (-1) (-1)
    else if n.kind = 10 then chooseF t st frm to (p.idle frm (n.num 0)) n.ks
    else if n.kind = 11 then
      let p1 := blkF t st (p.place.put frm p.places 4 at' (n.kid 0) (-1) (-1)) (n.kid 1) p.places to
      if n.kids.length = 2 then p1.put frm to 5 at' (n.kid 0) (-1) (-1)
      else blkF t st (p1.place.put frm p1.places 5 at' (n.kid 0) (-1) (-1)) (n.kid 2) p1.places to
    else if n.kind = 12 then blkF t st ((p.place.put frm p.places 4 at' (n.kid 0) (-1) (-1)).put frm to 5 at' (n.kid 0) (-1) (-1)) (n.kid 1) p.places frm
    else if n.kind = 13 then
      let p1 := blkF t st p (n.kid 0) frm to
      { p1 with edges := markK p.edges.length to p1.edges }
    else if n.kind = 15 then p.put frm 1 0 at' (-1) (-1) (-1)
    else p.put frm to 0 at' (-1) (-1) (-1)
end Go.V
namespace Go.V
def exprK (k : Int) : Prop := 17 ≤ k ∧ k ≤ 22
def statK (k : Int) : Prop := 6 ≤ k ∧ k ≤ 15
def wcount (k : Int) : Nat := if k = 8 then 2 else if k = 1 ∨ k = 2 ∨ k = 3 ∨ k = 6 ∨ k = 7 ∨ k = 18 ∨ k = 19 then 1 else 0
def ncount (k : Int) : Nat := if k = 1 then 4 else if k = 2 then 2 else if k = 3 ∨ k = 8 ∨ k = 9 ∨ k = 10 ∨ k = 17 ∨ k = 22 then 1 else 0
structure NodeOk (t : List Nd) (x : Nd) : Prop where
  kr : 0 ≤ x.kind ∧ x.kind ≤ 22
  wl : x.words.length = wcount x.kind
  nl : x.nums.length = ncount x.kind
  prog : x.kind = 0 → ∀ k ∈ x.ks, 1 ≤ (nd t k).kind ∧ (nd t k).kind ≤ 5
  chan : x.kind = 1 → 0 ≤ x.num 0 ∧ 0 ≤ x.num 1 ∧ 0 ≤ x.num 2 ∧ x.num 2 ≤ 1 ∧ 0 ≤ x.num 3 ∧ x.num 3 ≤ 1
  var : x.kind = 2 → -999999 ≤ x.num 1 ∧ x.num 1 ≤ 999999
  proc : x.kind = 3 → ∃ v, v ≤ x.ks.length ∧ (∀ k ∈ x.ks.take v, (nd t k).kind = 2) ∧ ∀ k ∈ x.ks.drop v, statK (nd t k).kind
  copies : x.kind = 3 → 0 ≤ x.num 0 ∧ x.num 0 ≤ 999999
  one : x.kind = 4 ∨ x.kind = 6 ∨ x.kind = 7 ∨ x.kind = 9 ∨ x.kind = 20 ∨ x.kind = 21 → x.kids.length = 1 ∧ exprK (nd t (x.kid 0)).kind
  none : x.kind = 1 ∨ x.kind = 2 ∨ x.kind = 5 ∨ x.kind = 8 ∨ x.kind = 14 ∨ x.kind = 15 ∨ x.kind = 17 ∨ x.kind = 18 ∨ x.kind = 19 → x.kids = []
  choose : x.kind = 10 → 1 ≤ x.kids.length ∧ ∀ k ∈ x.ks, (nd t k).kind = 16
  cond : x.kind = 11 → (x.kids.length = 2 ∨ x.kids.length = 3) ∧ exprK (nd t (x.kid 0)).kind ∧ (nd t (x.kid 1)).kind = 16 ∧ (x.kids.length = 3 → (nd t (x.kid 2)).kind = 16)
  loop : x.kind = 12 → x.kids.length = 2 ∧ exprK (nd t (x.kid 0)).kind ∧ (nd t (x.kid 1)).kind = 16
  atom : x.kind = 13 → x.kids.length = 1 ∧ (nd t (x.kid 0)).kind = 16
  block : x.kind = 16 → ∀ k ∈ x.ks, statK (nd t k).kind
  bin : x.kind = 22 → x.kids.length = 2 ∧ exprK (nd t (x.kid 0)).kind ∧ exprK (nd t (x.kid 1)).kind ∧ 0 ≤ x.num 0 ∧ x.num 0 ≤ 8
  flag : x.kind = 8 ∨ x.kind = 9 ∨ x.kind = 10 → 0 ≤ x.num 0 ∧ x.num 0 ≤ 1
  lit : x.kind = 17 → 0 ≤ x.num 0 ∧ x.num 0 ≤ 999999
structure TreeOk (t : List Nd) : Prop where
  pos : 0 < t.length
  le : t.length ≤ 800
  root : (nd t 0).kind = 0
  kids : ∀ i, i < t.length → ∀ k ∈ (nd t i).kids, (i : Int) < k ∧ k < (t.length : Int)
  node : ∀ i, i < t.length → NodeOk t (nd t i)
theorem nd_get {t : List Nd} {i : Nat} (h : i < t.length) : nd t i = t[i] := by simp [nd, List.getD, h]
theorem TreeOk.ks {t : List Nd} (h : TreeOk t) {i : Nat} (hi : i < t.length) : ∀ k ∈ (nd t i).ks, i < k ∧ k < t.length := by
  intro k hk
  obtain ⟨z, hz, rfl⟩ := List.mem_map.1 hk
  have := h.kids i hi z hz
  omega
theorem kid_mem {x : Nd} {i : Nat} (h : i < x.kids.length) : x.kid i ∈ x.ks := by
  unfold Nd.kid Nd.ks
  simp only [List.getD, List.getElem?_eq_getElem h, Option.getD_some]
  exact List.mem_map_of_mem (List.getElem_mem h)
theorem ks_len (x : Nd) : x.ks.length = x.kids.length := by simp [Nd.ks]
structure EdOk (t : List Nd) (nch pl : Nat) (vars : List Nat) (e : Ed) : Prop where
  f : e.frm < pl
  to : e.to < pl
  act : e.act ≤ 5
  ex0 : e.act = 0 ∨ e.act = 3 → e.expr = -1
  ex1 : e.act = 1 ∨ e.act = 2 ∨ e.act = 4 ∨ e.act = 5 → ∃ n : Nat, e.expr = (n : Int) ∧ n < t.length ∧ exprK (nd t n).kind
  v1 : e.act = 1 ∨ e.act = 3 → ∃ n ∈ vars, e.var = ((n : Nat) : Int)
  v0 : e.act = 0 ∨ e.act = 2 ∨ e.act = 4 ∨ e.act = 5 → e.var = -1
  c1 : e.act = 2 ∨ e.act = 3 → ∃ n : Nat, e.chan = (n : Int) ∧ n < nch
  c0 : e.act = 0 ∨ e.act = 1 ∨ e.act = 4 ∨ e.act = 5 → e.chan = -1
theorem EdOk.mono {t : List Nd} {nch pl pl' : Nat} {vars : List Nat} {e : Ed} (h : EdOk t nch pl vars e) (hp : pl ≤ pl') : EdOk t nch pl' vars e :=
  ⟨by have := h.f; omega, by have := h.to; omega, h.act, h.ex0, h.ex1, h.v1, h.v0, h.c1, h.c0⟩
structure PInv (t : List Nd) (nch : Nat) (p : Pr) : Prop where
  two : 2 ≤ p.places
  rest : p.rest.length = p.places
  ed : ∀ e ∈ p.edges, EdOk t nch p.places p.vars e
structure PGrow (p q : Pr) : Prop where
  name : q.name = p.name
  copy : q.copy = p.copy
  locals : q.locals = p.locals
  names : q.names = p.names
  vars : q.vars = p.vars
  places : p.places ≤ q.places
  edges : ∃ l, q.edges = p.edges ++ l
theorem PGrow.refl (p : Pr) : PGrow p p := ⟨rfl, rfl, rfl, rfl, rfl, Nat.le_refl _, [], by simp⟩
theorem PGrow.trans {p q r : Pr} (h : PGrow p q) (k : PGrow q r) : PGrow p r := by
  obtain ⟨l, hl⟩ := h.edges
  obtain ⟨m, hm⟩ := k.edges
  exact ⟨k.name.trans h.name, k.copy.trans h.copy, k.locals.trans h.locals, k.names.trans h.names, k.vars.trans h.vars, Nat.le_trans h.places k.places, l ++ m, by rw [hm, hl, List.append_assoc]⟩
theorem grow_put (p : Pr) (frm to act node : Nat) (expr v c : Int) : PGrow p (p.put frm to act node expr v c) := ⟨rfl, rfl, rfl, rfl, rfl, Nat.le_refl _, _, rfl⟩
theorem grow_place (p : Pr) : PGrow p p.place := ⟨rfl, rfl, rfl, rfl, rfl, Nat.le_succ _, [], by simp [Pr.place]⟩
theorem grow_idle (p : Pr) (n : Nat) (is : Int) : PGrow p (p.idle n is) := by
  unfold Pr.idle
  split
  · exact ⟨rfl, rfl, rfl, rfl, rfl, Nat.le_refl _, [], by simp⟩
  · exact PGrow.refl p
theorem idle_places (p : Pr) (n : Nat) (is : Int) : (p.idle n is).places = p.places ∧ (p.idle n is).edges = p.edges ∧ (p.idle n is).vars = p.vars ∧ (p.idle n is).names = p.names := by
  unfold Pr.idle; split <;> exact ⟨rfl, rfl, rfl, rfl⟩
theorem inv_put {t : List Nd} {nch : Nat} {p : Pr} {frm to act node : Nat} {expr v c : Int} (h : PInv t nch p) (he : EdOk t nch p.places p.vars ⟨frm, to, act, expr, v, c, false, node⟩) : PInv t nch (p.put frm to act node expr v c) := by
  refine ⟨h.two, h.rest, fun e hm => ?_⟩
  rcases List.mem_append.1 hm with hm | hm
  · exact h.ed e hm
  · simp at hm; subst hm; exact he
theorem inv_place {t : List Nd} {nch : Nat} {p : Pr} (h : PInv t nch p) : PInv t nch p.place :=
  ⟨by have := h.two; simp [Pr.place]; omega, by simp [Pr.place, h.rest], fun e hm => (h.ed e hm).mono (Nat.le_succ _)⟩
theorem inv_idle {t : List Nd} {nch : Nat} {p : Pr} {n : Nat} {is : Int} (h : PInv t nch p) : PInv t nch (p.idle n is) := by
  unfold Pr.idle
  split
  · exact ⟨h.two, by simp [h.rest], h.ed⟩
  · exact h
theorem skip_ok {t : List Nd} {nch pl : Nat} {vars : List Nat} {frm to node : Nat} (hf : frm < pl) (ht : to < pl) : EdOk t nch pl vars ⟨frm, to, 0, -1, -1, -1, false, node⟩ :=
  ⟨hf, ht, by simp, by simp, by simp, by simp, by simp, by simp, by simp⟩
theorem when_ok {t : List Nd} {nch pl : Nat} {vars : List Nat} {frm to node n : Nat} {a : Nat} (ha : a = 4 ∨ a = 5) (hf : frm < pl) (ht : to < pl) (hn : n < t.length) (hk : exprK (nd t n).kind) : EdOk t nch pl vars ⟨frm, to, a, (n : Int), -1, -1, false, node⟩ := by
  refine ⟨hf, ht, ?_, ?_, fun _ => ⟨n, rfl, hn, hk⟩, ?_, fun _ => rfl, ?_, fun _ => rfl⟩ <;> simp <;> omega
def StOk (t : List Nd) (nch : Nat) (names : List ByteArray) (vars : List Nat) (st : Pr → Nat → Nat → Nat → Pr) (k : Nat) : Prop :=
  ∀ p frm to, PInv t nch p → p.names = names → p.vars = vars → frm < p.places → to < p.places → PInv t nch (st p k frm to) ∧ PGrow p (st p k frm to)
theorem sev_ok {t : List Nd} {nch : Nat} {names : List ByteArray} {vars : List Nat} {st : Pr → Nat → Nat → Nat → Pr} {node : Nat} : ∀ {ks : List Nat} {p : Pr} {frm to : Nat}, (∀ k ∈ ks, StOk t nch names vars st k) →
    PInv t nch p → p.names = names → p.vars = vars → frm < p.places → to < p.places → PInv t nch (sevF st node p ks frm to) ∧ PGrow p (sevF st node p ks frm to)
  | [], p, frm, to, _, h, hn, hv, hf, ht => ⟨inv_put h (skip_ok hf ht), grow_put _ _ _ _ _ _ _ _⟩
  | [k], p, frm, to, hs, h, hn, hv, hf, ht => hs k (by simp) p frm to h hn hv hf ht
  | k :: k' :: ks, p, frm, to, hs, h, hn, hv, hf, ht => by
    have h1 := hs k (by simp) p.place frm p.places (inv_place h) hn hv (Nat.lt_succ_of_lt hf) (Nat.lt_succ_self _)
    have g1 := (grow_place p).trans h1.2
    have := h1.2.places
    have : p.place.places = p.places + 1 := rfl
    have h2 := sev_ok (node := node) (ks := k' :: ks) (p := st p.place k frm p.places) (frm := p.places) (to := to) (fun x hx => hs x (by simp only [List.mem_cons] at hx ⊢; right; exact hx)) h1.1 (g1.names.trans hn) (g1.vars.trans hv) (by omega) (by omega)
    exact ⟨h2.1, g1.trans h2.2⟩
theorem choose_ok {t : List Nd} {nch : Nat} {names : List ByteArray} {vars : List Nat} {st : Pr → Nat → Nat → Nat → Pr} {frm to : Nat} : ∀ {ks : List Nat} {p : Pr}, (∀ b ∈ ks, ∀ k ∈ (nd t b).ks, StOk t nch names vars st k) →
    PInv t nch p → p.names = names → p.vars = vars → frm < p.places → to < p.places → PInv t nch (chooseF t st frm to p ks) ∧ PGrow p (chooseF t st frm to p ks)
  | [], p, _, h, _, _, _, _ => ⟨h, PGrow.refl p⟩
  | k :: ks, p, hs, h, hn, hv, hf, ht => by
    have key : ∀ q, PInv t nch q → PGrow p q → PInv t nch (chooseF t st frm to q ks) ∧ PGrow p (chooseF t st frm to q ks) := fun q hq gq => by
      have := gq.places
      have := choose_ok (ks := ks) (p := q) (frm := frm) (to := to) (fun b hb => hs b (by simp [hb])) hq (gq.names.trans hn) (gq.vars.trans hv) (by omega) (by omega)
      exact ⟨this.1, gq.trans this.2⟩
    have hk := hs k (by simp)
    unfold chooseF
    split
    · have h1 := inv_put (node := k) (inv_place h) (skip_ok (frm := frm) (to := p.places) (Nat.lt_succ_of_lt hf) (Nat.lt_succ_self _))
      have g1 := (grow_place p).trans (grow_put p.place frm p.places 0 k (-1) (-1) (-1))
      have := sev_ok (node := k) (frm := p.places) (to := to) hk h1 hn hv (Nat.lt_succ_self _) (Nat.lt_succ_of_lt ht)
      exact key _ this.1 (g1.trans this.2)
    · have := sev_ok (node := k) (frm := frm) (to := to) hk h hn hv hf ht
      exact key _ this.1 this.2
theorem blk_ok {t : List Nd} {nch : Nat} {names : List ByteArray} {vars : List Nat} {st : Pr → Nat → Nat → Nat → Pr} {b : Nat} {p : Pr} {frm to : Nat} (hs : ∀ k ∈ (nd t b).ks, StOk t nch names vars st k)
    (h : PInv t nch p) (hn : p.names = names) (hv : p.vars = vars) (hf : frm < p.places) (ht : to < p.places) : PInv t nch (blkF t st p b frm to) ∧ PGrow p (blkF t st p b frm to) := sev_ok hs h hn hv hf ht
structure Sight (t : List Nd) (nch : Nat) (ch names : List ByteArray) (vars : List Nat) (k : Nat) : Prop where
  same : names.length = vars.length
  chs : ch.length = nch
  v : (nd t k).kind = 6 ∨ (nd t k).kind = 8 → 0 < names.length
  c : (nd t k).kind = 7 ∨ (nd t k).kind = 8 → 0 < ch.length
theorem findN_lt {l : List ByteArray} {s : ByteArray} (h : 0 < l.length) : findN l s < l.length := by
  unfold findN; split <;> assumption
theorem getD_mem {l : List Nat} {i : Nat} (h : i < l.length) : l.getD i 0 ∈ l := by simp [List.getD, h]
theorem mark_mem {n to : Nat} {l : List Ed} {e : Ed} (h : e ∈ markK n to l) : ∃ e' ∈ l, ∃ b, e = { e' with keep := b } := by
  rcases List.mem_append.1 h with h | h
  · exact ⟨e, List.mem_of_mem_take h, e.keep, rfl⟩
  · obtain ⟨e', h', rfl⟩ := List.mem_map.1 h
    exact ⟨e', List.mem_of_mem_drop h', _, rfl⟩
theorem stat_ok {t : List Nd} (ht : TreeOk t) {nch : Nat} {ch names : List ByteArray} {vars : List Nat} {P : Nat → Prop} (hc : ∀ j, j < t.length → P j → ∀ k ∈ (nd t j).ks, P k) (hs : ∀ k, P k → Sight t nch ch names vars k) : ∀ (f k : Nat), k < t.length → P k → statK (nd t k).kind → t.length - k < f → StOk t nch names vars (statF t ch f) k
  | 0, k, _, _, _, hf => by omega
  | f + 1, k, hk, hP, hst, hf => by
    intro p frm to h hn hv hfr hto
    have hno := ht.node k hk
    have hks := ht.ks hk
    have hS := hs k hP
    have bl : ∀ b ∈ (nd t k).ks, (nd t b).kind = 16 → ∀ x ∈ (nd t b).ks, StOk t nch names vars (statF t ch f) x := fun b hb hb16 x hx => by
      have h1 := hks b hb
      have h2 := ht.ks h1.2 x hx
      exact stat_ok ht hc hs f x h2.2 (hc b h1.2 (hc k hk hP b hb) x hx) ((ht.node b h1.2).block hb16 x hx) (by omega)
    have hvar : 0 < names.length → ∀ s, ∃ n ∈ p.vars, ((p.vars.getD (findN p.names s) 0 : Nat) : Int) = ((n : Nat) : Int) := fun hp s => by
      refine ⟨_, getD_mem ?_, rfl⟩
      rw [hv, hn, ← hS.same]
      exact findN_lt hp
    have hch : 0 < ch.length → ∀ s, ∃ n : Nat, ((findN ch s : Nat) : Int) = (n : Int) ∧ n < nch := fun hp s => ⟨_, rfl, by rw [← hS.chs]; exact findN_lt hp⟩
    have hex : 1 ≤ (nd t k).kids.length → exprK (nd t ((nd t k).kid 0)).kind → ∃ n : Nat, (((nd t k).kid 0 : Nat) : Int) = (n : Int) ∧ n < t.length ∧ exprK (nd t n).kind := fun h1 h2 => ⟨_, rfl, (hks _ (kid_mem h1)).2, h2⟩
    have ip := idle_places p frm ((nd t k).num 0)
    have gi := grow_idle p frm ((nd t k).num 0)
    have ii := inv_idle (n := frm) (is := (nd t k).num 0) h
    unfold statF
    simp only
    have hp2 := h.two
    by_cases c6 : (nd t k).kind = 6
    · rw [if_pos c6]
      have h1 := hno.one (by omega)
      refine ⟨inv_put h ⟨hfr, hto, by simp, by simp, fun _ => hex (by omega) h1.2, fun _ => hvar (hS.v (by omega)) _, by simp, by simp, fun _ => rfl⟩, grow_put _ _ _ _ _ _ _ _⟩
    rw [if_neg c6]
    by_cases c7 : (nd t k).kind = 7
    · rw [if_pos c7]
      have h1 := hno.one (by omega)
      refine ⟨inv_put h ⟨hfr, hto, by simp, by simp, fun _ => hex (by omega) h1.2, by simp, fun _ => rfl, fun _ => hch (hS.c (by omega)) _, by simp⟩, grow_put _ _ _ _ _ _ _ _⟩
    rw [if_neg c7]
    by_cases c8 : (nd t k).kind = 8
    · rw [if_pos c8]
      refine ⟨inv_put ii ⟨by rw [ip.1]; exact hfr, by rw [ip.1]; exact hto, by simp, fun _ => rfl, by simp, fun _ => by rw [ip.2.2.1]; exact hvar (hS.v (by omega)) _, by simp, fun _ => hch (hS.c (by omega)) _, by simp⟩, gi.trans (grow_put _ _ _ _ _ _ _ _)⟩
    rw [if_neg c8]
    by_cases c9 : (nd t k).kind = 9
    · rw [if_pos c9]
      have h1 := hno.one (by omega)
      exact ⟨inv_put ii (when_ok (.inl rfl) (by rw [ip.1]; exact hfr) (by rw [ip.1]; exact hto) (hks _ (kid_mem (by omega))).2 h1.2), gi.trans (grow_put _ _ _ _ _ _ _ _)⟩
    rw [if_neg c9]
    by_cases c10 : (nd t k).kind = 10
    · rw [if_pos c10]
      have h1 := hno.choose c10
      have := choose_ok (frm := frm) (to := to) (fun b hb => bl b hb (h1.2 b hb)) ii (ip.2.2.2.trans hn) (ip.2.2.1.trans hv) (by rw [ip.1]; exact hfr) (by rw [ip.1]; exact hto)
      exact ⟨this.1, gi.trans this.2⟩
    rw [if_neg c10]
    by_cases c11 : (nd t k).kind = 11
    · rw [if_pos c11]
      obtain ⟨l1, l2, l3, l4⟩ := hno.cond c11
      have k0 := (hks _ (kid_mem (i := 0) (by omega))).2
      have m1 := kid_mem (x := nd t k) (i := 1) (by omega)
      have i1 := inv_put (node := k) (inv_place h) (when_ok (.inl rfl) (frm := frm) (to := p.places) (Nat.lt_succ_of_lt hfr) (Nat.lt_succ_self _) k0 l2)
      have g1 := (grow_place p).trans (grow_put p.place frm p.places 4 k ((nd t k).kid 0 : Nat) (-1) (-1))
      have s1 := blk_ok (b := (nd t k).kid 1) (frm := p.places) (to := to) (bl _ m1 l3) i1 hn hv (Nat.lt_succ_self _) (Nat.lt_succ_of_lt hto)
      generalize blkF t (statF t ch f) (p.place.put frm p.places 4 k ((nd t k).kid 0 : Nat) (-1) (-1)) ((nd t k).kid 1) p.places to = q at *
      have g2 := g1.trans s1.2
      have := g2.places
      split
      · exact ⟨inv_put s1.1 (when_ok (.inr rfl) (by omega) (by omega) k0 l2), g2.trans (grow_put _ _ _ _ _ _ _ _)⟩
      · have l3' : (nd t k).kids.length = 3 := by omega
        have m2 := kid_mem (x := nd t k) (i := 2) (by omega)
        have hpl : q.place.places = q.places + 1 := rfl
        have i2 := inv_put (node := k) (inv_place s1.1) (when_ok (.inr rfl) (frm := frm) (to := q.places) (by omega) (Nat.lt_succ_self _) k0 l2)
        have g3 := (g2.trans (grow_place _)).trans (grow_put _ frm q.places 5 k ((nd t k).kid 0 : Nat) (-1) (-1))
        have s2 := blk_ok (b := (nd t k).kid 2) (frm := q.places) (to := to) (bl _ m2 (l4 l3')) i2 (g3.names.trans hn) (g3.vars.trans hv) (Nat.lt_succ_self _) (by show to < q.places + 1; omega)
        exact ⟨s2.1, g3.trans s2.2⟩
    rw [if_neg c11]
    by_cases c12 : (nd t k).kind = 12
    · rw [if_pos c12]
      obtain ⟨l1, l2, l3⟩ := hno.loop c12
      have k0 := (hks _ (kid_mem (i := 0) (by omega))).2
      have m1 := kid_mem (x := nd t k) (i := 1) (by omega)
      have i1 := inv_put (node := k) (inv_place h) (when_ok (.inl rfl) (frm := frm) (to := p.places) (Nat.lt_succ_of_lt hfr) (Nat.lt_succ_self _) k0 l2)
      have i2 := inv_put (node := k) i1 (when_ok (.inr rfl) (frm := frm) (to := to) (Nat.lt_succ_of_lt hfr) (Nat.lt_succ_of_lt hto) k0 l2)
      have g1 := ((grow_place p).trans (grow_put p.place frm p.places 4 k ((nd t k).kid 0 : Nat) (-1) (-1))).trans (grow_put _ frm to 5 k ((nd t k).kid 0 : Nat) (-1) (-1))
      have s1 := sev_ok (node := (nd t k).kid 1) (frm := p.places) (to := frm) (bl _ m1 l3) i2 hn hv (Nat.lt_succ_self _) (Nat.lt_succ_of_lt hfr)
      exact ⟨s1.1, g1.trans s1.2⟩
    rw [if_neg c12]
    by_cases c13 : (nd t k).kind = 13
    · rw [if_pos c13]
      obtain ⟨l1, l2⟩ := hno.atom c13
      have m0 := kid_mem (x := nd t k) (i := 0) (by omega)
      have s1 := sev_ok (node := (nd t k).kid 0) (frm := frm) (to := to) (bl _ m0 l2) h hn hv hfr hto
      obtain ⟨l, hl⟩ := s1.2.edges
      refine ⟨⟨s1.1.two, s1.1.rest, fun e he => ?_⟩, ⟨s1.2.name, s1.2.copy, s1.2.locals, s1.2.names, s1.2.vars, s1.2.places, l.map fun e => { e with keep := e.to != to && e.to != 1 }, ?_⟩⟩
      · obtain ⟨e', h', b, rfl⟩ := mark_mem he
        have := s1.1.ed e' h'
        exact ⟨this.f, this.to, this.act, this.ex0, this.ex1, this.v1, this.v0, this.c1, this.c0⟩
      · show markK _ _ (blkF t (statF t ch f) p ((nd t k).kid 0) frm to).edges = p.edges ++ l.map fun e => { e with keep := e.to != to && e.to != 1 }
        unfold markK blkF
        rw [hl, List.take_left, List.drop_left]
    rw [if_neg c13]
    by_cases c15 : (nd t k).kind = 15
    · rw [if_pos c15]
      exact ⟨inv_put h (skip_ok hfr (by omega)), grow_put _ _ _ _ _ _ _ _⟩
    rw [if_neg c15]
    exact ⟨inv_put h (skip_ok hfr hto), grow_put _ _ _ _ _ _ _ _⟩
end Go.V
namespace Go.V
def kidsF (w : Nat → Nat × Bool) (len : Nat) : List Int → Nat → Nat × Bool
  | [], next => (next, true)
  | k :: ks, next => if k ≠ (next : Int) ∨ len ≤ next then (next, false) else if (w next).2 then kidsF w len ks (w next).1 else ((w next).1, false)
def walkF (t : List Nd) : Nat → Nat → Nat × Bool
  | 0, i => (i, false)
  | f + 1, i => kidsF (walkF t f) t.length (nd t i).kids (i + 1)
structure Sub (t : List Nd) (i n : Nat) : Prop where
  lt : i < n
  le : n ≤ t.length
  down : ∀ j, i ≤ j → j < n → ∀ k ∈ (nd t j).kids, (j : Int) < k ∧ k < (n : Int)
  up : ∀ j, i < j → j < n → ∃ p, i ≤ p ∧ p < n ∧ (j : Int) ∈ (nd t p).kids
def Subs (t : List Nd) : List Int → Nat → Nat → Prop
  | [], a, n => a = n
  | k :: ks, a, n => k = (a : Int) ∧ ∃ b, Sub t a b ∧ Subs t ks b n
theorem Subs.le {t : List Nd} : ∀ {ks : List Int} {a n : Nat}, Subs t ks a n → a ≤ n
  | [], a, n, h => Nat.le_of_eq h
  | k :: ks, a, n, h => by
    obtain ⟨_, b, h1, h2⟩ := h
    have := h1.lt
    have := h2.le
    omega
theorem Subs.down {t : List Nd} : ∀ {ks : List Int} {a n : Nat}, Subs t ks a n → ∀ j, a ≤ j → j < n → ∀ k ∈ (nd t j).kids, (j : Int) < k ∧ k < (n : Int)
  | [], a, n, h, j, h1, h2 => by simp only [Subs] at h; omega
  | k :: ks, a, n, h, j, h1, h2 => by
    obtain ⟨_, b, h3, h4⟩ := h
    have := h4.le
    by_cases hj : j < b
    · intro x hx
      have := h3.down j h1 hj x hx
      omega
    · exact h4.down j (by omega) h2
theorem Subs.up {t : List Nd} : ∀ {ks : List Int} {a n : Nat}, Subs t ks a n → ∀ j, a ≤ j → j < n → (j : Int) ∈ ks ∨ ∃ p, a ≤ p ∧ p < n ∧ (j : Int) ∈ (nd t p).kids
  | [], a, n, h, j, h1, h2 => by simp only [Subs] at h; omega
  | k :: ks, a, n, h, j, h1, h2 => by
    obtain ⟨rfl, b, h3, h4⟩ := h
    have := h4.le
    have := h3.lt
    by_cases hj : j < b
    · by_cases ha : j = a
      · subst ha; exact .inl (by simp)
      · obtain ⟨p, p1, p2, p3⟩ := h3.up j (by omega) hj
        exact .inr ⟨p, p1, by omega, p3⟩
    · rcases h4.up j (by omega) h2 with h | ⟨p, p1, p2, p3⟩
      · exact .inl (by simp [h])
      · exact .inr ⟨p, by omega, p2, p3⟩
theorem Subs.mem {t : List Nd} : ∀ {ks : List Int} {a n : Nat}, Subs t ks a n → ∀ k ∈ ks, (a : Int) ≤ k ∧ k < (n : Int)
  | [], a, n, h => by simp
  | k :: ks, a, n, h => by
    obtain ⟨rfl, b, h3, h4⟩ := h
    have := h4.le
    have := h3.lt
    intro x hx
    rcases List.mem_cons.1 hx with rfl | hx
    · omega
    · have := h4.mem x hx
      omega
theorem sub_of {t : List Nd} {i n : Nat} (h : Subs t (nd t i).kids (i + 1) n) (hn : n ≤ t.length) : Sub t i n := by
  have hl := h.le
  refine ⟨by omega, hn, fun j h1 h2 => ?_, fun j h1 h2 => ?_⟩
  · by_cases hj : j = i
    · subst hj
      intro k hk
      have := h.mem k hk
      omega
    · exact h.down j (by omega) h2
  · rcases h.up j (by omega) h2 with h | ⟨p, p1, p2, p3⟩
    · exact ⟨i, by omega, by omega, h⟩
    · exact ⟨p, by omega, p2, p3⟩
theorem kids_ok {t : List Nd} {w : Nat → Nat × Bool} (hw : ∀ i n, i < t.length → w i = (n, true) → Sub t i n) : ∀ {ks : List Int} {next n : Nat}, next ≤ t.length → kidsF w t.length ks next = (n, true) → Subs t ks next n ∧ n ≤ t.length
  | [], next, n, hl, h => by
    simp only [kidsF, Prod.mk.injEq, and_true] at h
    subst h
    exact ⟨rfl, hl⟩
  | k :: ks, next, n, hl, h => by
    unfold kidsF at h
    split at h
    · simp at h
    · rename_i hc
      split at h
      · rename_i ht
        have hk : k = (next : Int) ∧ next < t.length := by omega
        have a := hw next (w next).1 hk.2 (by rw [← ht])
        obtain ⟨b1, b2⟩ := kids_ok hw a.le h
        exact ⟨⟨hk.1, _, a, b1⟩, b2⟩
      · simp at h
theorem walk_ok {t : List Nd} : ∀ (f : Nat) {i n : Nat}, i < t.length → walkF t f i = (n, true) → Sub t i n ∧ Subs t (nd t i).kids (i + 1) n
  | 0, i, n, _, h => by simp [walkF] at h
  | f + 1, i, n, hi, h => by
    obtain ⟨a1, a2⟩ := kids_ok (fun i n hi h => (walk_ok f hi h).1) (by omega) h
    exact ⟨sub_of a1 a2, a1⟩
theorem kids_le {t : List Nd} {w : Nat → Nat × Bool} (hw : ∀ i, i < t.length → (w i).1 ≤ t.length) : ∀ {ks : List Int} {next : Nat}, next ≤ t.length → (kidsF w t.length ks next).1 ≤ t.length
  | [], next, h => h
  | k :: ks, next, h => by
    unfold kidsF
    split
    · exact h
    · rename_i hc
      split
      · exact kids_le hw (hw next (by omega))
      · exact hw next (by omega)
theorem walk_le {t : List Nd} : ∀ (f : Nat) {i : Nat}, i < t.length → (walkF t f i).1 ≤ t.length
  | 0, i, h => Nat.le_of_lt h
  | f + 1, i, h => kids_le (fun i hi => walk_le f hi) (by omega)
end Go.V
namespace Go.V
structure RightT (t : List Nd) : Prop where
  ok : TreeOk t
  subs : Subs t (nd t 0).kids 1 t.length
  walk : walkF t 20 0 = (t.length, true)
def itemF : List Int → Nat → Nat → Nat
  | [], _, out => out
  | k :: ks, i, out => itemF ks i (if k ≤ (i : Int) then k.toNat else out)
def item (t : List Nd) (i : Nat) : Nat := itemF (nd t 0).kids i 0
theorem itemF_late {ks : List Int} {i out : Nat} (h : ∀ k ∈ ks, (i : Int) < k) : itemF ks i out = out := by
  induction ks generalizing out with
  | nil => rfl
  | cons k ks ih =>
    have := h k (by simp)
    unfold itemF
    rw [if_neg (by omega)]
    exact ih fun x hx => h x (by simp [hx])
theorem itemF_in {t : List Nd} : ∀ {ks : List Int} {a n i out : Nat}, Subs t ks a n → a ≤ i → i < n → ∃ b, (itemF ks i out : Int) ∈ ks ∧ Sub t (itemF ks i out) b ∧ itemF ks i out ≤ i ∧ i < b
  | [], a, n, i, out, h, h1, h2 => by simp only [Subs] at h; omega
  | k :: ks, a, n, i, out, h, h1, h2 => by
    obtain ⟨rfl, b, h3, h4⟩ := h
    unfold itemF
    rw [if_pos (by omega)]
    by_cases hb : i < b
    · rw [itemF_late fun x hx => by have := h4.mem x hx; omega]
      exact ⟨b, by simp, by simpa using h3, by simpa using h1, hb⟩
    · obtain ⟨c, c1, c2, c3, c4⟩ := itemF_in (out := (a : Int).toNat) h4 (by omega) h2
      exact ⟨c, List.mem_cons_of_mem _ c1, c2, c3, c4⟩
theorem item_in {t : List Nd} (h : RightT t) {i : Nat} (h1 : 1 ≤ i) (h2 : i < t.length) : ∃ b, (item t i : Int) ∈ (nd t 0).kids ∧ Sub t (item t i) b ∧ item t i ≤ i ∧ i < b := itemF_in h.subs h1 h2
theorem Subs.apart {t : List Nd} : ∀ {ks : List Int} {a n : Nat}, Subs t ks a n → ∀ {x y : Nat} {b c : Nat}, (x : Int) ∈ ks → (y : Int) ∈ ks → Sub t x b → Sub t y c → x < y → (∀ b', Sub t x b' → b' = b) → b ≤ y
  | [], a, n, h, x, y, b, c, hx, _, _, _, _, _ => by simp at hx
  | k :: ks, a, n, h, x, y, b, c, hx, hy, sx, sy, hl, hu => by
    obtain ⟨rfl, d, h3, h4⟩ := h
    rcases List.mem_cons.1 hx with hx | hx
    · obtain rfl : x = a := by omega
      obtain rfl := hu d h3
      rcases List.mem_cons.1 hy with hy | hy
      · omega
      · have := h4.mem _ hy
        omega
    · rcases List.mem_cons.1 hy with hy | hy
      · have := h4.mem _ hx
        have := h3.lt
        omega
      · exact h4.apart hx hy sx sy hl hu
theorem item_self {t : List Nd} (h : RightT t) {x : Nat} (hx : (x : Int) ∈ (nd t 0).kids) : item t x = x := by
  have hm := h.subs.mem _ hx
  have key : ∀ {ks : List Int} {a n out : Nat}, Subs t ks a n → (x : Int) ∈ ks → itemF ks x out = x := by
    intro ks
    induction ks with
    | nil => intro a n out _ hx; simp at hx
    | cons k ks ih =>
      intro a n out hs hx
      obtain ⟨rfl, b, h3, h4⟩ := hs
      unfold itemF
      rcases List.mem_cons.1 hx with hx | hx
      · rw [if_pos (by omega), itemF_late fun y hy => by have := h4.mem y hy; have := h3.lt; omega]
        omega
      · exact ih h4 hx
  exact key h.subs hx
theorem item_below {t : List Nd} (h : RightT t) {x i : Nat} (hx : (x : Int) ∈ (nd t 0).kids) : ∃ b, Sub t x b ∧ b ≤ t.length ∧ ∀ i, x ≤ i → i < b → item t i = x := by
  have key : ∀ {ks : List Int} {a n : Nat}, Subs t ks a n → (x : Int) ∈ ks → ∃ b, Sub t x b ∧ b ≤ n ∧ ∀ i out, x ≤ i → i < b → itemF ks i out = x := by
    intro ks
    induction ks with
    | nil => intro a n _ hx; simp at hx
    | cons k ks ih =>
      intro a n hs hx
      obtain ⟨rfl, b, h3, h4⟩ := hs
      have hl := h4.le
      rcases List.mem_cons.1 hx with hx | hx
      · obtain rfl : x = a := by omega
        refine ⟨b, h3, hl, fun i out h1 h2 => ?_⟩
        unfold itemF
        rw [if_pos (by omega), itemF_late fun y hy => by have := h4.mem y hy; omega]
        omega
      · obtain ⟨c, c1, c2, c3⟩ := ih h4 hx
        exact ⟨c, c1, c2, fun i out h1 h2 => c3 i _ h1 h2⟩
  obtain ⟨b, b1, b2, b3⟩ := key h.subs hx
  exact ⟨b, b1, b2, fun i h1 h2 => b3 i 0 h1 h2⟩
def Seen (t : List Nd) (kind : Int) (at' : Nat) (s : ByteArray) : Prop := ∃ i, i < at' ∧ (nd t i).kind = kind ∧ (item t i = i ∨ item t i = item t at') ∧ (nd t i).word 0 = s
def namesF (t : List Nd) (at' : Nat) (kind : Int) : Nat → List ByteArray
  | 0 => []
  | i + 1 => if (nd t i).kind = kind ∧ (item t i = i ∨ item t i = item t at') ∧ inB (namesF t at' kind i) ((nd t i).word 0) = false then namesF t at' kind i ++ [(nd t i).word 0] else namesF t at' kind i
theorem mem_names {t : List Nd} {at' : Nat} {kind : Int} {s : ByteArray} : ∀ {n : Nat}, s ∈ namesF t at' kind n ↔ ∃ i, i < n ∧ (nd t i).kind = kind ∧ (item t i = i ∨ item t i = item t at') ∧ (nd t i).word 0 = s
  | 0 => by simp [namesF]
  | n + 1 => by
    have ih := mem_names (t := t) (at' := at') (kind := kind) (s := s) (n := n)
    rw [namesF]
    split
    · rename_i hc
      rw [List.mem_append, ih]
      constructor
      · rintro (⟨i, h1, h2⟩ | h)
        · exact ⟨i, by omega, h2⟩
        · simp at h
          exact ⟨n, by omega, hc.1, hc.2.1, h.symm⟩
      · rintro ⟨i, h1, h2, h3, h4⟩
        by_cases hi : i = n
        · subst hi; right; simp [h4]
        · exact .inl ⟨i, by omega, h2, h3, h4⟩
    · rename_i hc
      rw [ih]
      constructor
      · rintro ⟨i, h1, h2⟩
        exact ⟨i, by omega, h2⟩
      · rintro ⟨i, h1, h2, h3, h4⟩
        by_cases hi : i = n
        · subst hi
          have : (nd t i).word 0 ∈ namesF t at' kind i := by
            rw [← inB_iff]
            cases h : inB (namesF t at' kind i) ((nd t i).word 0)
            · exact (hc ⟨h2, h3, h⟩).elim
            · rfl
          rw [h4] at this
          obtain ⟨j, j1, j2⟩ := ih.1 this
          exact ⟨j, j1, j2⟩
        · exact ⟨i, by omega, h2, h3, h4⟩
structure Scoped (t : List Nd) : Prop where
  use : ∀ i, i < t.length → (nd t i).kind = 6 ∨ (nd t i).kind = 18 → Seen t 2 i ((nd t i).word 0)
  chan : ∀ i, i < t.length → (nd t i).kind = 7 ∨ (nd t i).kind = 19 ∨ (nd t i).kind = 8 → Seen t 1 i ((nd t i).word 0)
  recv : ∀ i, i < t.length → (nd t i).kind = 8 → Seen t 2 i ((nd t i).word 1)
  once : ∀ i, i < t.length → (nd t i).kind = 1 ∨ (nd t i).kind = 2 ∨ (nd t i).kind = 3 → ¬ Seen t 1 i ((nd t i).word 0) ∧ ¬ Seen t 2 i ((nd t i).word 0) ∧ ¬ Seen t 3 i ((nd t i).word 0)
end Go.V
namespace Go.Proofs.Ytlaeblilmppodaa
open Go.V
set_option maxRecDepth 100000
set_option maxHeartbeats 4000000
set_option linter.unusedSimpArgs false
set_option linter.unusedVariables false
theorem succ63 {i n : Nat} (h : i < n) (hn : n ≤ maxLen) : IntKind.i64.wrap ((i : Int) + 1) = ((i + 1 : Nat) : Int) := by
  have : maxLen = 9223372036854775807 := rfl
  rw [i64_id (by omega) (by omega)]; omega
def Iso (f : Nat) (l : List D) (r : D) : Prop := ∃ s1, Ev vfs f l Store.empty r s1
def IsoB (f : Nat) (l : List D) (P : Bool → Prop) : Prop := ∃ b, Iso f l (.bool b) ∧ P b
theorem isoB_of {f : Nat} {l : List D} {P : Bool → Prop} (h : EvP vfs f l Store.empty fun d _ => ∃ b, d = .bool b ∧ P b) : IsoB f l P := by
  obtain ⟨d, s', h, b, rfl, hp⟩ := h
  exact ⟨b, ⟨s', h⟩, hp⟩
theorem iso_of {f : Nat} {l : List D} {r : D} (h : EvP vfs f l Store.empty fun d _ => d = r) : Iso f l r := by
  obtain ⟨d, s', h, rfl⟩ := h
  exact ⟨s', h⟩
theorem vq_isoI {pairs i t f args rest s Q} {env : Env} {l : List D} {r : D} (hr : Iso f l r) (hs : scal1 r = true) (hl : env.evL args = l) (ha : mapO (V.ice s.get 20) l = some l)
    (h : WQ vfs pairs rest ((t, r) :: env) s Q) : WQ vfs pairs ((i, ⟨some t, .m (.call .iso (.cst (.fn f [])) args), none⟩) :: rest) env s Q := by
  obtain ⟨s1, hr⟩ := hr
  exact vq_isoL hr hs hl ha h
theorem letter_ok {n : Int} : IsoB 72 [.int .u8 n] fun _ => True := by
  refine isoB_of ?_
  by_cases c1 : 65 ≤ n <;> by_cases c2 : n ≤ 90 <;> by_cases c3 : 97 ≤ n <;> by_cases c4 : n ≤ 122
  all_goals
    refine evp_of (vf := vf72) rfl ?_
    simp only [vf72, xq, xg, xm, xmg, xc, xl, xlg, xf, xfg, xw, xa, xk, xi, xig, xo, xr, xrp, xn, List.map, List.getD, List.getElem?_cons_zero, List.getElem?_cons_succ, List.getElem?_nil, Option.getD]
    repeat first
     |with_reducible first|apply vA|apply vB|apply vC
     |((with_reducible apply vD); (focus rfl))
     |((with_reducible first|apply vE|apply vF|apply vG|apply vH); simp only [Env.keep, Env.get, Env.ev, List.map, Nat.reduceEqDiff, ↓reduceIte, Then, Out'])
     |((with_reducible first|apply vI|apply vJ|apply vK|apply vL|apply vM|apply vN); (focus (simp (disch := (first|with_reducible assumption|omega|((repeat (first|rw [nP]|rw [nS]))<;>omega)|fail)) only [go_sem, ↓reduceIte, c1, c2, c3, c4] <;> rfl)); (first|(with_reducible (first|apply vO|apply vP|apply vQ|apply vR|apply vS|apply vT|apply vU); try simp only [Env.put])|with_reducible refine (?_ : WQ _ _ _ _ _ _)))
     |fail
    exact ⟨.inr trivial, _, (by simp only [resOf, resAll, resOne, Env.get, Nat.reduceEqDiff, ↓reduceIte] <;> rfl), _, rfl, trivial⟩
theorem digit_ok {n : Int} : IsoB 74 [.int .u8 n] fun _ => True := by
  refine isoB_of ?_
  by_cases c1 : 48 ≤ n <;> by_cases c2 : n ≤ 57
  all_goals
    refine evp_of (vf := vf74) rfl ?_
    simp only [vf74, xq, xg, xm, xmg, xc, xl, xlg, xf, xfg, xw, xa, xk, xi, xig, xo, xr, xrp, xn, List.map, List.getD, List.getElem?_cons_zero, List.getElem?_cons_succ, List.getElem?_nil, Option.getD]
    repeat first
     |with_reducible first|apply vA|apply vB|apply vC
     |((with_reducible apply vD); (focus rfl))
     |((with_reducible first|apply vE|apply vF|apply vG|apply vH); simp only [Env.keep, Env.get, Env.ev, List.map, Nat.reduceEqDiff, ↓reduceIte, Then, Out'])
     |((with_reducible first|apply vI|apply vJ|apply vK|apply vL|apply vM|apply vN); (focus (simp (disch := (first|with_reducible assumption|omega|((repeat (first|rw [nP]|rw [nS]))<;>omega)|fail)) only [go_sem, ↓reduceIte, c1, c2] <;> rfl)); (first|(with_reducible (first|apply vO|apply vP|apply vQ|apply vR|apply vS|apply vT|apply vU); try simp only [Env.put])|with_reducible refine (?_ : WQ _ _ _ _ _ _)))
     |fail
    exact ⟨.inr trivial, _, (by simp only [resOf, resAll, resOne, Env.get, Nat.reduceEqDiff, ↓reduceIte] <;> rfl), _, rfl, trivial⟩
theorem word_ok {n : Int} : IsoB 73 [.int .u8 n] fun _ => True := by
  refine isoB_of ?_
  obtain ⟨b1, h1, _⟩ := letter_ok (n := n)
  obtain ⟨b2, h2, _⟩ := digit_ok (n := n)
  cases b1 <;> cases b2 <;> by_cases c1 : (n == 95) = true
  all_goals
    refine evp_of (vf := vf73) rfl ?_
    simp only [vf73, xq, xg, xm, xmg, xc, xl, xlg, xf, xfg, xw, xa, xk, xi, xig, xo, xr, xrp, xn, List.map, List.getD, List.getElem?_cons_zero, List.getElem?_cons_succ, List.getElem?_nil, Option.getD]
    repeat first
     |(apply vq_isoI h1 rfl rfl rfl)
     |(apply vq_isoI h2 rfl rfl rfl)
     |with_reducible first|apply vA|apply vB|apply vC
     |((with_reducible apply vD); (focus rfl))
     |((with_reducible first|apply vE|apply vF|apply vG|apply vH); simp only [Env.keep, Env.get, Env.ev, List.map, Nat.reduceEqDiff, ↓reduceIte, Then, Out'])
     |((with_reducible first|apply vI|apply vJ|apply vK|apply vL|apply vM|apply vN); (focus (simp (disch := (first|with_reducible assumption|omega|((repeat (first|rw [nP]|rw [nS]))<;>omega)|fail)) only [go_sem, ↓reduceIte, c1] <;> rfl)); (first|(with_reducible (first|apply vO|apply vP|apply vQ|apply vR|apply vS|apply vT|apply vU); try simp only [Env.put])|with_reducible refine (?_ : WQ _ _ _ _ _ _)))
     |fail
    exact ⟨.inr trivial, _, (by simp only [resOf, resAll, resOne, Env.get, Nat.reduceEqDiff, ↓reduceIte] <;> rfl), _, rfl, trivial⟩
theorem rd_cells {s : Store} {id n : Nat} {cs : List D} (h : s.get id = some (.cells cs)) (hn : cs.length = n) : Rd s (.arr id 0 n 1) cs := by subst hn; exact Rd.arr h
theorem key_ok {x : ByteArray} : IsoB 113 [.str x] fun _ => True := by
  refine isoB_of ?_
  refine evp_of (vf := vf113) rfl ?_
  simp only [vf113, xq, xg, xm, xmg, xc, xl, xlg, xf, xfg, xw, xa, xk, xi, xig, xo, xr, xrp, xn, List.map, List.getD, List.getElem?_cons_zero, List.getElem?_cons_succ, List.getElem?_nil, Option.getD]
  repeat first
   |with_reducible first|apply vA|apply vB|apply vC
   |((with_reducible apply vD); (focus rfl))
   |((with_reducible first|apply vE|apply vF|apply vG|apply vH); simp only [Env.keep, Env.get, Env.ev, List.map, Nat.reduceEqDiff, ↓reduceIte, Then, Out'])
   |((with_reducible first|apply vI|apply vJ|apply vK|apply vL|apply vM|apply vN); (focus (simp (disch := (first|with_reducible assumption|omega|((repeat (first|rw [nP]|rw [nS]))<;>omega)|fail)) only [go_sem, ↓reduceIte] <;> rfl)); (first|(with_reducible (first|apply vO|apply vP|apply vQ|apply vR|apply vS|apply vT|apply vU); try simp only [Env.put])|with_reducible refine (?_ : WQ _ _ _ _ _ _)))
   |fail
  refine vw_loop_inv (Q := Out' 0 _) (fun n env s => ∃ (i : Nat) (cs : List D), i ≤ 21 ∧ n = 21 - i ∧ s.get 0 = some (.cells cs) ∧ cs.length = 21 ∧ (∀ c ∈ cs, ∃ y, c = .str y) ∧ (env.get 0 = .str x ∧ env.get 3 = .arr 0 0 21 1 ∧ env.get 4 = .int .i64 (i : Int))) ?_ 21 _ _
    ⟨0, _, by omega, rfl, get_push_new rfl, rfl, by simp, by simp [Env.get, Made.at]; rfl⟩
  rintro n env s ⟨i, cs, hi, rfl, hg, hl, hc, hE⟩
  have l21 : ((21 : Nat) : Int) = 21 := rfl
  by_cases h : i < 21
  · have c1 : ((i : Int) < 21) = True := eq_true (by omega)
    have hs : IntKind.i64.wrap ((i : Int) + 1) = ((i + 1 : Nat) : Int) := by rw [i64_id (by omega) (by omega)]; omega
    have ho : cs.all oneCell = true := by
      rw [List.all_eq_true]
      intro c hm
      obtain ⟨y, rfl⟩ := hc c hm
      rfl
    obtain ⟨p, p1, p2⟩ := (rd_cells hg hl).idx ho (i := i) (by omega) (k := .i64) rfl
    obtain ⟨y, hy⟩ := hc cs[i] (List.getElem_mem _)
    rw [hy] at p2
    by_cases c2 : y = x
    · repeat first
       |with_reducible first|apply vA|apply vB|apply vC
       |((with_reducible apply vD); (focus rfl))
       |((with_reducible first|apply vE|apply vF|apply vG|apply vH); simp only [Env.keep, Env.get, Env.ev, List.map, Nat.reduceEqDiff, ↓reduceIte, Then, Out'])
       |((with_reducible first|apply vI|apply vJ|apply vK|apply vL|apply vM|apply vN); (focus (simp (disch := (first|with_reducible assumption|omega|((repeat (first|rw [nP]|rw [nS]))<;>omega)|fail)) only [go_sem, ↓reduceIte, hE, l21, c1, p1, p2, c2] <;> rfl)); (first|(with_reducible (first|apply vO|apply vP|apply vQ|apply vR|apply vS|apply vT|apply vU); try simp only [Env.put])|with_reducible refine (?_ : WQ _ _ _ _ _ _)))
       |fail
      exact ⟨.inr trivial, _, (by simp only [resOf, resAll, resOne, Env.get, Nat.reduceEqDiff, ↓reduceIte] <;> rfl), _, rfl, trivial⟩
    · repeat first
       |with_reducible first|apply vA|apply vB|apply vC
       |((with_reducible apply vD); (focus rfl))
       |((with_reducible first|apply vE|apply vF|apply vG|apply vH); simp only [Env.keep, Env.get, Env.ev, List.map, Nat.reduceEqDiff, ↓reduceIte, Then, Out'])
       |((with_reducible first|apply vI|apply vJ|apply vK|apply vL|apply vM|apply vN); (focus (simp (disch := (first|with_reducible assumption|omega|((repeat (first|rw [nP]|rw [nS]))<;>omega)|fail)) only [go_sem, ↓reduceIte, hE, l21, c1, p1, p2, c2, hs] <;> rfl)); (first|(with_reducible (first|apply vO|apply vP|apply vQ|apply vR|apply vS|apply vT|apply vU); try simp only [Env.put])|with_reducible refine (?_ : WQ _ _ _ _ _ _)))
       |fail
      exact ⟨21 - (i + 1), by omega, i + 1, cs, by omega, rfl, hg, hl, hc, (by simp only [Env.get, Nat.reduceEqDiff, ↓reduceIte, hE, and_self])⟩
  · have c1 : ((i : Int) < 21) = False := eq_false (by omega)
    repeat first
     |with_reducible first|apply vA|apply vB|apply vC
     |((with_reducible apply vD); (focus rfl))
     |((with_reducible first|apply vE|apply vF|apply vG|apply vH); simp only [Env.keep, Env.get, Env.ev, List.map, Nat.reduceEqDiff, ↓reduceIte, Then, Out'])
     |((with_reducible first|apply vI|apply vJ|apply vK|apply vL|apply vM|apply vN); (focus (simp (disch := (first|with_reducible assumption|omega|((repeat (first|rw [nP]|rw [nS]))<;>omega)|fail)) only [go_sem, ↓reduceIte, hE, l21, c1] <;> rfl)); (first|(with_reducible (first|apply vO|apply vP|apply vQ|apply vR|apply vS|apply vT|apply vU); try simp only [Env.put])|with_reducible refine (?_ : WQ _ _ _ _ _ _)))
     |fail
    exact ⟨.inr trivial, _, (by simp only [resOf, resAll, resOne, Env.get, Nat.reduceEqDiff, ↓reduceIte] <;> rfl), _, rfl, trivial⟩
theorem strAt {x : ByteArray} {i : Nat} (h : i < x.size) : ∃ v, idxSV (.str x) (.int .i64 (i : Int)) = some (.int .u8 v) := by
  refine ⟨(x[i]).toNat, ?_⟩
  have : x[i]? = some x[i] := by simp [h]
  simp [idxSV, this]
theorem name_ok {x : ByteArray} : IsoB 112 [.str x] fun _ => True := by
  refine isoB_of ?_
  by_cases c1 : x.size = 0
  · have c1' : ((x.size : Int) == 0) = true := by rw [c1]; rfl
    refine evp_of (vf := vf112) rfl ?_
    simp only [vf112, xq, xg, xm, xmg, xc, xl, xlg, xf, xfg, xw, xa, xk, xi, xig, xo, xr, xrp, xn, List.map, List.getD, List.getElem?_cons_zero, List.getElem?_cons_succ, List.getElem?_nil, Option.getD]
    repeat first
     |with_reducible first|apply vA|apply vB|apply vC
     |((with_reducible apply vD); (focus rfl))
     |((with_reducible first|apply vE|apply vF|apply vG|apply vH); simp only [Env.keep, Env.get, Env.ev, List.map, Nat.reduceEqDiff, ↓reduceIte, Then, Out'])
     |((with_reducible first|apply vI|apply vJ|apply vK|apply vL|apply vM|apply vN); (focus (simp (disch := (first|with_reducible assumption|omega|((repeat (first|rw [nP]|rw [nS]))<;>omega)|fail)) only [go_sem, ↓reduceIte, c1'] <;> rfl)); (first|(with_reducible (first|apply vO|apply vP|apply vQ|apply vR|apply vS|apply vT|apply vU); try simp only [Env.put])|with_reducible refine (?_ : WQ _ _ _ _ _ _)))
     |fail
    exact ⟨.inr trivial, _, (by simp only [resOf, resAll, resOne, Env.get, Nat.reduceEqDiff, ↓reduceIte] <;> rfl), _, rfl, trivial⟩
  have c1' : ((x.size : Int) == 0) = false := by rw [beq_eq_false_iff_ne]; omega
  by_cases c2 : 12 < x.size
  · have c2' : ((12 : Int) < (x.size : Int)) = True := eq_true (by omega)
    refine evp_of (vf := vf112) rfl ?_
    simp only [vf112, xq, xg, xm, xmg, xc, xl, xlg, xf, xfg, xw, xa, xk, xi, xig, xo, xr, xrp, xn, List.map, List.getD, List.getElem?_cons_zero, List.getElem?_cons_succ, List.getElem?_nil, Option.getD]
    repeat first
     |with_reducible first|apply vA|apply vB|apply vC
     |((with_reducible apply vD); (focus rfl))
     |((with_reducible first|apply vE|apply vF|apply vG|apply vH); simp only [Env.keep, Env.get, Env.ev, List.map, Nat.reduceEqDiff, ↓reduceIte, Then, Out'])
     |((with_reducible first|apply vI|apply vJ|apply vK|apply vL|apply vM|apply vN); (focus (simp (disch := (first|with_reducible assumption|omega|((repeat (first|rw [nP]|rw [nS]))<;>omega)|fail)) only [go_sem, ↓reduceIte, c1', c2'] <;> rfl)); (first|(with_reducible (first|apply vO|apply vP|apply vQ|apply vR|apply vS|apply vT|apply vU); try simp only [Env.put])|with_reducible refine (?_ : WQ _ _ _ _ _ _)))
     |fail
    exact ⟨.inr trivial, _, (by simp only [resOf, resAll, resOne, Env.get, Nat.reduceEqDiff, ↓reduceIte] <;> rfl), _, rfl, trivial⟩
  have c2' : ((12 : Int) < (x.size : Int)) = False := eq_false (by omega)
  obtain ⟨v, hv⟩ := strAt (x := x) (i := 0) (by omega)
  obtain ⟨b1, h1, _⟩ := letter_ok (n := v)
  have z0 : ((0 : Nat) : Int) = 0 := rfl
  rw [z0] at hv
  cases b1
  · refine evp_of (vf := vf112) rfl ?_
    simp only [vf112, xq, xg, xm, xmg, xc, xl, xlg, xf, xfg, xw, xa, xk, xi, xig, xo, xr, xrp, xn, List.map, List.getD, List.getElem?_cons_zero, List.getElem?_cons_succ, List.getElem?_nil, Option.getD]
    repeat first
     |(apply vq_isoI h1 rfl rfl rfl)
     |with_reducible first|apply vA|apply vB|apply vC
     |((with_reducible apply vD); (focus rfl))
     |((with_reducible first|apply vE|apply vF|apply vG|apply vH); simp only [Env.keep, Env.get, Env.ev, List.map, Nat.reduceEqDiff, ↓reduceIte, Then, Out'])
     |((with_reducible first|apply vI|apply vJ|apply vK|apply vL|apply vM|apply vN); (focus (simp (disch := (first|with_reducible assumption|omega|((repeat (first|rw [nP]|rw [nS]))<;>omega)|fail)) only [go_sem, ↓reduceIte, c1', c2', hv] <;> rfl)); (first|(with_reducible (first|apply vO|apply vP|apply vQ|apply vR|apply vS|apply vT|apply vU); try simp only [Env.put])|with_reducible refine (?_ : WQ _ _ _ _ _ _)))
     |fail
    exact ⟨.inr trivial, _, (by simp only [resOf, resAll, resOne, Env.get, Nat.reduceEqDiff, ↓reduceIte] <;> rfl), _, rfl, trivial⟩
  obtain ⟨b2, h2, _⟩ := key_ok (x := x)
  cases b2
  · refine evp_of (vf := vf112) rfl ?_
    simp only [vf112, xq, xg, xm, xmg, xc, xl, xlg, xf, xfg, xw, xa, xk, xi, xig, xo, xr, xrp, xn, List.map, List.getD, List.getElem?_cons_zero, List.getElem?_cons_succ, List.getElem?_nil, Option.getD]
    repeat first
     |(apply vq_isoI h1 rfl rfl rfl)
     |(apply vq_isoI h2 rfl rfl rfl)
     |with_reducible first|apply vA|apply vB|apply vC
     |((with_reducible apply vD); (focus rfl))
     |((with_reducible first|apply vE|apply vF|apply vG|apply vH); simp only [Env.keep, Env.get, Env.ev, List.map, Nat.reduceEqDiff, ↓reduceIte, Then, Out'])
     |((with_reducible first|apply vI|apply vJ|apply vK|apply vL|apply vM|apply vN); (focus (simp (disch := (first|with_reducible assumption|omega|((repeat (first|rw [nP]|rw [nS]))<;>omega)|fail)) only [go_sem, ↓reduceIte, c1', c2', hv] <;> rfl)); (first|(with_reducible (first|apply vO|apply vP|apply vQ|apply vR|apply vS|apply vT|apply vU); try simp only [Env.put])|with_reducible refine (?_ : WQ _ _ _ _ _ _)))
     |fail
    refine vw_loop_inv (Q := Out' 0 _) (fun n env s => ∃ i : Nat, i ≤ x.size ∧ n = x.size - i ∧ (env.get 0 = .str x ∧ env.get 3 = .int .i64 (i : Int))) ?_ x.size _ _ ⟨0, by omega, rfl, by simp [Env.get]⟩
    rintro n env s ⟨i, hi, rfl, hE⟩
    by_cases c3 : i < x.size
    · have c3' : ((i : Int) < (x.size : Int)) = True := eq_true (by omega)
      have hs : IntKind.i64.wrap ((i : Int) + 1) = ((i + 1 : Nat) : Int) := by rw [i64_id (by omega) (by omega)]; omega
      obtain ⟨v, hv⟩ := strAt (x := x) (i := i) (by omega)
      obtain ⟨b3, h3, _⟩ := word_ok (n := v)
      cases b3
      · repeat first
         |(apply vq_isoI h3 rfl rfl rfl)
         |with_reducible first|apply vA|apply vB|apply vC
         |((with_reducible apply vD); (focus rfl))
         |((with_reducible first|apply vE|apply vF|apply vG|apply vH); simp only [Env.keep, Env.get, Env.ev, List.map, Nat.reduceEqDiff, ↓reduceIte, Then, Out'])
         |((with_reducible first|apply vI|apply vJ|apply vK|apply vL|apply vM|apply vN); (focus (simp (disch := (first|with_reducible assumption|omega|((repeat (first|rw [nP]|rw [nS]))<;>omega)|fail)) only [go_sem, ↓reduceIte, hE, c3', hv] <;> rfl)); (first|(with_reducible (first|apply vO|apply vP|apply vQ|apply vR|apply vS|apply vT|apply vU); try simp only [Env.put])|with_reducible refine (?_ : WQ _ _ _ _ _ _)))
         |fail
        exact ⟨.inr trivial, _, (by simp only [resOf, resAll, resOne, Env.get, Nat.reduceEqDiff, ↓reduceIte] <;> rfl), _, rfl, trivial⟩
      · repeat first
         |(apply vq_isoI h3 rfl rfl rfl)
         |with_reducible first|apply vA|apply vB|apply vC
         |((with_reducible apply vD); (focus rfl))
         |((with_reducible first|apply vE|apply vF|apply vG|apply vH); simp only [Env.keep, Env.get, Env.ev, List.map, Nat.reduceEqDiff, ↓reduceIte, Then, Out'])
         |((with_reducible first|apply vI|apply vJ|apply vK|apply vL|apply vM|apply vN); (focus (simp (disch := (first|with_reducible assumption|omega|((repeat (first|rw [nP]|rw [nS]))<;>omega)|fail)) only [go_sem, ↓reduceIte, hE, c3', hv, hs] <;> rfl)); (first|(with_reducible (first|apply vO|apply vP|apply vQ|apply vR|apply vS|apply vT|apply vU); try simp only [Env.put])|with_reducible refine (?_ : WQ _ _ _ _ _ _)))
         |fail
        exact ⟨x.size - (i + 1), by omega, i + 1, by omega, rfl, (by simp only [Env.get, Nat.reduceEqDiff, ↓reduceIte, hE, and_self])⟩
    · have c3' : ((i : Int) < (x.size : Int)) = False := eq_false (by omega)
      repeat first
       |with_reducible first|apply vA|apply vB|apply vC
       |((with_reducible apply vD); (focus rfl))
       |((with_reducible first|apply vE|apply vF|apply vG|apply vH); simp only [Env.keep, Env.get, Env.ev, List.map, Nat.reduceEqDiff, ↓reduceIte, Then, Out'])
       |((with_reducible first|apply vI|apply vJ|apply vK|apply vL|apply vM|apply vN); (focus (simp (disch := (first|with_reducible assumption|omega|((repeat (first|rw [nP]|rw [nS]))<;>omega)|fail)) only [go_sem, ↓reduceIte, hE, c3'] <;> rfl)); (first|(with_reducible (first|apply vO|apply vP|apply vQ|apply vR|apply vS|apply vT|apply vU); try simp only [Env.put])|with_reducible refine (?_ : WQ _ _ _ _ _ _)))
       |fail
      exact ⟨.inr trivial, _, (by simp only [resOf, resAll, resOne, Env.get, Nat.reduceEqDiff, ↓reduceIte] <;> rfl), _, rfl, trivial⟩
  · refine evp_of (vf := vf112) rfl ?_
    simp only [vf112, xq, xg, xm, xmg, xc, xl, xlg, xf, xfg, xw, xa, xk, xi, xig, xo, xr, xrp, xn, List.map, List.getD, List.getElem?_cons_zero, List.getElem?_cons_succ, List.getElem?_nil, Option.getD]
    repeat first
     |(apply vq_isoI h1 rfl rfl rfl)
     |(apply vq_isoI h2 rfl rfl rfl)
     |with_reducible first|apply vA|apply vB|apply vC
     |((with_reducible apply vD); (focus rfl))
     |((with_reducible first|apply vE|apply vF|apply vG|apply vH); simp only [Env.keep, Env.get, Env.ev, List.map, Nat.reduceEqDiff, ↓reduceIte, Then, Out'])
     |((with_reducible first|apply vI|apply vJ|apply vK|apply vL|apply vM|apply vN); (focus (simp (disch := (first|with_reducible assumption|omega|((repeat (first|rw [nP]|rw [nS]))<;>omega)|fail)) only [go_sem, ↓reduceIte, c1', c2', hv] <;> rfl)); (first|(with_reducible (first|apply vO|apply vP|apply vQ|apply vR|apply vS|apply vT|apply vU); try simp only [Env.put])|with_reducible refine (?_ : WQ _ _ _ _ _ _)))
     |fail
    exact ⟨.inr trivial, _, (by simp only [resOf, resAll, resOne, Env.get, Nat.reduceEqDiff, ↓reduceIte] <;> rfl), _, rfl, trivial⟩
end Go.Proofs.Ytlaeblilmppodaa
namespace Go.V
def Fz (d : D) : Prop := ∀ g n, ice g (n + 3) d = some d
theorem fz_int {k : IntKind} {n : Int} : Fz (.int k n) := fun _ _ => rfl
theorem fz_bool {b : Bool} : Fz (.bool b) := fun _ _ => rfl
theorem fz_str {x : ByteArray} : Fz (.str x) := fun _ _ => rfl
theorem FL.fz {sz : Nat} {d : D} {rows : List (List D)} (h : FL sz d rows) : Fz d := fun _ _ => h.ice
theorem TreeAt.fz {d : D} {t : List Nd} (h : TreeAt d t) : Fz d := h.fl.fz
theorem mapO_fix {f : D → Option D} : ∀ {l : List D}, (∀ d ∈ l, f d = some d) → mapO f l = some l
  | [], _ => rfl
  | d :: r, h => by
    rw [mapO, h d (by simp), mapO_fix fun x hx => h x (by simp [hx])]
theorem fz0 {g : Look} : mapO (V.ice g 20) [] = some [] := rfl
theorem fz1 {g : Look} {a : D} (ha : Fz a) : mapO (V.ice g 20) [a] = some [a] := by simp only [mapO, ha g 17]
theorem fz2 {g : Look} {a b : D} (ha : Fz a) (hb : Fz b) : mapO (V.ice g 20) [a, b] = some [a, b] := by simp only [mapO, ha g 17, hb g 17]
theorem fz3 {g : Look} {a b c : D} (ha : Fz a) (hb : Fz b) (hc : Fz c) : mapO (V.ice g 20) [a, b, c] = some [a, b, c] := by simp only [mapO, ha g 17, hb g 17, hc g 17]
theorem fz4 {g : Look} {a b c d : D} (ha : Fz a) (hb : Fz b) (hc : Fz c) (hd : Fz d) : mapO (V.ice g 20) [a, b, c, d] = some [a, b, c, d] := by simp only [mapO, ha g 17, hb g 17, hc g 17, hd g 17]
theorem fz5 {g : Look} {a b c d e : D} (ha : Fz a) (hb : Fz b) (hc : Fz c) (hd : Fz d) (he : Fz e) : mapO (V.ice g 20) [a, b, c, d, e] = some [a, b, c, d, e] := by simp only [mapO, ha g 17, hb g 17, hc g 17, hd g 17, he g 17]
theorem fz_agg {l : List D} (h : ∀ d ∈ l, ∀ g n, ice g (n + 2) d = some d) : Fz (.agg l) := fun g n => by
  show (mapO (V.ice g (n + 2)) l).map D.agg = some (D.agg l)
  rw [mapO_fix fun d hd => h d hd g n]
  rfl
theorem FL.ic {sz : Nat} {d : D} {rows : List (List D)} (h : FL sz d rows) : ∀ g n, V.ice g (n + 2) d = some d := fun _ _ => h.ice
theorem Nd.Ok.fz {x : Nd} (h : x.Ok) : Fz (.agg x.row) := fz_agg fun d hd => by
  simp only [Nd.row, List.mem_cons, List.not_mem_nil, or_false] at hd
  rcases hd with rfl | rfl | rfl | rfl | rfl
  · exact fun _ _ => rfl
  · exact FL.ic h.w
  · exact FL.ic h.n
  · exact FL.ic h.k
  · exact fun _ _ => rfl
theorem kid_get {x : Nd} {i : Nat} (h : i < x.kids.length) : x.kid i = x.kids[i].toNat := by simp [Nd.kid, List.getD, h]
theorem num_get {x : Nd} {i : Nat} (h : i < x.nums.length) : x.num i = x.nums[i] := by simp [Nd.num, List.getD, h]
theorem word_get {x : Nd} {i : Nat} (h : i < x.words.length) : x.word i = x.words[i] := by simp [Nd.word, List.getD, h]
theorem TreeAt.at {d : D} {t : List Nd} (h : TreeAt d t) {z : Int} (h0 : 0 ≤ z) (hl : z < (t.length : Int)) {k : IntKind} : idxAV 5 d (.int k z) = some (.fp [.int .i64 (nd t z.toNat).kind, (nd t z.toNat).dw, (nd t z.toNat).dn, (nd t z.toNat).dk, .int .i64 (nd t z.toNat).pos] 0) := by
  have hz : ((z.toNat : Nat) : Int) = z := Int.toNat_of_nonneg h0
  have := h.idx (i := z.toNat) (by omega) (k := k)
  rw [hz, ← nd_get (by omega)] at this
  exact this
theorem TreeAt.nd {d : D} {t : List Nd} (h : TreeAt d t) {i : Nat} (hi : i < t.length) : (V.nd t i).Ok := by rw [nd_get hi]; exact h.get hi
theorem nd_row {t : List Nd} {i : Nat} : (nd t i).row = [.int .i64 (nd t i).kind, (nd t i).dw, (nd t i).dn, (nd t i).dk, .int .i64 (nd t i).pos] := rfl
end Go.V
namespace Go.Proofs.Ytlaeblilmppodaa
open Go.V
set_option maxRecDepth 100000
set_option maxHeartbeats 4000000
set_option linter.unusedSimpArgs false
set_option linter.unusedVariables false
def inR (k a b : Int) : Bool := decide (a ≤ k) && decide (k ≤ b)
theorem inR_iff {k a b : Int} : inR k a b = true ↔ a ≤ k ∧ k ≤ b := by simp [inR]
theorem in_ok {k a b : Int} : Iso 91 [.int .i64 k, .int .i64 a, .int .i64 b] (.bool (inR k a b)) := by
  refine iso_of ?_
  unfold inR
  by_cases c : a ≤ k
  · refine evp_of (vf := vf91) rfl ?_
    simp only [vf91, xq, xg, xm, xmg, xc, xl, xlg, xf, xfg, xw, xa, xk, xi, xig, xo, xr, xrp, xn, List.map, List.getD, List.getElem?_cons_zero, List.getElem?_cons_succ, List.getElem?_nil, Option.getD]
    repeat first
     |with_reducible first|apply vA|apply vB|apply vC
     |((with_reducible apply vD); (focus rfl))
     |((with_reducible first|apply vE|apply vF|apply vG|apply vH); simp only [Env.keep, Env.get, Env.ev, List.map, Nat.reduceEqDiff, ↓reduceIte, Then, Out'])
     |((with_reducible first|apply vI|apply vJ|apply vK|apply vL|apply vM|apply vN); (focus (simp (disch := (first|with_reducible assumption|omega|((repeat (first|rw [nP]|rw [nS]))<;>omega)|fail)) only [go_sem, ↓reduceIte, c] <;> rfl)); (first|(with_reducible (first|apply vO|apply vP|apply vQ|apply vR|apply vS|apply vT|apply vU); try simp only [Env.put])|with_reducible refine (?_ : WQ _ _ _ _ _ _)))
     |fail
    exact ⟨.inr trivial, _, (by simp only [resOf, resAll, resOne, Env.get, Nat.reduceEqDiff, ↓reduceIte] <;> rfl), by simp [c]⟩
  · refine evp_of (vf := vf91) rfl ?_
    simp only [vf91, xq, xg, xm, xmg, xc, xl, xlg, xf, xfg, xw, xa, xk, xi, xig, xo, xr, xrp, xn, List.map, List.getD, List.getElem?_cons_zero, List.getElem?_cons_succ, List.getElem?_nil, Option.getD]
    repeat first
     |with_reducible first|apply vA|apply vB|apply vC
     |((with_reducible apply vD); (focus rfl))
     |((with_reducible first|apply vE|apply vF|apply vG|apply vH); simp only [Env.keep, Env.get, Env.ev, List.map, Nat.reduceEqDiff, ↓reduceIte, Then, Out'])
     |((with_reducible first|apply vI|apply vJ|apply vK|apply vL|apply vM|apply vN); (focus (simp (disch := (first|with_reducible assumption|omega|((repeat (first|rw [nP]|rw [nS]))<;>omega)|fail)) only [go_sem, ↓reduceIte, c] <;> rfl)); (first|(with_reducible (first|apply vO|apply vP|apply vQ|apply vR|apply vS|apply vT|apply vU); try simp only [Env.put])|with_reducible refine (?_ : WQ _ _ _ _ _ _)))
     |fail
    exact ⟨.inr trivial, _, (by simp only [resOf, resAll, resOne, Env.get, Nat.reduceEqDiff, ↓reduceIte] <;> rfl), by simp [c]⟩
theorem kid_ok {d : D} {t : List Nd} {x : Nd} {i : Nat} (hT : TreeAt d t) (hx : x.Ok) (hi : i < x.kids.length) (h0 : 0 ≤ x.kids[i]) (hl : x.kids[i] < (t.length : Int)) : Iso 92 [d, .agg x.row, .int .i64 (i : Int)] (.int .i64 (nd t (x.kid i)).kind) := by
  refine iso_of ?_
  have h1 := FI.idx hx.k hi (k := .i64)
  have h2 := hT.at h0 hl (k := .i64)
  have o1 := FL.one hx.w
  have o2 := FL.one hx.n
  have o3 := FL.one hx.k
  rw [kid_get hi]
  unfold Nd.row
  refine evp_of (vf := vf92) rfl ?_
  simp only [vf92, xq, xg, xm, xmg, xc, xl, xlg, xf, xfg, xw, xa, xk, xi, xig, xo, xr, xrp, xn, List.map, List.getD, List.getElem?_cons_zero, List.getElem?_cons_succ, List.getElem?_nil, Option.getD]
  repeat first
   |with_reducible first|apply vA|apply vB|apply vC
   |((with_reducible apply vD); (focus rfl))
   |((with_reducible first|apply vE|apply vF|apply vG|apply vH); simp only [Env.keep, Env.get, Env.ev, List.map, Nat.reduceEqDiff, ↓reduceIte, Then, Out'])
   |((with_reducible first|apply vI|apply vJ|apply vK|apply vL|apply vM|apply vN); (focus (simp (disch := (first|with_reducible assumption|omega|((repeat (first|rw [nP]|rw [nS]))<;>omega)|fail)) only [go_sem, ↓reduceIte, h1, h2, o1, o2, o3] <;> rfl)); (first|(with_reducible (first|apply vO|apply vP|apply vQ|apply vR|apply vS|apply vT|apply vU); try simp only [Env.put])|with_reducible refine (?_ : WQ _ _ _ _ _ _)))
   |fail
  exact ⟨.inr trivial, _, (by simp only [resOf, resAll, resOne, Env.get, Nat.reduceEqDiff, ↓reduceIte] <;> rfl), rfl⟩
theorem words_ok {x : Nd} (hx : x.Ok) {c : Int} : IsoB 88 [.agg x.row, .int .i64 c] fun b => b = true → (x.words.length : Int) = c := by
  refine isoB_of ?_
  have o1 := FL.one hx.w
  have o2 := FL.one hx.n
  have o3 := FL.one hx.k
  have hlen := FS.len hx.w
  unfold Nd.row
  refine evp_of (vf := vf88) rfl ?_
  simp only [vf88, xq, xg, xm, xmg, xc, xl, xlg, xf, xfg, xw, xa, xk, xi, xig, xo, xr, xrp, xn, List.map, List.getD, List.getElem?_cons_zero, List.getElem?_cons_succ, List.getElem?_nil, Option.getD]
  repeat first
   |with_reducible first|apply vA|apply vB|apply vC
   |((with_reducible apply vD); (focus rfl))
   |((with_reducible first|apply vE|apply vF|apply vG|apply vH); simp only [Env.keep, Env.get, Env.ev, List.map, Nat.reduceEqDiff, ↓reduceIte, Then, Out'])
   |((with_reducible first|apply vI|apply vJ|apply vK|apply vL|apply vM|apply vN); (focus (simp (disch := (first|with_reducible assumption|omega|((repeat (first|rw [nP]|rw [nS]))<;>omega)|fail)) only [go_sem, ↓reduceIte, o1, o2, o3] <;> rfl)); (first|(with_reducible (first|apply vO|apply vP|apply vQ|apply vR|apply vS|apply vT|apply vU); try simp only [Env.put])|with_reducible refine (?_ : WQ _ _ _ _ _ _)))
   |fail
  refine vw_loop_inv (Q := Out' 0 _) (fun n env s => ∃ i : Nat, i ≤ x.words.length ∧ n = x.words.length - i ∧ s.get 0 = some (.cells [.int .i64 x.kind, x.dw, x.dn, x.dk, .int .i64 x.pos]) ∧ (env.get 1 = .int .i64 c ∧ env.get 2 = .ptr 0 0 ∧ env.get 5 = .int .i64 (i : Int))) ?_ x.words.length _ _ ⟨0, by omega, rfl, get_push_new rfl, by simp [Env.get, Made.at]; rfl⟩
  rintro n env s ⟨i, hi, rfl, hg, hE⟩
  by_cases c3 : i < x.words.length
  · have c3' : ((i : Int) < (x.words.length : Int)) = True := eq_true (by omega)
    have hs := succ63 c3 hx.wl
    have hidx := FS.idx hx.w c3 (k := .i64)
    obtain ⟨b, hb, _⟩ := name_ok (x := x.words[i])
    cases b
    · repeat first
       |(apply vq_isoI hb rfl rfl rfl)
       |with_reducible first|apply vA|apply vB|apply vC
       |((with_reducible apply vD); (focus rfl))
       |((with_reducible first|apply vE|apply vF|apply vG|apply vH); simp only [Env.keep, Env.get, Env.ev, List.map, Nat.reduceEqDiff, ↓reduceIte, Then, Out'])
       |((with_reducible first|apply vI|apply vJ|apply vK|apply vL|apply vM|apply vN); (focus (simp (disch := (first|with_reducible assumption|omega|((repeat (first|rw [nP]|rw [nS]))<;>omega)|fail)) only [go_sem, ↓reduceIte, hE, hg, o1, o2, o3, hlen, c3', hidx] <;> rfl)); (first|(with_reducible (first|apply vO|apply vP|apply vQ|apply vR|apply vS|apply vT|apply vU); try simp only [Env.put])|with_reducible refine (?_ : WQ _ _ _ _ _ _)))
       |fail
      exact ⟨.inr trivial, _, (by simp only [resOf, resAll, resOne, Env.get, Nat.reduceEqDiff, ↓reduceIte] <;> rfl), _, rfl, by simp⟩
    · repeat first
       |(apply vq_isoI hb rfl rfl rfl)
       |with_reducible first|apply vA|apply vB|apply vC
       |((with_reducible apply vD); (focus rfl))
       |((with_reducible first|apply vE|apply vF|apply vG|apply vH); simp only [Env.keep, Env.get, Env.ev, List.map, Nat.reduceEqDiff, ↓reduceIte, Then, Out'])
       |((with_reducible first|apply vI|apply vJ|apply vK|apply vL|apply vM|apply vN); (focus (simp (disch := (first|with_reducible assumption|omega|((repeat (first|rw [nP]|rw [nS]))<;>omega)|fail)) only [go_sem, ↓reduceIte, hE, hg, o1, o2, o3, hlen, c3', hidx, hs] <;> rfl)); (first|(with_reducible (first|apply vO|apply vP|apply vQ|apply vR|apply vS|apply vT|apply vU); try simp only [Env.put])|with_reducible refine (?_ : WQ _ _ _ _ _ _)))
       |fail
      exact ⟨x.words.length - (i + 1), by omega, i + 1, by omega, rfl, hg, (by simp only [Env.get, Nat.reduceEqDiff, ↓reduceIte, hE, and_self])⟩
  · have c3' : ((i : Int) < (x.words.length : Int)) = False := eq_false (by omega)
    repeat first
     |with_reducible first|apply vA|apply vB|apply vC
     |((with_reducible apply vD); (focus rfl))
     |((with_reducible first|apply vE|apply vF|apply vG|apply vH); simp only [Env.keep, Env.get, Env.ev, List.map, Nat.reduceEqDiff, ↓reduceIte, Then, Out'])
     |((with_reducible first|apply vI|apply vJ|apply vK|apply vL|apply vM|apply vN); (focus (simp (disch := (first|with_reducible assumption|omega|((repeat (first|rw [nP]|rw [nS]))<;>omega)|fail)) only [go_sem, ↓reduceIte, hE, hg, o1, o2, o3, hlen, c3'] <;> rfl)); (first|(with_reducible (first|apply vO|apply vP|apply vQ|apply vR|apply vS|apply vT|apply vU); try simp only [Env.put])|with_reducible refine (?_ : WQ _ _ _ _ _ _)))
     |fail
    exact ⟨.inr trivial, _, (by simp only [resOf, resAll, resOne, Env.get, Nat.reduceEqDiff, ↓reduceIte] <;> rfl), _, rfl, by simp⟩
theorem nums_ok {x : Nd} (hx : x.Ok) {c m : Int} : IsoB 89 [.agg x.row, .int .i64 c, .int .i64 m] fun b => b = true → (x.nums.length : Int) = c ∧ ∀ n ∈ x.nums, 0 ≤ n ∧ n ≤ m := by
  refine isoB_of ?_
  have o1 := FL.one hx.w
  have o2 := FL.one hx.n
  have o3 := FL.one hx.k
  have hlen := FI.len hx.n
  unfold Nd.row
  refine evp_of (vf := vf89) rfl ?_
  simp only [vf89, xq, xg, xm, xmg, xc, xl, xlg, xf, xfg, xw, xa, xk, xi, xig, xo, xr, xrp, xn, List.map, List.getD, List.getElem?_cons_zero, List.getElem?_cons_succ, List.getElem?_nil, Option.getD]
  repeat first
   |with_reducible first|apply vA|apply vB|apply vC
   |((with_reducible apply vD); (focus rfl))
   |((with_reducible first|apply vE|apply vF|apply vG|apply vH); simp only [Env.keep, Env.get, Env.ev, List.map, Nat.reduceEqDiff, ↓reduceIte, Then, Out'])
   |((with_reducible first|apply vI|apply vJ|apply vK|apply vL|apply vM|apply vN); (focus (simp (disch := (first|with_reducible assumption|omega|((repeat (first|rw [nP]|rw [nS]))<;>omega)|fail)) only [go_sem, ↓reduceIte, o1, o2, o3] <;> rfl)); (first|(with_reducible (first|apply vO|apply vP|apply vQ|apply vR|apply vS|apply vT|apply vU); try simp only [Env.put])|with_reducible refine (?_ : WQ _ _ _ _ _ _)))
   |fail
  refine vw_loop_inv (Q := Out' 0 _) (fun n env s => ∃ i : Nat, i ≤ x.nums.length ∧ n = x.nums.length - i ∧ (∀ j (hj : j < x.nums.length), j < i → 0 ≤ x.nums[j] ∧ x.nums[j] ≤ m) ∧ s.get 0 = some (.cells [.int .i64 x.kind, x.dw, x.dn, x.dk, .int .i64 x.pos]) ∧ (env.get 1 = .int .i64 c ∧ env.get 2 = .int .i64 m ∧ env.get 3 = .ptr 0 0 ∧ env.get 7 = .int .i64 (i : Int))) ?_ x.nums.length _ _ ⟨0, by omega, rfl, fun j _ h => by omega, get_push_new rfl, by simp [Env.get, Made.at]; rfl⟩
  rintro n env s ⟨i, hi, rfl, hall, hg, hE⟩
  by_cases c3 : i < x.nums.length
  · have c3' : ((i : Int) < (x.nums.length : Int)) = True := eq_true (by omega)
    have hs := succ63 c3 hx.nl
    have hidx := FI.idx hx.n c3 (k := .i64)
    by_cases d1 : x.nums[i] < 0
    · repeat first
       |with_reducible first|apply vA|apply vB|apply vC
       |((with_reducible apply vD); (focus rfl))
       |((with_reducible first|apply vE|apply vF|apply vG|apply vH); simp only [Env.keep, Env.get, Env.ev, List.map, Nat.reduceEqDiff, ↓reduceIte, Then, Out'])
       |((with_reducible first|apply vI|apply vJ|apply vK|apply vL|apply vM|apply vN); (focus (simp (disch := (first|with_reducible assumption|omega|((repeat (first|rw [nP]|rw [nS]))<;>omega)|fail)) only [go_sem, ↓reduceIte, hE, hg, o1, o2, o3, hlen, c3', hidx, d1] <;> rfl)); (first|(with_reducible (first|apply vO|apply vP|apply vQ|apply vR|apply vS|apply vT|apply vU); try simp only [Env.put])|with_reducible refine (?_ : WQ _ _ _ _ _ _)))
       |fail
      exact ⟨.inr trivial, _, (by simp only [resOf, resAll, resOne, Env.get, Nat.reduceEqDiff, ↓reduceIte] <;> rfl), _, rfl, by simp⟩
    · by_cases d2 : m < x.nums[i]
      · repeat first
         |with_reducible first|apply vA|apply vB|apply vC
         |((with_reducible apply vD); (focus rfl))
         |((with_reducible first|apply vE|apply vF|apply vG|apply vH); simp only [Env.keep, Env.get, Env.ev, List.map, Nat.reduceEqDiff, ↓reduceIte, Then, Out'])
         |((with_reducible first|apply vI|apply vJ|apply vK|apply vL|apply vM|apply vN); (focus (simp (disch := (first|with_reducible assumption|omega|((repeat (first|rw [nP]|rw [nS]))<;>omega)|fail)) only [go_sem, ↓reduceIte, hE, hg, o1, o2, o3, hlen, c3', hidx, d1, d2] <;> rfl)); (first|(with_reducible (first|apply vO|apply vP|apply vQ|apply vR|apply vS|apply vT|apply vU); try simp only [Env.put])|with_reducible refine (?_ : WQ _ _ _ _ _ _)))
         |fail
        exact ⟨.inr trivial, _, (by simp only [resOf, resAll, resOne, Env.get, Nat.reduceEqDiff, ↓reduceIte] <;> rfl), _, rfl, by simp⟩
      · repeat first
         |with_reducible first|apply vA|apply vB|apply vC
         |((with_reducible apply vD); (focus rfl))
         |((with_reducible first|apply vE|apply vF|apply vG|apply vH); simp only [Env.keep, Env.get, Env.ev, List.map, Nat.reduceEqDiff, ↓reduceIte, Then, Out'])
         |((with_reducible first|apply vI|apply vJ|apply vK|apply vL|apply vM|apply vN); (focus (simp (disch := (first|with_reducible assumption|omega|((repeat (first|rw [nP]|rw [nS]))<;>omega)|fail)) only [go_sem, ↓reduceIte, hE, hg, o1, o2, o3, hlen, c3', hidx, d1, d2, hs] <;> rfl)); (first|(with_reducible (first|apply vO|apply vP|apply vQ|apply vR|apply vS|apply vT|apply vU); try simp only [Env.put])|with_reducible refine (?_ : WQ _ _ _ _ _ _)))
         |fail
        refine ⟨x.nums.length - (i + 1), by omega, i + 1, by omega, rfl, fun j hj hji => ?_, hg, (by simp only [Env.get, Nat.reduceEqDiff, ↓reduceIte, hE, and_self])⟩
        by_cases e : j = i
        · subst e; omega
        · exact hall j hj (by omega)
  · have c3' : ((i : Int) < (x.nums.length : Int)) = False := eq_false (by omega)
    repeat first
     |with_reducible first|apply vA|apply vB|apply vC
     |((with_reducible apply vD); (focus rfl))
     |((with_reducible first|apply vE|apply vF|apply vG|apply vH); simp only [Env.keep, Env.get, Env.ev, List.map, Nat.reduceEqDiff, ↓reduceIte, Then, Out'])
     |((with_reducible first|apply vI|apply vJ|apply vK|apply vL|apply vM|apply vN); (focus (simp (disch := (first|with_reducible assumption|omega|((repeat (first|rw [nP]|rw [nS]))<;>omega)|fail)) only [go_sem, ↓reduceIte, hE, hg, o1, o2, o3, hlen, c3'] <;> rfl)); (first|(with_reducible (first|apply vO|apply vP|apply vQ|apply vR|apply vS|apply vT|apply vU); try simp only [Env.put])|with_reducible refine (?_ : WQ _ _ _ _ _ _)))
     |fail
    refine ⟨.inr trivial, _, (by simp only [resOf, resAll, resOne, Env.get, Nat.reduceEqDiff, ↓reduceIte] <;> rfl), _, rfl, fun h => ⟨by simpa using h, fun n hn => ?_⟩⟩
    obtain ⟨j, hj, rfl⟩ := List.getElem_of_mem hn
    exact hall j hj (by omega)
def KidsIn (t : List Nd) (x : Nd) : Prop := ∀ k ∈ x.kids, 0 ≤ k ∧ k < (t.length : Int)
theorem all_ok {d : D} {t : List Nd} {x : Nd} (hT : TreeAt d t) (hx : x.Ok) (hk : KidsIn t x) {f : Nat} {a b : Int} : IsoB 90 [d, .agg x.row, .int .i64 (f : Int), .int .i64 a, .int .i64 b] fun r => r = true → ∀ i, f ≤ i → i < x.kids.length → a ≤ (nd t (x.kid i)).kind ∧ (nd t (x.kid i)).kind ≤ b := by
  refine isoB_of ?_
  have o1 := FL.one hx.w
  have o2 := FL.one hx.n
  have o3 := FL.one hx.k
  have hlen := FI.len hx.k
  have hz := hx.fz
  unfold Nd.row
  refine evp_of (vf := vf90) rfl ?_
  simp only [vf90, xq, xg, xm, xmg, xc, xl, xlg, xf, xfg, xw, xa, xk, xi, xig, xo, xr, xrp, xn, List.map, List.getD, List.getElem?_cons_zero, List.getElem?_cons_succ, List.getElem?_nil, Option.getD]
  repeat first
   |with_reducible first|apply vA|apply vB|apply vC
   |((with_reducible apply vD); (focus rfl))
   |((with_reducible first|apply vE|apply vF|apply vG|apply vH); simp only [Env.keep, Env.get, Env.ev, List.map, Nat.reduceEqDiff, ↓reduceIte, Then, Out'])
   |((with_reducible first|apply vI|apply vJ|apply vK|apply vL|apply vM|apply vN); (focus (simp (disch := (first|with_reducible assumption|omega|((repeat (first|rw [nP]|rw [nS]))<;>omega)|fail)) only [go_sem, ↓reduceIte, o1, o2, o3] <;> rfl)); (first|(with_reducible (first|apply vO|apply vP|apply vQ|apply vR|apply vS|apply vT|apply vU); try simp only [Env.put])|with_reducible refine (?_ : WQ _ _ _ _ _ _)))
   |fail
  refine vw_loop_inv (Q := Out' 0 _) (fun n env s => ∃ i : Nat, f ≤ i ∧ n = x.kids.length - i ∧ (∀ j, f ≤ j → j < i → j < x.kids.length → a ≤ (nd t (x.kid j)).kind ∧ (nd t (x.kid j)).kind ≤ b) ∧ s.get 0 = some (.cells [.int .i64 x.kind, x.dw, x.dn, x.dk, .int .i64 x.pos]) ∧ (env.get 0 = d ∧ env.get 3 = .int .i64 a ∧ env.get 4 = .int .i64 b ∧ env.get 6 = .ptr 0 0 ∧ env.get 11 = .int .i64 (i : Int))) ?_ (x.kids.length - f) _ _ ⟨f, by omega, rfl, fun j _ h => by omega, get_push_new rfl, by simp [Env.get, Made.at]; rfl⟩
  rintro n env s ⟨i, hi, rfl, hall, hg, hE⟩
  by_cases c3 : i < x.kids.length
  · have c3' : ((i : Int) < (x.kids.length : Int)) = True := eq_true (by omega)
    have hs := succ63 c3 hx.kl
    have hki := hk _ (List.getElem_mem c3)
    have h1 := kid_ok hT hx c3 hki.1 hki.2
    unfold Nd.row at h1
    have h2 := in_ok (k := (nd t (x.kid i)).kind) (a := a) (b := b)
    cases hr : inR (nd t (x.kid i)).kind a b
    · rw [hr] at h2
      repeat first
       |(apply vq_isoI h1 rfl; (focus (simp only [Env.evL, Env.ev, Env.get, Nat.reduceEqDiff, ↓reduceIte, hE])); (focus exact fz3 hT.fz hz fz_int))
       |(apply vq_isoI h2 rfl; (focus (simp only [Env.evL, Env.ev, Env.get, Nat.reduceEqDiff, ↓reduceIte, hE])); (focus rfl))
       |with_reducible first|apply vA|apply vB|apply vC
       |((with_reducible apply vD); (focus rfl))
       |((with_reducible first|apply vE|apply vF|apply vG|apply vH); simp only [Env.keep, Env.get, Env.ev, List.map, Nat.reduceEqDiff, ↓reduceIte, Then, Out'])
       |((with_reducible first|apply vI|apply vJ|apply vK|apply vL|apply vM|apply vN); (focus (simp (disch := (first|with_reducible assumption|omega|((repeat (first|rw [nP]|rw [nS]))<;>omega)|fail)) only [go_sem, ↓reduceIte, hE, hg, o1, o2, o3, hlen, c3'] <;> rfl)); (first|(with_reducible (first|apply vO|apply vP|apply vQ|apply vR|apply vS|apply vT|apply vU); try simp only [Env.put])|with_reducible refine (?_ : WQ _ _ _ _ _ _)))
       |fail
      exact ⟨.inr trivial, _, (by simp only [resOf, resAll, resOne, Env.get, Nat.reduceEqDiff, ↓reduceIte] <;> rfl), _, rfl, by simp⟩
    · rw [hr] at h2
      repeat first
       |(apply vq_isoI h1 rfl; (focus (simp only [Env.evL, Env.ev, Env.get, Nat.reduceEqDiff, ↓reduceIte, hE])); (focus exact fz3 hT.fz hz fz_int))
       |(apply vq_isoI h2 rfl; (focus (simp only [Env.evL, Env.ev, Env.get, Nat.reduceEqDiff, ↓reduceIte, hE])); (focus rfl))
       |with_reducible first|apply vA|apply vB|apply vC
       |((with_reducible apply vD); (focus rfl))
       |((with_reducible first|apply vE|apply vF|apply vG|apply vH); simp only [Env.keep, Env.get, Env.ev, List.map, Nat.reduceEqDiff, ↓reduceIte, Then, Out'])
       |((with_reducible first|apply vI|apply vJ|apply vK|apply vL|apply vM|apply vN); (focus (simp (disch := (first|with_reducible assumption|omega|((repeat (first|rw [nP]|rw [nS]))<;>omega)|fail)) only [go_sem, ↓reduceIte, hE, hg, o1, o2, o3, hlen, c3', hs] <;> rfl)); (first|(with_reducible (first|apply vO|apply vP|apply vQ|apply vR|apply vS|apply vT|apply vU); try simp only [Env.put])|with_reducible refine (?_ : WQ _ _ _ _ _ _)))
       |fail
      refine ⟨x.kids.length - (i + 1), by omega, i + 1, by omega, rfl, fun j h1 h2 h3 => ?_, hg, (by simp only [Env.get, Nat.reduceEqDiff, ↓reduceIte, hE, and_self])⟩
      by_cases e : j = i
      · subst e; exact inR_iff.1 hr
      · exact hall j h1 (by omega) h3
  · have c3' : ((i : Int) < (x.kids.length : Int)) = False := eq_false (by omega)
    repeat first
     |with_reducible first|apply vA|apply vB|apply vC
     |((with_reducible apply vD); (focus rfl))
     |((with_reducible first|apply vE|apply vF|apply vG|apply vH); simp only [Env.keep, Env.get, Env.ev, List.map, Nat.reduceEqDiff, ↓reduceIte, Then, Out'])
     |((with_reducible first|apply vI|apply vJ|apply vK|apply vL|apply vM|apply vN); (focus (simp (disch := (first|with_reducible assumption|omega|((repeat (first|rw [nP]|rw [nS]))<;>omega)|fail)) only [go_sem, ↓reduceIte, hE, hg, o1, o2, o3, hlen, c3'] <;> rfl)); (first|(with_reducible (first|apply vO|apply vP|apply vQ|apply vR|apply vS|apply vT|apply vU); try simp only [Env.put])|with_reducible refine (?_ : WQ _ _ _ _ _ _)))
     |fail
    exact ⟨.inr trivial, _, (by simp only [resOf, resAll, resOne, Env.get, Nat.reduceEqDiff, ↓reduceIte] <;> rfl), _, rfl, fun _ j h1 h2 => hall j h1 (by omega) h2⟩
end Go.Proofs.Ytlaeblilmppodaa
namespace Go.Proofs.Ytlaeblilmppodaa
open Go.V
set_option maxRecDepth 100000
set_option maxHeartbeats 4000000
set_option linter.unusedSimpArgs false
set_option linter.unusedVariables false
theorem exprs_ok {d : D} {t : List Nd} {x : Nd} (hT : TreeAt d t) (hx : x.Ok) (hk : KidsIn t x) {f l m : Nat} (hf : f ≤ 2) (hl : l ≤ 1) (hm : m ≤ 800) : IsoB 93 [d, .agg x.row, .int .i64 (f : Int), .int .i64 (l : Int), .int .i64 (m : Int)] fun r => r = true → f + l ≤ x.kids.length ∧ x.kids.length ≤ f + m ∧ ∀ i, i < x.kids.length → (i < f → 17 ≤ (nd t (x.kid i)).kind ∧ (nd t (x.kid i)).kind ≤ 22) ∧ (f ≤ i → (nd t (x.kid i)).kind = 16) := by
  refine isoB_of ?_
  have o1 := FL.one hx.w
  have o2 := FL.one hx.n
  have o3 := FL.one hx.k
  have hlen := FI.len hx.k
  have hz := hx.fz
  have e1 : IntKind.i64.wrap ((f : Int) + (l : Int)) = ((f + l : Nat) : Int) := by rw [i64_id (by omega) (by omega)]; omega
  have e2 : IntKind.i64.wrap ((f : Int) + (m : Int)) = ((f + m : Nat) : Int) := by rw [i64_id (by omega) (by omega)]; omega
  unfold Nd.row
  refine evp_of (vf := vf93) rfl ?_
  simp only [vf93, xq, xg, xm, xmg, xc, xl, xlg, xf, xfg, xw, xa, xk, xi, xig, xo, xr, xrp, xn, List.map, List.getD, List.getElem?_cons_zero, List.getElem?_cons_succ, List.getElem?_nil, Option.getD]
  repeat first
   |with_reducible first|apply vA|apply vB|apply vC
   |((with_reducible apply vD); (focus rfl))
   |((with_reducible first|apply vE|apply vF|apply vG|apply vH); simp only [Env.keep, Env.get, Env.ev, List.map, Nat.reduceEqDiff, ↓reduceIte, Then, Out'])
   |((with_reducible first|apply vI|apply vJ|apply vK|apply vL|apply vM|apply vN); (focus (simp (disch := (first|with_reducible assumption|omega|((repeat (first|rw [nP]|rw [nS]))<;>omega)|fail)) only [go_sem, ↓reduceIte, o1, o2, o3, hlen] <;> rfl)); (first|(with_reducible (first|apply vO|apply vP|apply vQ|apply vR|apply vS|apply vT|apply vU); try simp only [Env.put])|with_reducible refine (?_ : WQ _ _ _ _ _ _)))
   |fail
  refine vw_loop_inv (Q := Out' 0 _) (fun n env s => ∃ i : Nat, i ≤ x.kids.length ∧ n = x.kids.length - i ∧ (∀ j, j < i → (j < f → 17 ≤ (nd t (x.kid j)).kind ∧ (nd t (x.kid j)).kind ≤ 22) ∧ (f ≤ j → (nd t (x.kid j)).kind = 16)) ∧ s.get 0 = some (.cells [.int .i64 x.kind, x.dw, x.dn, x.dk, .int .i64 x.pos]) ∧ (env.get 0 = d ∧ env.get 2 = .int .i64 (f : Int) ∧ env.get 3 = .int .i64 (l : Int) ∧ env.get 4 = .int .i64 (m : Int) ∧ env.get 6 = .ptr 0 0 ∧ env.get 11 = .int .i64 (x.kids.length : Int) ∧ env.get 12 = .int .i64 (i : Int))) ?_ x.kids.length _ _ ⟨0, by omega, rfl, fun j h => by omega, get_push_new rfl, by simp [Env.get, Made.at]; rfl⟩
  rintro n env s ⟨i, hi, rfl, hall, hg, hE⟩
  by_cases c3 : i < x.kids.length
  · have c3' : ((i : Int) < (x.kids.length : Int)) = True := eq_true (by omega)
    have hs := succ63 c3 hx.kl
    have hki := hk _ (List.getElem_mem c3)
    have h1 := kid_ok hT hx c3 hki.1 hki.2
    unfold Nd.row at h1
    have h2 := in_ok (k := (nd t (x.kid i)).kind) (a := 17) (b := 22)
    by_cases c4 : i < f
    · have c4' : ((i : Int) < (f : Int)) = True := eq_true (by omega)
      have c5' : ((f : Int) ≤ (i : Int)) = False := eq_false (by omega)
      cases hr : inR (nd t (x.kid i)).kind 17 22
      · rw [hr] at h2
        repeat first
         |(apply vq_isoI h1 rfl; (focus (simp only [Env.evL, Env.ev, Env.get, Nat.reduceEqDiff, ↓reduceIte, hE])); (focus exact fz3 hT.fz hz fz_int))
         |(apply vq_isoI h2 rfl; (focus (simp only [Env.evL, Env.ev, Env.get, Nat.reduceEqDiff, ↓reduceIte, hE])); (focus rfl))
         |with_reducible first|apply vA|apply vB|apply vC
         |((with_reducible apply vD); (focus rfl))
         |((with_reducible first|apply vE|apply vF|apply vG|apply vH); simp only [Env.keep, Env.get, Env.ev, List.map, Nat.reduceEqDiff, ↓reduceIte, Then, Out'])
         |((with_reducible first|apply vI|apply vJ|apply vK|apply vL|apply vM|apply vN); (focus (simp (disch := (first|with_reducible assumption|omega|((repeat (first|rw [nP]|rw [nS]))<;>omega)|fail)) only [go_sem, ↓reduceIte, hE, hg, o1, o2, o3, hlen, c3', c4', c5'] <;> rfl)); (first|(with_reducible (first|apply vO|apply vP|apply vQ|apply vR|apply vS|apply vT|apply vU); try simp only [Env.put])|with_reducible refine (?_ : WQ _ _ _ _ _ _)))
         |fail
        exact ⟨.inr trivial, _, (by simp only [resOf, resAll, resOne, Env.get, Nat.reduceEqDiff, ↓reduceIte] <;> rfl), _, rfl, by simp⟩
      · rw [hr] at h2
        repeat first
         |(apply vq_isoI h1 rfl; (focus (simp only [Env.evL, Env.ev, Env.get, Nat.reduceEqDiff, ↓reduceIte, hE])); (focus exact fz3 hT.fz hz fz_int))
         |(apply vq_isoI h2 rfl; (focus (simp only [Env.evL, Env.ev, Env.get, Nat.reduceEqDiff, ↓reduceIte, hE])); (focus rfl))
         |with_reducible first|apply vA|apply vB|apply vC
         |((with_reducible apply vD); (focus rfl))
         |((with_reducible first|apply vE|apply vF|apply vG|apply vH); simp only [Env.keep, Env.get, Env.ev, List.map, Nat.reduceEqDiff, ↓reduceIte, Then, Out'])
         |((with_reducible first|apply vI|apply vJ|apply vK|apply vL|apply vM|apply vN); (focus (simp (disch := (first|with_reducible assumption|omega|((repeat (first|rw [nP]|rw [nS]))<;>omega)|fail)) only [go_sem, ↓reduceIte, hE, hg, o1, o2, o3, hlen, c3', c4', c5', hs] <;> rfl)); (first|(with_reducible (first|apply vO|apply vP|apply vQ|apply vR|apply vS|apply vT|apply vU); try simp only [Env.put])|with_reducible refine (?_ : WQ _ _ _ _ _ _)))
         |fail
        refine ⟨x.kids.length - (i + 1), by omega, i + 1, by omega, rfl, fun j h => ?_, hg, (by simp only [Env.get, Nat.reduceEqDiff, ↓reduceIte, hE, and_self])⟩
        by_cases e : j = i
        · subst e; exact ⟨fun _ => inR_iff.1 hr, fun h => by omega⟩
        · exact hall j (by omega)
    · have c4' : ((i : Int) < (f : Int)) = False := eq_false (by omega)
      have c5' : ((f : Int) ≤ (i : Int)) = True := eq_true (by omega)
      by_cases c6 : (nd t (x.kid i)).kind = 16
      · have c6' : ((nd t (x.kid i)).kind != 16) = false := by rw [c6]; rfl
        repeat first
         |(apply vq_isoI h1 rfl; (focus (simp only [Env.evL, Env.ev, Env.get, Nat.reduceEqDiff, ↓reduceIte, hE])); (focus exact fz3 hT.fz hz fz_int))
         |(apply vq_isoI h2 rfl; (focus (simp only [Env.evL, Env.ev, Env.get, Nat.reduceEqDiff, ↓reduceIte, hE])); (focus rfl))
         |with_reducible first|apply vA|apply vB|apply vC
         |((with_reducible apply vD); (focus rfl))
         |((with_reducible first|apply vE|apply vF|apply vG|apply vH); simp only [Env.keep, Env.get, Env.ev, List.map, Nat.reduceEqDiff, ↓reduceIte, Then, Out'])
         |((with_reducible first|apply vI|apply vJ|apply vK|apply vL|apply vM|apply vN); (focus (simp (disch := (first|with_reducible assumption|omega|((repeat (first|rw [nP]|rw [nS]))<;>omega)|fail)) only [go_sem, ↓reduceIte, hE, hg, o1, o2, o3, hlen, c3', c4', c5', c6', hs] <;> rfl)); (first|(with_reducible (first|apply vO|apply vP|apply vQ|apply vR|apply vS|apply vT|apply vU); try simp only [Env.put])|with_reducible refine (?_ : WQ _ _ _ _ _ _)))
         |fail
        refine ⟨x.kids.length - (i + 1), by omega, i + 1, by omega, rfl, fun j h => ?_, hg, (by simp only [Env.get, Nat.reduceEqDiff, ↓reduceIte, hE, and_self])⟩
        by_cases e : j = i
        · subst e; exact ⟨fun h => by omega, fun _ => c6⟩
        · exact hall j (by omega)
      · have c6' : ((nd t (x.kid i)).kind != 16) = true := by rw [bne_iff_ne]; exact c6
        repeat first
         |(apply vq_isoI h1 rfl; (focus (simp only [Env.evL, Env.ev, Env.get, Nat.reduceEqDiff, ↓reduceIte, hE])); (focus exact fz3 hT.fz hz fz_int))
         |(apply vq_isoI h2 rfl; (focus (simp only [Env.evL, Env.ev, Env.get, Nat.reduceEqDiff, ↓reduceIte, hE])); (focus rfl))
         |with_reducible first|apply vA|apply vB|apply vC
         |((with_reducible apply vD); (focus rfl))
         |((with_reducible first|apply vE|apply vF|apply vG|apply vH); simp only [Env.keep, Env.get, Env.ev, List.map, Nat.reduceEqDiff, ↓reduceIte, Then, Out'])
         |((with_reducible first|apply vI|apply vJ|apply vK|apply vL|apply vM|apply vN); (focus (simp (disch := (first|with_reducible assumption|omega|((repeat (first|rw [nP]|rw [nS]))<;>omega)|fail)) only [go_sem, ↓reduceIte, hE, hg, o1, o2, o3, hlen, c3', c4', c5', c6'] <;> rfl)); (first|(with_reducible (first|apply vO|apply vP|apply vQ|apply vR|apply vS|apply vT|apply vU); try simp only [Env.put])|with_reducible refine (?_ : WQ _ _ _ _ _ _)))
         |fail
        exact ⟨.inr trivial, _, (by simp only [resOf, resAll, resOne, Env.get, Nat.reduceEqDiff, ↓reduceIte] <;> rfl), _, rfl, by simp⟩
  · have c3' : ((i : Int) < (x.kids.length : Int)) = False := eq_false (by omega)
    by_cases c7 : f + l ≤ x.kids.length
    · have c7' : (((f + l : Nat) : Int) ≤ (x.kids.length : Int)) = True := eq_true (by omega)
      by_cases c8 : x.kids.length ≤ f + m
      · have c8' : ((x.kids.length : Int) ≤ ((f + m : Nat) : Int)) = True := eq_true (by omega)
        repeat first
         |with_reducible first|apply vA|apply vB|apply vC
         |((with_reducible apply vD); (focus rfl))
         |((with_reducible first|apply vE|apply vF|apply vG|apply vH); simp only [Env.keep, Env.get, Env.ev, List.map, Nat.reduceEqDiff, ↓reduceIte, Then, Out'])
         |((with_reducible first|apply vI|apply vJ|apply vK|apply vL|apply vM|apply vN); (focus (simp (disch := (first|with_reducible assumption|omega|((repeat (first|rw [nP]|rw [nS]))<;>omega)|fail)) only [go_sem, ↓reduceIte, hE, hg, o1, o2, o3, hlen, c3', e1, e2, c7', c8'] <;> rfl)); (first|(with_reducible (first|apply vO|apply vP|apply vQ|apply vR|apply vS|apply vT|apply vU); try simp only [Env.put])|with_reducible refine (?_ : WQ _ _ _ _ _ _)))
         |fail
        exact ⟨.inr trivial, _, (by simp only [resOf, resAll, resOne, Env.get, Nat.reduceEqDiff, ↓reduceIte] <;> rfl), _, rfl, fun _ => ⟨c7, c8, fun j h => hall j (by omega)⟩⟩
      · have c8' : ((x.kids.length : Int) ≤ ((f + m : Nat) : Int)) = False := eq_false (by omega)
        repeat first
         |with_reducible first|apply vA|apply vB|apply vC
         |((with_reducible apply vD); (focus rfl))
         |((with_reducible first|apply vE|apply vF|apply vG|apply vH); simp only [Env.keep, Env.get, Env.ev, List.map, Nat.reduceEqDiff, ↓reduceIte, Then, Out'])
         |((with_reducible first|apply vI|apply vJ|apply vK|apply vL|apply vM|apply vN); (focus (simp (disch := (first|with_reducible assumption|omega|((repeat (first|rw [nP]|rw [nS]))<;>omega)|fail)) only [go_sem, ↓reduceIte, hE, hg, o1, o2, o3, hlen, c3', e1, e2, c7', c8'] <;> rfl)); (first|(with_reducible (first|apply vO|apply vP|apply vQ|apply vR|apply vS|apply vT|apply vU); try simp only [Env.put])|with_reducible refine (?_ : WQ _ _ _ _ _ _)))
         |fail
        exact ⟨.inr trivial, _, (by simp only [resOf, resAll, resOne, Env.get, Nat.reduceEqDiff, ↓reduceIte] <;> rfl), _, rfl, by simp⟩
    · have c7' : (((f + l : Nat) : Int) ≤ (x.kids.length : Int)) = False := eq_false (by omega)
      repeat first
       |with_reducible first|apply vA|apply vB|apply vC
       |((with_reducible apply vD); (focus rfl))
       |((with_reducible first|apply vE|apply vF|apply vG|apply vH); simp only [Env.keep, Env.get, Env.ev, List.map, Nat.reduceEqDiff, ↓reduceIte, Then, Out'])
       |((with_reducible first|apply vI|apply vJ|apply vK|apply vL|apply vM|apply vN); (focus (simp (disch := (first|with_reducible assumption|omega|((repeat (first|rw [nP]|rw [nS]))<;>omega)|fail)) only [go_sem, ↓reduceIte, hE, hg, o1, o2, o3, hlen, c3', e1, e2, c7'] <;> rfl)); (first|(with_reducible (first|apply vO|apply vP|apply vQ|apply vR|apply vS|apply vT|apply vU); try simp only [Env.put])|with_reducible refine (?_ : WQ _ _ _ _ _ _)))
       |fail
      exact ⟨.inr trivial, _, (by simp only [resOf, resAll, resOne, Env.get, Nat.reduceEqDiff, ↓reduceIte] <;> rfl), _, rfl, by simp⟩
theorem node_0 {d : D} {t : List Nd} {x : Nd} (hT : TreeAt d t) (hx : x.Ok) (hk : KidsIn t x) (hK : x.kind = 0) : IsoB 66 [d, .agg x.row] fun b => b = true → (x.words.length : Int) = 0 ∧ ((x.nums.length : Int) = 0 ∧ ∀ n ∈ x.nums, 0 ≤ n ∧ n ≤ 0) ∧ ∀ i, 0 ≤ i → i < x.kids.length → 1 ≤ (nd t (x.kid i)).kind ∧ (nd t (x.kid i)).kind ≤ 5 := by
  refine isoB_of ?_
  have o1 := FL.one hx.w
  have o2 := FL.one hx.n
  have o3 := FL.one hx.k
  have hlen := FI.len hx.k
  have hz := hx.fz
  have hrow : x.row = [.int .i64 0, x.dw, x.dn, x.dk, .int .i64 x.pos] := by unfold Nd.row; rw [hK]
  obtain ⟨b1, h1, p1⟩ := words_ok hx (c := 0)
  obtain ⟨b2, h2, p2⟩ := nums_ok hx (c := 0) (m := 0)
  obtain ⟨b3, h3, p3⟩ := all_ok hT hx hk (f := 0) (a := 1) (b := 5)
  rw [hrow] at h1 h2 hz h3 ⊢
  cases b1 <;> cases b2
  all_goals
    refine evp_of (vf := vf66) rfl ?_
    simp only [vf66, xq, xg, xm, xmg, xc, xl, xlg, xf, xfg, xw, xa, xk, xi, xig, xo, xr, xrp, xn, List.map, List.getD, List.getElem?_cons_zero, List.getElem?_cons_succ, List.getElem?_nil, Option.getD]
    repeat first
     |(apply vq_isoI h1 rfl rfl (fz2 hz fz_int))
     |(apply vq_isoI h2 rfl rfl (fz3 hz fz_int fz_int))
     |(apply vq_isoI h3 rfl rfl (fz5 hT.fz hz fz_int fz_int fz_int))
     |with_reducible first|apply vA|apply vB|apply vC
     |((with_reducible apply vD); (focus rfl))
     |((with_reducible first|apply vE|apply vF|apply vG|apply vH); simp only [Env.keep, Env.get, Env.ev, List.map, Nat.reduceEqDiff, ↓reduceIte, Then, Out'])
     |((with_reducible first|apply vI|apply vJ|apply vK|apply vL|apply vM|apply vN); (focus (simp (disch := (first|with_reducible assumption|omega|((repeat (first|rw [nP]|rw [nS]))<;>omega)|fail)) only [go_sem, ↓reduceIte, o1, o2, o3, hlen] <;> rfl)); (first|(with_reducible (first|apply vO|apply vP|apply vQ|apply vR|apply vS|apply vT|apply vU); try simp only [Env.put])|with_reducible refine (?_ : WQ _ _ _ _ _ _)))
     |fail
    first
      | exact ⟨.inr trivial, _, (by simp only [resOf, resAll, resOne, Env.get, Nat.reduceEqDiff, ↓reduceIte] <;> rfl), _, rfl, fun h => ⟨p1 rfl, p2 rfl, p3 h⟩⟩
      | exact ⟨.inr trivial, _, (by simp only [resOf, resAll, resOne, Env.get, Nat.reduceEqDiff, ↓reduceIte] <;> rfl), _, rfl, by simp⟩
theorem node_4 {d : D} {t : List Nd} {x : Nd} (hT : TreeAt d t) (hx : x.Ok) (hk : KidsIn t x) (hK : x.kind = 4) : IsoB 66 [d, .agg x.row] fun b => b = true → (x.words.length : Int) = 0 ∧ ((x.nums.length : Int) = 0 ∧ ∀ n ∈ x.nums, 0 ≤ n ∧ n ≤ 0) ∧ 1 ≤ x.kids.length ∧ x.kids.length ≤ 1 ∧ ∀ i, i < x.kids.length → (i < 1 → 17 ≤ (nd t (x.kid i)).kind ∧ (nd t (x.kid i)).kind ≤ 22) ∧ (1 ≤ i → (nd t (x.kid i)).kind = 16) := by
  refine isoB_of ?_
  have o1 := FL.one hx.w
  have o2 := FL.one hx.n
  have o3 := FL.one hx.k
  have hlen := FI.len hx.k
  have hz := hx.fz
  have hrow : x.row = [.int .i64 4, x.dw, x.dn, x.dk, .int .i64 x.pos] := by unfold Nd.row; rw [hK]
  obtain ⟨b1, h1, p1⟩ := words_ok hx (c := 0)
  obtain ⟨b2, h2, p2⟩ := nums_ok hx (c := 0) (m := 0)
  obtain ⟨b3, h3, p3⟩ := exprs_ok hT hx hk (f := 1) (l := 0) (m := 0) (by omega) (by omega) (by omega)
  rw [hrow] at h1 h2 hz h3 ⊢
  cases b1 <;> cases b2
  all_goals
    refine evp_of (vf := vf66) rfl ?_
    simp only [vf66, xq, xg, xm, xmg, xc, xl, xlg, xf, xfg, xw, xa, xk, xi, xig, xo, xr, xrp, xn, List.map, List.getD, List.getElem?_cons_zero, List.getElem?_cons_succ, List.getElem?_nil, Option.getD]
    repeat first
     |(apply vq_isoI h1 rfl rfl (fz2 hz fz_int))
     |(apply vq_isoI h2 rfl rfl (fz3 hz fz_int fz_int))
     |(apply vq_isoI h3 rfl rfl (fz5 hT.fz hz fz_int fz_int fz_int))
     |with_reducible first|apply vA|apply vB|apply vC
     |((with_reducible apply vD); (focus rfl))
     |((with_reducible first|apply vE|apply vF|apply vG|apply vH); simp only [Env.keep, Env.get, Env.ev, List.map, Nat.reduceEqDiff, ↓reduceIte, Then, Out'])
     |((with_reducible first|apply vI|apply vJ|apply vK|apply vL|apply vM|apply vN); (focus (simp (disch := (first|with_reducible assumption|omega|((repeat (first|rw [nP]|rw [nS]))<;>omega)|fail)) only [go_sem, ↓reduceIte, o1, o2, o3, hlen] <;> rfl)); (first|(with_reducible (first|apply vO|apply vP|apply vQ|apply vR|apply vS|apply vT|apply vU); try simp only [Env.put])|with_reducible refine (?_ : WQ _ _ _ _ _ _)))
     |fail
    first
      | exact ⟨.inr trivial, _, (by simp only [resOf, resAll, resOne, Env.get, Nat.reduceEqDiff, ↓reduceIte] <;> rfl), _, rfl, fun h => ⟨p1 rfl, p2 rfl, p3 h⟩⟩
      | exact ⟨.inr trivial, _, (by simp only [resOf, resAll, resOne, Env.get, Nat.reduceEqDiff, ↓reduceIte] <;> rfl), _, rfl, by simp⟩
theorem node_5 {d : D} {t : List Nd} {x : Nd} (hT : TreeAt d t) (hx : x.Ok) (hk : KidsIn t x) (hK : x.kind = 5) : IsoB 66 [d, .agg x.row] fun b => b = true → (x.words.length : Int) = 0 ∧ ((x.nums.length : Int) = 0 ∧ ∀ n ∈ x.nums, 0 ≤ n ∧ n ≤ 0) ∧ x.kids = [] := by
  refine isoB_of ?_
  have o1 := FL.one hx.w
  have o2 := FL.one hx.n
  have o3 := FL.one hx.k
  have hlen := FI.len hx.k
  have hz := hx.fz
  have hrow : x.row = [.int .i64 5, x.dw, x.dn, x.dk, .int .i64 x.pos] := by unfold Nd.row; rw [hK]
  obtain ⟨b1, h1, p1⟩ := words_ok hx (c := 0)
  obtain ⟨b2, h2, p2⟩ := nums_ok hx (c := 0) (m := 0)
  rw [hrow] at h1 h2 hz ⊢
  have hz0 : ((x.kids.length : Int) == 0) = decide (x.kids = []) := by
    rw [Bool.eq_iff_iff, beq_iff_eq, decide_eq_true_eq, ← List.length_eq_zero_iff]; omega
  cases b1 <;> cases b2
  all_goals
    refine evp_of (vf := vf66) rfl ?_
    simp only [vf66, xq, xg, xm, xmg, xc, xl, xlg, xf, xfg, xw, xa, xk, xi, xig, xo, xr, xrp, xn, List.map, List.getD, List.getElem?_cons_zero, List.getElem?_cons_succ, List.getElem?_nil, Option.getD]
    repeat first
     |(apply vq_isoI h1 rfl rfl (fz2 hz fz_int))
     |(apply vq_isoI h2 rfl rfl (fz3 hz fz_int fz_int))
     |with_reducible first|apply vA|apply vB|apply vC
     |((with_reducible apply vD); (focus rfl))
     |((with_reducible first|apply vE|apply vF|apply vG|apply vH); simp only [Env.keep, Env.get, Env.ev, List.map, Nat.reduceEqDiff, ↓reduceIte, Then, Out'])
     |((with_reducible first|apply vI|apply vJ|apply vK|apply vL|apply vM|apply vN); (focus (simp (disch := (first|with_reducible assumption|omega|((repeat (first|rw [nP]|rw [nS]))<;>omega)|fail)) only [go_sem, ↓reduceIte, o1, o2, o3, hlen, hz0] <;> rfl)); (first|(with_reducible (first|apply vO|apply vP|apply vQ|apply vR|apply vS|apply vT|apply vU); try simp only [Env.put])|with_reducible refine (?_ : WQ _ _ _ _ _ _)))
     |fail
    first
      | exact ⟨.inr trivial, _, (by simp only [resOf, resAll, resOne, Env.get, Nat.reduceEqDiff, ↓reduceIte] <;> rfl), _, rfl, fun h => ⟨p1 rfl, p2 rfl, of_decide_eq_true h⟩⟩
      | exact ⟨.inr trivial, _, (by simp only [resOf, resAll, resOne, Env.get, Nat.reduceEqDiff, ↓reduceIte] <;> rfl), _, rfl, by simp⟩
theorem node_6 {d : D} {t : List Nd} {x : Nd} (hT : TreeAt d t) (hx : x.Ok) (hk : KidsIn t x) (hK : x.kind = 6) : IsoB 66 [d, .agg x.row] fun b => b = true → (x.words.length : Int) = 1 ∧ ((x.nums.length : Int) = 0 ∧ ∀ n ∈ x.nums, 0 ≤ n ∧ n ≤ 0) ∧ 1 ≤ x.kids.length ∧ x.kids.length ≤ 1 ∧ ∀ i, i < x.kids.length → (i < 1 → 17 ≤ (nd t (x.kid i)).kind ∧ (nd t (x.kid i)).kind ≤ 22) ∧ (1 ≤ i → (nd t (x.kid i)).kind = 16) := by
  refine isoB_of ?_
  have o1 := FL.one hx.w
  have o2 := FL.one hx.n
  have o3 := FL.one hx.k
  have hlen := FI.len hx.k
  have hz := hx.fz
  have hrow : x.row = [.int .i64 6, x.dw, x.dn, x.dk, .int .i64 x.pos] := by unfold Nd.row; rw [hK]
  obtain ⟨b1, h1, p1⟩ := words_ok hx (c := 1)
  obtain ⟨b2, h2, p2⟩ := nums_ok hx (c := 0) (m := 0)
  obtain ⟨b3, h3, p3⟩ := exprs_ok hT hx hk (f := 1) (l := 0) (m := 0) (by omega) (by omega) (by omega)
  rw [hrow] at h1 h2 hz h3 ⊢
  cases b1 <;> cases b2
  all_goals
    refine evp_of (vf := vf66) rfl ?_
    simp only [vf66, xq, xg, xm, xmg, xc, xl, xlg, xf, xfg, xw, xa, xk, xi, xig, xo, xr, xrp, xn, List.map, List.getD, List.getElem?_cons_zero, List.getElem?_cons_succ, List.getElem?_nil, Option.getD]
    repeat first
     |(apply vq_isoI h1 rfl rfl (fz2 hz fz_int))
     |(apply vq_isoI h2 rfl rfl (fz3 hz fz_int fz_int))
     |(apply vq_isoI h3 rfl rfl (fz5 hT.fz hz fz_int fz_int fz_int))
     |with_reducible first|apply vA|apply vB|apply vC
     |((with_reducible apply vD); (focus rfl))
     |((with_reducible first|apply vE|apply vF|apply vG|apply vH); simp only [Env.keep, Env.get, Env.ev, List.map, Nat.reduceEqDiff, ↓reduceIte, Then, Out'])
     |((with_reducible first|apply vI|apply vJ|apply vK|apply vL|apply vM|apply vN); (focus (simp (disch := (first|with_reducible assumption|omega|((repeat (first|rw [nP]|rw [nS]))<;>omega)|fail)) only [go_sem, ↓reduceIte, o1, o2, o3, hlen] <;> rfl)); (first|(with_reducible (first|apply vO|apply vP|apply vQ|apply vR|apply vS|apply vT|apply vU); try simp only [Env.put])|with_reducible refine (?_ : WQ _ _ _ _ _ _)))
     |fail
    first
      | exact ⟨.inr trivial, _, (by simp only [resOf, resAll, resOne, Env.get, Nat.reduceEqDiff, ↓reduceIte] <;> rfl), _, rfl, fun h => ⟨p1 rfl, p2 rfl, p3 h⟩⟩
      | exact ⟨.inr trivial, _, (by simp only [resOf, resAll, resOne, Env.get, Nat.reduceEqDiff, ↓reduceIte] <;> rfl), _, rfl, by simp⟩
theorem node_7 {d : D} {t : List Nd} {x : Nd} (hT : TreeAt d t) (hx : x.Ok) (hk : KidsIn t x) (hK : x.kind = 7) : IsoB 66 [d, .agg x.row] fun b => b = true → (x.words.length : Int) = 1 ∧ ((x.nums.length : Int) = 0 ∧ ∀ n ∈ x.nums, 0 ≤ n ∧ n ≤ 0) ∧ 1 ≤ x.kids.length ∧ x.kids.length ≤ 1 ∧ ∀ i, i < x.kids.length → (i < 1 → 17 ≤ (nd t (x.kid i)).kind ∧ (nd t (x.kid i)).kind ≤ 22) ∧ (1 ≤ i → (nd t (x.kid i)).kind = 16) := by
  refine isoB_of ?_
  have o1 := FL.one hx.w
  have o2 := FL.one hx.n
  have o3 := FL.one hx.k
  have hlen := FI.len hx.k
  have hz := hx.fz
  have hrow : x.row = [.int .i64 7, x.dw, x.dn, x.dk, .int .i64 x.pos] := by unfold Nd.row; rw [hK]
  obtain ⟨b1, h1, p1⟩ := words_ok hx (c := 1)
  obtain ⟨b2, h2, p2⟩ := nums_ok hx (c := 0) (m := 0)
  obtain ⟨b3, h3, p3⟩ := exprs_ok hT hx hk (f := 1) (l := 0) (m := 0) (by omega) (by omega) (by omega)
  rw [hrow] at h1 h2 hz h3 ⊢
  cases b1 <;> cases b2
  all_goals
    refine evp_of (vf := vf66) rfl ?_
    simp only [vf66, xq, xg, xm, xmg, xc, xl, xlg, xf, xfg, xw, xa, xk, xi, xig, xo, xr, xrp, xn, List.map, List.getD, List.getElem?_cons_zero, List.getElem?_cons_succ, List.getElem?_nil, Option.getD]
    repeat first
     |(apply vq_isoI h1 rfl rfl (fz2 hz fz_int))
     |(apply vq_isoI h2 rfl rfl (fz3 hz fz_int fz_int))
     |(apply vq_isoI h3 rfl rfl (fz5 hT.fz hz fz_int fz_int fz_int))
     |with_reducible first|apply vA|apply vB|apply vC
     |((with_reducible apply vD); (focus rfl))
     |((with_reducible first|apply vE|apply vF|apply vG|apply vH); simp only [Env.keep, Env.get, Env.ev, List.map, Nat.reduceEqDiff, ↓reduceIte, Then, Out'])
     |((with_reducible first|apply vI|apply vJ|apply vK|apply vL|apply vM|apply vN); (focus (simp (disch := (first|with_reducible assumption|omega|((repeat (first|rw [nP]|rw [nS]))<;>omega)|fail)) only [go_sem, ↓reduceIte, o1, o2, o3, hlen] <;> rfl)); (first|(with_reducible (first|apply vO|apply vP|apply vQ|apply vR|apply vS|apply vT|apply vU); try simp only [Env.put])|with_reducible refine (?_ : WQ _ _ _ _ _ _)))
     |fail
    first
      | exact ⟨.inr trivial, _, (by simp only [resOf, resAll, resOne, Env.get, Nat.reduceEqDiff, ↓reduceIte] <;> rfl), _, rfl, fun h => ⟨p1 rfl, p2 rfl, p3 h⟩⟩
      | exact ⟨.inr trivial, _, (by simp only [resOf, resAll, resOne, Env.get, Nat.reduceEqDiff, ↓reduceIte] <;> rfl), _, rfl, by simp⟩
theorem node_8 {d : D} {t : List Nd} {x : Nd} (hT : TreeAt d t) (hx : x.Ok) (hk : KidsIn t x) (hK : x.kind = 8) : IsoB 66 [d, .agg x.row] fun b => b = true → (x.words.length : Int) = 2 ∧ ((x.nums.length : Int) = 1 ∧ ∀ n ∈ x.nums, 0 ≤ n ∧ n ≤ 1) ∧ x.kids = [] := by
  refine isoB_of ?_
  have o1 := FL.one hx.w
  have o2 := FL.one hx.n
  have o3 := FL.one hx.k
  have hlen := FI.len hx.k
  have hz := hx.fz
  have hrow : x.row = [.int .i64 8, x.dw, x.dn, x.dk, .int .i64 x.pos] := by unfold Nd.row; rw [hK]
  obtain ⟨b1, h1, p1⟩ := words_ok hx (c := 2)
  obtain ⟨b2, h2, p2⟩ := nums_ok hx (c := 1) (m := 1)
  rw [hrow] at h1 h2 hz ⊢
  have hz0 : ((x.kids.length : Int) == 0) = decide (x.kids = []) := by
    rw [Bool.eq_iff_iff, beq_iff_eq, decide_eq_true_eq, ← List.length_eq_zero_iff]; omega
  cases b1 <;> cases b2
  all_goals
    refine evp_of (vf := vf66) rfl ?_
    simp only [vf66, xq, xg, xm, xmg, xc, xl, xlg, xf, xfg, xw, xa, xk, xi, xig, xo, xr, xrp, xn, List.map, List.getD, List.getElem?_cons_zero, List.getElem?_cons_succ, List.getElem?_nil, Option.getD]
    repeat first
     |(apply vq_isoI h1 rfl rfl (fz2 hz fz_int))
     |(apply vq_isoI h2 rfl rfl (fz3 hz fz_int fz_int))
     |with_reducible first|apply vA|apply vB|apply vC
     |((with_reducible apply vD); (focus rfl))
     |((with_reducible first|apply vE|apply vF|apply vG|apply vH); simp only [Env.keep, Env.get, Env.ev, List.map, Nat.reduceEqDiff, ↓reduceIte, Then, Out'])
     |((with_reducible first|apply vI|apply vJ|apply vK|apply vL|apply vM|apply vN); (focus (simp (disch := (first|with_reducible assumption|omega|((repeat (first|rw [nP]|rw [nS]))<;>omega)|fail)) only [go_sem, ↓reduceIte, o1, o2, o3, hlen, hz0] <;> rfl)); (first|(with_reducible (first|apply vO|apply vP|apply vQ|apply vR|apply vS|apply vT|apply vU); try simp only [Env.put])|with_reducible refine (?_ : WQ _ _ _ _ _ _)))
     |fail
    first
      | exact ⟨.inr trivial, _, (by simp only [resOf, resAll, resOne, Env.get, Nat.reduceEqDiff, ↓reduceIte] <;> rfl), _, rfl, fun h => ⟨p1 rfl, p2 rfl, of_decide_eq_true h⟩⟩
      | exact ⟨.inr trivial, _, (by simp only [resOf, resAll, resOne, Env.get, Nat.reduceEqDiff, ↓reduceIte] <;> rfl), _, rfl, by simp⟩
theorem node_9 {d : D} {t : List Nd} {x : Nd} (hT : TreeAt d t) (hx : x.Ok) (hk : KidsIn t x) (hK : x.kind = 9) : IsoB 66 [d, .agg x.row] fun b => b = true → (x.words.length : Int) = 0 ∧ ((x.nums.length : Int) = 1 ∧ ∀ n ∈ x.nums, 0 ≤ n ∧ n ≤ 1) ∧ 1 ≤ x.kids.length ∧ x.kids.length ≤ 1 ∧ ∀ i, i < x.kids.length → (i < 1 → 17 ≤ (nd t (x.kid i)).kind ∧ (nd t (x.kid i)).kind ≤ 22) ∧ (1 ≤ i → (nd t (x.kid i)).kind = 16) := by
  refine isoB_of ?_
  have o1 := FL.one hx.w
  have o2 := FL.one hx.n
  have o3 := FL.one hx.k
  have hlen := FI.len hx.k
  have hz := hx.fz
  have hrow : x.row = [.int .i64 9, x.dw, x.dn, x.dk, .int .i64 x.pos] := by unfold Nd.row; rw [hK]
  obtain ⟨b1, h1, p1⟩ := words_ok hx (c := 0)
  obtain ⟨b2, h2, p2⟩ := nums_ok hx (c := 1) (m := 1)
  obtain ⟨b3, h3, p3⟩ := exprs_ok hT hx hk (f := 1) (l := 0) (m := 0) (by omega) (by omega) (by omega)
  rw [hrow] at h1 h2 hz h3 ⊢
  cases b1 <;> cases b2
  all_goals
    refine evp_of (vf := vf66) rfl ?_
    simp only [vf66, xq, xg, xm, xmg, xc, xl, xlg, xf, xfg, xw, xa, xk, xi, xig, xo, xr, xrp, xn, List.map, List.getD, List.getElem?_cons_zero, List.getElem?_cons_succ, List.getElem?_nil, Option.getD]
    repeat first
     |(apply vq_isoI h1 rfl rfl (fz2 hz fz_int))
     |(apply vq_isoI h2 rfl rfl (fz3 hz fz_int fz_int))
     |(apply vq_isoI h3 rfl rfl (fz5 hT.fz hz fz_int fz_int fz_int))
     |with_reducible first|apply vA|apply vB|apply vC
     |((with_reducible apply vD); (focus rfl))
     |((with_reducible first|apply vE|apply vF|apply vG|apply vH); simp only [Env.keep, Env.get, Env.ev, List.map, Nat.reduceEqDiff, ↓reduceIte, Then, Out'])
     |((with_reducible first|apply vI|apply vJ|apply vK|apply vL|apply vM|apply vN); (focus (simp (disch := (first|with_reducible assumption|omega|((repeat (first|rw [nP]|rw [nS]))<;>omega)|fail)) only [go_sem, ↓reduceIte, o1, o2, o3, hlen] <;> rfl)); (first|(with_reducible (first|apply vO|apply vP|apply vQ|apply vR|apply vS|apply vT|apply vU); try simp only [Env.put])|with_reducible refine (?_ : WQ _ _ _ _ _ _)))
     |fail
    first
      | exact ⟨.inr trivial, _, (by simp only [resOf, resAll, resOne, Env.get, Nat.reduceEqDiff, ↓reduceIte] <;> rfl), _, rfl, fun h => ⟨p1 rfl, p2 rfl, p3 h⟩⟩
      | exact ⟨.inr trivial, _, (by simp only [resOf, resAll, resOne, Env.get, Nat.reduceEqDiff, ↓reduceIte] <;> rfl), _, rfl, by simp⟩
theorem node_10 {d : D} {t : List Nd} {x : Nd} (hT : TreeAt d t) (hx : x.Ok) (hk : KidsIn t x) (hK : x.kind = 10) : IsoB 66 [d, .agg x.row] fun b => b = true → (x.words.length : Int) = 0 ∧ ((x.nums.length : Int) = 1 ∧ ∀ n ∈ x.nums, 0 ≤ n ∧ n ≤ 1) ∧ 1 ≤ x.kids.length ∧ x.kids.length ≤ 800 ∧ ∀ i, i < x.kids.length → (i < 0 → 17 ≤ (nd t (x.kid i)).kind ∧ (nd t (x.kid i)).kind ≤ 22) ∧ (0 ≤ i → (nd t (x.kid i)).kind = 16) := by
  refine isoB_of ?_
  have o1 := FL.one hx.w
  have o2 := FL.one hx.n
  have o3 := FL.one hx.k
  have hlen := FI.len hx.k
  have hz := hx.fz
  have hrow : x.row = [.int .i64 10, x.dw, x.dn, x.dk, .int .i64 x.pos] := by unfold Nd.row; rw [hK]
  obtain ⟨b1, h1, p1⟩ := words_ok hx (c := 0)
  obtain ⟨b2, h2, p2⟩ := nums_ok hx (c := 1) (m := 1)
  obtain ⟨b3, h3, p3⟩ := exprs_ok hT hx hk (f := 0) (l := 1) (m := 800) (by omega) (by omega) (by omega)
  rw [hrow] at h1 h2 hz h3 ⊢
  cases b1 <;> cases b2
  all_goals
    refine evp_of (vf := vf66) rfl ?_
    simp only [vf66, xq, xg, xm, xmg, xc, xl, xlg, xf, xfg, xw, xa, xk, xi, xig, xo, xr, xrp, xn, List.map, List.getD, List.getElem?_cons_zero, List.getElem?_cons_succ, List.getElem?_nil, Option.getD]
    repeat first
     |(apply vq_isoI h1 rfl rfl (fz2 hz fz_int))
     |(apply vq_isoI h2 rfl rfl (fz3 hz fz_int fz_int))
     |(apply vq_isoI h3 rfl rfl (fz5 hT.fz hz fz_int fz_int fz_int))
     |with_reducible first|apply vA|apply vB|apply vC
     |((with_reducible apply vD); (focus rfl))
     |((with_reducible first|apply vE|apply vF|apply vG|apply vH); simp only [Env.keep, Env.get, Env.ev, List.map, Nat.reduceEqDiff, ↓reduceIte, Then, Out'])
     |((with_reducible first|apply vI|apply vJ|apply vK|apply vL|apply vM|apply vN); (focus (simp (disch := (first|with_reducible assumption|omega|((repeat (first|rw [nP]|rw [nS]))<;>omega)|fail)) only [go_sem, ↓reduceIte, o1, o2, o3, hlen] <;> rfl)); (first|(with_reducible (first|apply vO|apply vP|apply vQ|apply vR|apply vS|apply vT|apply vU); try simp only [Env.put])|with_reducible refine (?_ : WQ _ _ _ _ _ _)))
     |fail
    first
      | exact ⟨.inr trivial, _, (by simp only [resOf, resAll, resOne, Env.get, Nat.reduceEqDiff, ↓reduceIte] <;> rfl), _, rfl, fun h => ⟨p1 rfl, p2 rfl, p3 h⟩⟩
      | exact ⟨.inr trivial, _, (by simp only [resOf, resAll, resOne, Env.get, Nat.reduceEqDiff, ↓reduceIte] <;> rfl), _, rfl, by simp⟩
theorem node_11 {d : D} {t : List Nd} {x : Nd} (hT : TreeAt d t) (hx : x.Ok) (hk : KidsIn t x) (hK : x.kind = 11) : IsoB 66 [d, .agg x.row] fun b => b = true → (x.words.length : Int) = 0 ∧ ((x.nums.length : Int) = 0 ∧ ∀ n ∈ x.nums, 0 ≤ n ∧ n ≤ 0) ∧ 2 ≤ x.kids.length ∧ x.kids.length ≤ 3 ∧ ∀ i, i < x.kids.length → (i < 1 → 17 ≤ (nd t (x.kid i)).kind ∧ (nd t (x.kid i)).kind ≤ 22) ∧ (1 ≤ i → (nd t (x.kid i)).kind = 16) := by
  refine isoB_of ?_
  have o1 := FL.one hx.w
  have o2 := FL.one hx.n
  have o3 := FL.one hx.k
  have hlen := FI.len hx.k
  have hz := hx.fz
  have hrow : x.row = [.int .i64 11, x.dw, x.dn, x.dk, .int .i64 x.pos] := by unfold Nd.row; rw [hK]
  obtain ⟨b1, h1, p1⟩ := words_ok hx (c := 0)
  obtain ⟨b2, h2, p2⟩ := nums_ok hx (c := 0) (m := 0)
  obtain ⟨b3, h3, p3⟩ := exprs_ok hT hx hk (f := 1) (l := 1) (m := 2) (by omega) (by omega) (by omega)
  rw [hrow] at h1 h2 hz h3 ⊢
  cases b1 <;> cases b2
  all_goals
    refine evp_of (vf := vf66) rfl ?_
    simp only [vf66, xq, xg, xm, xmg, xc, xl, xlg, xf, xfg, xw, xa, xk, xi, xig, xo, xr, xrp, xn, List.map, List.getD, List.getElem?_cons_zero, List.getElem?_cons_succ, List.getElem?_nil, Option.getD]
    repeat first
     |(apply vq_isoI h1 rfl rfl (fz2 hz fz_int))
     |(apply vq_isoI h2 rfl rfl (fz3 hz fz_int fz_int))
     |(apply vq_isoI h3 rfl rfl (fz5 hT.fz hz fz_int fz_int fz_int))
     |with_reducible first|apply vA|apply vB|apply vC
     |((with_reducible apply vD); (focus rfl))
     |((with_reducible first|apply vE|apply vF|apply vG|apply vH); simp only [Env.keep, Env.get, Env.ev, List.map, Nat.reduceEqDiff, ↓reduceIte, Then, Out'])
     |((with_reducible first|apply vI|apply vJ|apply vK|apply vL|apply vM|apply vN); (focus (simp (disch := (first|with_reducible assumption|omega|((repeat (first|rw [nP]|rw [nS]))<;>omega)|fail)) only [go_sem, ↓reduceIte, o1, o2, o3, hlen] <;> rfl)); (first|(with_reducible (first|apply vO|apply vP|apply vQ|apply vR|apply vS|apply vT|apply vU); try simp only [Env.put])|with_reducible refine (?_ : WQ _ _ _ _ _ _)))
     |fail
    first
      | exact ⟨.inr trivial, _, (by simp only [resOf, resAll, resOne, Env.get, Nat.reduceEqDiff, ↓reduceIte] <;> rfl), _, rfl, fun h => ⟨p1 rfl, p2 rfl, p3 h⟩⟩
      | exact ⟨.inr trivial, _, (by simp only [resOf, resAll, resOne, Env.get, Nat.reduceEqDiff, ↓reduceIte] <;> rfl), _, rfl, by simp⟩
theorem node_12 {d : D} {t : List Nd} {x : Nd} (hT : TreeAt d t) (hx : x.Ok) (hk : KidsIn t x) (hK : x.kind = 12) : IsoB 66 [d, .agg x.row] fun b => b = true → (x.words.length : Int) = 0 ∧ ((x.nums.length : Int) = 0 ∧ ∀ n ∈ x.nums, 0 ≤ n ∧ n ≤ 0) ∧ 2 ≤ x.kids.length ∧ x.kids.length ≤ 2 ∧ ∀ i, i < x.kids.length → (i < 1 → 17 ≤ (nd t (x.kid i)).kind ∧ (nd t (x.kid i)).kind ≤ 22) ∧ (1 ≤ i → (nd t (x.kid i)).kind = 16) := by
  refine isoB_of ?_
  have o1 := FL.one hx.w
  have o2 := FL.one hx.n
  have o3 := FL.one hx.k
  have hlen := FI.len hx.k
  have hz := hx.fz
  have hrow : x.row = [.int .i64 12, x.dw, x.dn, x.dk, .int .i64 x.pos] := by unfold Nd.row; rw [hK]
  obtain ⟨b1, h1, p1⟩ := words_ok hx (c := 0)
  obtain ⟨b2, h2, p2⟩ := nums_ok hx (c := 0) (m := 0)
  obtain ⟨b3, h3, p3⟩ := exprs_ok hT hx hk (f := 1) (l := 1) (m := 1) (by omega) (by omega) (by omega)
  rw [hrow] at h1 h2 hz h3 ⊢
  cases b1 <;> cases b2
  all_goals
    refine evp_of (vf := vf66) rfl ?_
    simp only [vf66, xq, xg, xm, xmg, xc, xl, xlg, xf, xfg, xw, xa, xk, xi, xig, xo, xr, xrp, xn, List.map, List.getD, List.getElem?_cons_zero, List.getElem?_cons_succ, List.getElem?_nil, Option.getD]
    repeat first
     |(apply vq_isoI h1 rfl rfl (fz2 hz fz_int))
     |(apply vq_isoI h2 rfl rfl (fz3 hz fz_int fz_int))
     |(apply vq_isoI h3 rfl rfl (fz5 hT.fz hz fz_int fz_int fz_int))
     |with_reducible first|apply vA|apply vB|apply vC
     |((with_reducible apply vD); (focus rfl))
     |((with_reducible first|apply vE|apply vF|apply vG|apply vH); simp only [Env.keep, Env.get, Env.ev, List.map, Nat.reduceEqDiff, ↓reduceIte, Then, Out'])
     |((with_reducible first|apply vI|apply vJ|apply vK|apply vL|apply vM|apply vN); (focus (simp (disch := (first|with_reducible assumption|omega|((repeat (first|rw [nP]|rw [nS]))<;>omega)|fail)) only [go_sem, ↓reduceIte, o1, o2, o3, hlen] <;> rfl)); (first|(with_reducible (first|apply vO|apply vP|apply vQ|apply vR|apply vS|apply vT|apply vU); try simp only [Env.put])|with_reducible refine (?_ : WQ _ _ _ _ _ _)))
     |fail
    first
      | exact ⟨.inr trivial, _, (by simp only [resOf, resAll, resOne, Env.get, Nat.reduceEqDiff, ↓reduceIte] <;> rfl), _, rfl, fun h => ⟨p1 rfl, p2 rfl, p3 h⟩⟩
      | exact ⟨.inr trivial, _, (by simp only [resOf, resAll, resOne, Env.get, Nat.reduceEqDiff, ↓reduceIte] <;> rfl), _, rfl, by simp⟩
theorem node_13 {d : D} {t : List Nd} {x : Nd} (hT : TreeAt d t) (hx : x.Ok) (hk : KidsIn t x) (hK : x.kind = 13) : IsoB 66 [d, .agg x.row] fun b => b = true → (x.words.length : Int) = 0 ∧ ((x.nums.length : Int) = 0 ∧ ∀ n ∈ x.nums, 0 ≤ n ∧ n ≤ 0) ∧ 1 ≤ x.kids.length ∧ x.kids.length ≤ 1 ∧ ∀ i, i < x.kids.length → (i < 0 → 17 ≤ (nd t (x.kid i)).kind ∧ (nd t (x.kid i)).kind ≤ 22) ∧ (0 ≤ i → (nd t (x.kid i)).kind = 16) := by
  refine isoB_of ?_
  have o1 := FL.one hx.w
  have o2 := FL.one hx.n
  have o3 := FL.one hx.k
  have hlen := FI.len hx.k
  have hz := hx.fz
  have hrow : x.row = [.int .i64 13, x.dw, x.dn, x.dk, .int .i64 x.pos] := by unfold Nd.row; rw [hK]
  obtain ⟨b1, h1, p1⟩ := words_ok hx (c := 0)
  obtain ⟨b2, h2, p2⟩ := nums_ok hx (c := 0) (m := 0)
  obtain ⟨b3, h3, p3⟩ := exprs_ok hT hx hk (f := 0) (l := 1) (m := 1) (by omega) (by omega) (by omega)
  rw [hrow] at h1 h2 hz h3 ⊢
  cases b1 <;> cases b2
  all_goals
    refine evp_of (vf := vf66) rfl ?_
    simp only [vf66, xq, xg, xm, xmg, xc, xl, xlg, xf, xfg, xw, xa, xk, xi, xig, xo, xr, xrp, xn, List.map, List.getD, List.getElem?_cons_zero, List.getElem?_cons_succ, List.getElem?_nil, Option.getD]
    repeat first
     |(apply vq_isoI h1 rfl rfl (fz2 hz fz_int))
     |(apply vq_isoI h2 rfl rfl (fz3 hz fz_int fz_int))
     |(apply vq_isoI h3 rfl rfl (fz5 hT.fz hz fz_int fz_int fz_int))
     |with_reducible first|apply vA|apply vB|apply vC
     |((with_reducible apply vD); (focus rfl))
     |((with_reducible first|apply vE|apply vF|apply vG|apply vH); simp only [Env.keep, Env.get, Env.ev, List.map, Nat.reduceEqDiff, ↓reduceIte, Then, Out'])
     |((with_reducible first|apply vI|apply vJ|apply vK|apply vL|apply vM|apply vN); (focus (simp (disch := (first|with_reducible assumption|omega|((repeat (first|rw [nP]|rw [nS]))<;>omega)|fail)) only [go_sem, ↓reduceIte, o1, o2, o3, hlen] <;> rfl)); (first|(with_reducible (first|apply vO|apply vP|apply vQ|apply vR|apply vS|apply vT|apply vU); try simp only [Env.put])|with_reducible refine (?_ : WQ _ _ _ _ _ _)))
     |fail
    first
      | exact ⟨.inr trivial, _, (by simp only [resOf, resAll, resOne, Env.get, Nat.reduceEqDiff, ↓reduceIte] <;> rfl), _, rfl, fun h => ⟨p1 rfl, p2 rfl, p3 h⟩⟩
      | exact ⟨.inr trivial, _, (by simp only [resOf, resAll, resOne, Env.get, Nat.reduceEqDiff, ↓reduceIte] <;> rfl), _, rfl, by simp⟩
theorem node_14 {d : D} {t : List Nd} {x : Nd} (hT : TreeAt d t) (hx : x.Ok) (hk : KidsIn t x) (hK : x.kind = 14) : IsoB 66 [d, .agg x.row] fun b => b = true → (x.words.length : Int) = 0 ∧ ((x.nums.length : Int) = 0 ∧ ∀ n ∈ x.nums, 0 ≤ n ∧ n ≤ 0) ∧ x.kids = [] := by
  refine isoB_of ?_
  have o1 := FL.one hx.w
  have o2 := FL.one hx.n
  have o3 := FL.one hx.k
  have hlen := FI.len hx.k
  have hz := hx.fz
  have hrow : x.row = [.int .i64 14, x.dw, x.dn, x.dk, .int .i64 x.pos] := by unfold Nd.row; rw [hK]
  obtain ⟨b1, h1, p1⟩ := words_ok hx (c := 0)
  obtain ⟨b2, h2, p2⟩ := nums_ok hx (c := 0) (m := 0)
  rw [hrow] at h1 h2 hz ⊢
  have hz0 : ((x.kids.length : Int) == 0) = decide (x.kids = []) := by
    rw [Bool.eq_iff_iff, beq_iff_eq, decide_eq_true_eq, ← List.length_eq_zero_iff]; omega
  cases b1 <;> cases b2
  all_goals
    refine evp_of (vf := vf66) rfl ?_
    simp only [vf66, xq, xg, xm, xmg, xc, xl, xlg, xf, xfg, xw, xa, xk, xi, xig, xo, xr, xrp, xn, List.map, List.getD, List.getElem?_cons_zero, List.getElem?_cons_succ, List.getElem?_nil, Option.getD]
    repeat first
     |(apply vq_isoI h1 rfl rfl (fz2 hz fz_int))
     |(apply vq_isoI h2 rfl rfl (fz3 hz fz_int fz_int))
     |with_reducible first|apply vA|apply vB|apply vC
     |((with_reducible apply vD); (focus rfl))
     |((with_reducible first|apply vE|apply vF|apply vG|apply vH); simp only [Env.keep, Env.get, Env.ev, List.map, Nat.reduceEqDiff, ↓reduceIte, Then, Out'])
     |((with_reducible first|apply vI|apply vJ|apply vK|apply vL|apply vM|apply vN); (focus (simp (disch := (first|with_reducible assumption|omega|((repeat (first|rw [nP]|rw [nS]))<;>omega)|fail)) only [go_sem, ↓reduceIte, o1, o2, o3, hlen, hz0] <;> rfl)); (first|(with_reducible (first|apply vO|apply vP|apply vQ|apply vR|apply vS|apply vT|apply vU); try simp only [Env.put])|with_reducible refine (?_ : WQ _ _ _ _ _ _)))
     |fail
    first
      | exact ⟨.inr trivial, _, (by simp only [resOf, resAll, resOne, Env.get, Nat.reduceEqDiff, ↓reduceIte] <;> rfl), _, rfl, fun h => ⟨p1 rfl, p2 rfl, of_decide_eq_true h⟩⟩
      | exact ⟨.inr trivial, _, (by simp only [resOf, resAll, resOne, Env.get, Nat.reduceEqDiff, ↓reduceIte] <;> rfl), _, rfl, by simp⟩
theorem node_15 {d : D} {t : List Nd} {x : Nd} (hT : TreeAt d t) (hx : x.Ok) (hk : KidsIn t x) (hK : x.kind = 15) : IsoB 66 [d, .agg x.row] fun b => b = true → (x.words.length : Int) = 0 ∧ ((x.nums.length : Int) = 0 ∧ ∀ n ∈ x.nums, 0 ≤ n ∧ n ≤ 0) ∧ x.kids = [] := by
  refine isoB_of ?_
  have o1 := FL.one hx.w
  have o2 := FL.one hx.n
  have o3 := FL.one hx.k
  have hlen := FI.len hx.k
  have hz := hx.fz
  have hrow : x.row = [.int .i64 15, x.dw, x.dn, x.dk, .int .i64 x.pos] := by unfold Nd.row; rw [hK]
  obtain ⟨b1, h1, p1⟩ := words_ok hx (c := 0)
  obtain ⟨b2, h2, p2⟩ := nums_ok hx (c := 0) (m := 0)
  rw [hrow] at h1 h2 hz ⊢
  have hz0 : ((x.kids.length : Int) == 0) = decide (x.kids = []) := by
    rw [Bool.eq_iff_iff, beq_iff_eq, decide_eq_true_eq, ← List.length_eq_zero_iff]; omega
  cases b1 <;> cases b2
  all_goals
    refine evp_of (vf := vf66) rfl ?_
    simp only [vf66, xq, xg, xm, xmg, xc, xl, xlg, xf, xfg, xw, xa, xk, xi, xig, xo, xr, xrp, xn, List.map, List.getD, List.getElem?_cons_zero, List.getElem?_cons_succ, List.getElem?_nil, Option.getD]
    repeat first
     |(apply vq_isoI h1 rfl rfl (fz2 hz fz_int))
     |(apply vq_isoI h2 rfl rfl (fz3 hz fz_int fz_int))
     |with_reducible first|apply vA|apply vB|apply vC
     |((with_reducible apply vD); (focus rfl))
     |((with_reducible first|apply vE|apply vF|apply vG|apply vH); simp only [Env.keep, Env.get, Env.ev, List.map, Nat.reduceEqDiff, ↓reduceIte, Then, Out'])
     |((with_reducible first|apply vI|apply vJ|apply vK|apply vL|apply vM|apply vN); (focus (simp (disch := (first|with_reducible assumption|omega|((repeat (first|rw [nP]|rw [nS]))<;>omega)|fail)) only [go_sem, ↓reduceIte, o1, o2, o3, hlen, hz0] <;> rfl)); (first|(with_reducible (first|apply vO|apply vP|apply vQ|apply vR|apply vS|apply vT|apply vU); try simp only [Env.put])|with_reducible refine (?_ : WQ _ _ _ _ _ _)))
     |fail
    first
      | exact ⟨.inr trivial, _, (by simp only [resOf, resAll, resOne, Env.get, Nat.reduceEqDiff, ↓reduceIte] <;> rfl), _, rfl, fun h => ⟨p1 rfl, p2 rfl, of_decide_eq_true h⟩⟩
      | exact ⟨.inr trivial, _, (by simp only [resOf, resAll, resOne, Env.get, Nat.reduceEqDiff, ↓reduceIte] <;> rfl), _, rfl, by simp⟩
theorem node_16 {d : D} {t : List Nd} {x : Nd} (hT : TreeAt d t) (hx : x.Ok) (hk : KidsIn t x) (hK : x.kind = 16) : IsoB 66 [d, .agg x.row] fun b => b = true → (x.words.length : Int) = 0 ∧ ((x.nums.length : Int) = 0 ∧ ∀ n ∈ x.nums, 0 ≤ n ∧ n ≤ 0) ∧ ∀ i, 0 ≤ i → i < x.kids.length → 6 ≤ (nd t (x.kid i)).kind ∧ (nd t (x.kid i)).kind ≤ 15 := by
  refine isoB_of ?_
  have o1 := FL.one hx.w
  have o2 := FL.one hx.n
  have o3 := FL.one hx.k
  have hlen := FI.len hx.k
  have hz := hx.fz
  have hrow : x.row = [.int .i64 16, x.dw, x.dn, x.dk, .int .i64 x.pos] := by unfold Nd.row; rw [hK]
  obtain ⟨b1, h1, p1⟩ := words_ok hx (c := 0)
  obtain ⟨b2, h2, p2⟩ := nums_ok hx (c := 0) (m := 0)
  obtain ⟨b3, h3, p3⟩ := all_ok hT hx hk (f := 0) (a := 6) (b := 15)
  rw [hrow] at h1 h2 hz h3 ⊢
  cases b1 <;> cases b2
  all_goals
    refine evp_of (vf := vf66) rfl ?_
    simp only [vf66, xq, xg, xm, xmg, xc, xl, xlg, xf, xfg, xw, xa, xk, xi, xig, xo, xr, xrp, xn, List.map, List.getD, List.getElem?_cons_zero, List.getElem?_cons_succ, List.getElem?_nil, Option.getD]
    repeat first
     |(apply vq_isoI h1 rfl rfl (fz2 hz fz_int))
     |(apply vq_isoI h2 rfl rfl (fz3 hz fz_int fz_int))
     |(apply vq_isoI h3 rfl rfl (fz5 hT.fz hz fz_int fz_int fz_int))
     |with_reducible first|apply vA|apply vB|apply vC
     |((with_reducible apply vD); (focus rfl))
     |((with_reducible first|apply vE|apply vF|apply vG|apply vH); simp only [Env.keep, Env.get, Env.ev, List.map, Nat.reduceEqDiff, ↓reduceIte, Then, Out'])
     |((with_reducible first|apply vI|apply vJ|apply vK|apply vL|apply vM|apply vN); (focus (simp (disch := (first|with_reducible assumption|omega|((repeat (first|rw [nP]|rw [nS]))<;>omega)|fail)) only [go_sem, ↓reduceIte, o1, o2, o3, hlen] <;> rfl)); (first|(with_reducible (first|apply vO|apply vP|apply vQ|apply vR|apply vS|apply vT|apply vU); try simp only [Env.put])|with_reducible refine (?_ : WQ _ _ _ _ _ _)))
     |fail
    first
      | exact ⟨.inr trivial, _, (by simp only [resOf, resAll, resOne, Env.get, Nat.reduceEqDiff, ↓reduceIte] <;> rfl), _, rfl, fun h => ⟨p1 rfl, p2 rfl, p3 h⟩⟩
      | exact ⟨.inr trivial, _, (by simp only [resOf, resAll, resOne, Env.get, Nat.reduceEqDiff, ↓reduceIte] <;> rfl), _, rfl, by simp⟩
theorem node_17 {d : D} {t : List Nd} {x : Nd} (hT : TreeAt d t) (hx : x.Ok) (hk : KidsIn t x) (hK : x.kind = 17) : IsoB 66 [d, .agg x.row] fun b => b = true → (x.words.length : Int) = 0 ∧ ((x.nums.length : Int) = 1 ∧ ∀ n ∈ x.nums, 0 ≤ n ∧ n ≤ 999999) ∧ x.kids = [] := by
  refine isoB_of ?_
  have o1 := FL.one hx.w
  have o2 := FL.one hx.n
  have o3 := FL.one hx.k
  have hlen := FI.len hx.k
  have hz := hx.fz
  have hrow : x.row = [.int .i64 17, x.dw, x.dn, x.dk, .int .i64 x.pos] := by unfold Nd.row; rw [hK]
  obtain ⟨b1, h1, p1⟩ := words_ok hx (c := 0)
  obtain ⟨b2, h2, p2⟩ := nums_ok hx (c := 1) (m := 999999)
  rw [hrow] at h1 h2 hz ⊢
  have hz0 : ((x.kids.length : Int) == 0) = decide (x.kids = []) := by
    rw [Bool.eq_iff_iff, beq_iff_eq, decide_eq_true_eq, ← List.length_eq_zero_iff]; omega
  cases b1 <;> cases b2
  all_goals
    refine evp_of (vf := vf66) rfl ?_
    simp only [vf66, xq, xg, xm, xmg, xc, xl, xlg, xf, xfg, xw, xa, xk, xi, xig, xo, xr, xrp, xn, List.map, List.getD, List.getElem?_cons_zero, List.getElem?_cons_succ, List.getElem?_nil, Option.getD]
    repeat first
     |(apply vq_isoI h1 rfl rfl (fz2 hz fz_int))
     |(apply vq_isoI h2 rfl rfl (fz3 hz fz_int fz_int))
     |with_reducible first|apply vA|apply vB|apply vC
     |((with_reducible apply vD); (focus rfl))
     |((with_reducible first|apply vE|apply vF|apply vG|apply vH); simp only [Env.keep, Env.get, Env.ev, List.map, Nat.reduceEqDiff, ↓reduceIte, Then, Out'])
     |((with_reducible first|apply vI|apply vJ|apply vK|apply vL|apply vM|apply vN); (focus (simp (disch := (first|with_reducible assumption|omega|((repeat (first|rw [nP]|rw [nS]))<;>omega)|fail)) only [go_sem, ↓reduceIte, o1, o2, o3, hlen, hz0] <;> rfl)); (first|(with_reducible (first|apply vO|apply vP|apply vQ|apply vR|apply vS|apply vT|apply vU); try simp only [Env.put])|with_reducible refine (?_ : WQ _ _ _ _ _ _)))
     |fail
    first
      | exact ⟨.inr trivial, _, (by simp only [resOf, resAll, resOne, Env.get, Nat.reduceEqDiff, ↓reduceIte] <;> rfl), _, rfl, fun h => ⟨p1 rfl, p2 rfl, of_decide_eq_true h⟩⟩
      | exact ⟨.inr trivial, _, (by simp only [resOf, resAll, resOne, Env.get, Nat.reduceEqDiff, ↓reduceIte] <;> rfl), _, rfl, by simp⟩
theorem node_18 {d : D} {t : List Nd} {x : Nd} (hT : TreeAt d t) (hx : x.Ok) (hk : KidsIn t x) (hK : x.kind = 18) : IsoB 66 [d, .agg x.row] fun b => b = true → (x.words.length : Int) = 1 ∧ ((x.nums.length : Int) = 0 ∧ ∀ n ∈ x.nums, 0 ≤ n ∧ n ≤ 0) ∧ x.kids = [] := by
  refine isoB_of ?_
  have o1 := FL.one hx.w
  have o2 := FL.one hx.n
  have o3 := FL.one hx.k
  have hlen := FI.len hx.k
  have hz := hx.fz
  have hrow : x.row = [.int .i64 18, x.dw, x.dn, x.dk, .int .i64 x.pos] := by unfold Nd.row; rw [hK]
  obtain ⟨b1, h1, p1⟩ := words_ok hx (c := 1)
  obtain ⟨b2, h2, p2⟩ := nums_ok hx (c := 0) (m := 0)
  rw [hrow] at h1 h2 hz ⊢
  have hz0 : ((x.kids.length : Int) == 0) = decide (x.kids = []) := by
    rw [Bool.eq_iff_iff, beq_iff_eq, decide_eq_true_eq, ← List.length_eq_zero_iff]; omega
  cases b1 <;> cases b2
  all_goals
    refine evp_of (vf := vf66) rfl ?_
    simp only [vf66, xq, xg, xm, xmg, xc, xl, xlg, xf, xfg, xw, xa, xk, xi, xig, xo, xr, xrp, xn, List.map, List.getD, List.getElem?_cons_zero, List.getElem?_cons_succ, List.getElem?_nil, Option.getD]
    repeat first
     |(apply vq_isoI h1 rfl rfl (fz2 hz fz_int))
     |(apply vq_isoI h2 rfl rfl (fz3 hz fz_int fz_int))
     |with_reducible first|apply vA|apply vB|apply vC
     |((with_reducible apply vD); (focus rfl))
     |((with_reducible first|apply vE|apply vF|apply vG|apply vH); simp only [Env.keep, Env.get, Env.ev, List.map, Nat.reduceEqDiff, ↓reduceIte, Then, Out'])
     |((with_reducible first|apply vI|apply vJ|apply vK|apply vL|apply vM|apply vN); (focus (simp (disch := (first|with_reducible assumption|omega|((repeat (first|rw [nP]|rw [nS]))<;>omega)|fail)) only [go_sem, ↓reduceIte, o1, o2, o3, hlen, hz0] <;> rfl)); (first|(with_reducible (first|apply vO|apply vP|apply vQ|apply vR|apply vS|apply vT|apply vU); try simp only [Env.put])|with_reducible refine (?_ : WQ _ _ _ _ _ _)))
     |fail
    first
      | exact ⟨.inr trivial, _, (by simp only [resOf, resAll, resOne, Env.get, Nat.reduceEqDiff, ↓reduceIte] <;> rfl), _, rfl, fun h => ⟨p1 rfl, p2 rfl, of_decide_eq_true h⟩⟩
      | exact ⟨.inr trivial, _, (by simp only [resOf, resAll, resOne, Env.get, Nat.reduceEqDiff, ↓reduceIte] <;> rfl), _, rfl, by simp⟩
theorem node_19 {d : D} {t : List Nd} {x : Nd} (hT : TreeAt d t) (hx : x.Ok) (hk : KidsIn t x) (hK : x.kind = 19) : IsoB 66 [d, .agg x.row] fun b => b = true → (x.words.length : Int) = 1 ∧ ((x.nums.length : Int) = 0 ∧ ∀ n ∈ x.nums, 0 ≤ n ∧ n ≤ 0) ∧ x.kids = [] := by
  refine isoB_of ?_
  have o1 := FL.one hx.w
  have o2 := FL.one hx.n
  have o3 := FL.one hx.k
  have hlen := FI.len hx.k
  have hz := hx.fz
  have hrow : x.row = [.int .i64 19, x.dw, x.dn, x.dk, .int .i64 x.pos] := by unfold Nd.row; rw [hK]
  obtain ⟨b1, h1, p1⟩ := words_ok hx (c := 1)
  obtain ⟨b2, h2, p2⟩ := nums_ok hx (c := 0) (m := 0)
  rw [hrow] at h1 h2 hz ⊢
  have hz0 : ((x.kids.length : Int) == 0) = decide (x.kids = []) := by
    rw [Bool.eq_iff_iff, beq_iff_eq, decide_eq_true_eq, ← List.length_eq_zero_iff]; omega
  cases b1 <;> cases b2
  all_goals
    refine evp_of (vf := vf66) rfl ?_
    simp only [vf66, xq, xg, xm, xmg, xc, xl, xlg, xf, xfg, xw, xa, xk, xi, xig, xo, xr, xrp, xn, List.map, List.getD, List.getElem?_cons_zero, List.getElem?_cons_succ, List.getElem?_nil, Option.getD]
    repeat first
     |(apply vq_isoI h1 rfl rfl (fz2 hz fz_int))
     |(apply vq_isoI h2 rfl rfl (fz3 hz fz_int fz_int))
     |with_reducible first|apply vA|apply vB|apply vC
     |((with_reducible apply vD); (focus rfl))
     |((with_reducible first|apply vE|apply vF|apply vG|apply vH); simp only [Env.keep, Env.get, Env.ev, List.map, Nat.reduceEqDiff, ↓reduceIte, Then, Out'])
     |((with_reducible first|apply vI|apply vJ|apply vK|apply vL|apply vM|apply vN); (focus (simp (disch := (first|with_reducible assumption|omega|((repeat (first|rw [nP]|rw [nS]))<;>omega)|fail)) only [go_sem, ↓reduceIte, o1, o2, o3, hlen, hz0] <;> rfl)); (first|(with_reducible (first|apply vO|apply vP|apply vQ|apply vR|apply vS|apply vT|apply vU); try simp only [Env.put])|with_reducible refine (?_ : WQ _ _ _ _ _ _)))
     |fail
    first
      | exact ⟨.inr trivial, _, (by simp only [resOf, resAll, resOne, Env.get, Nat.reduceEqDiff, ↓reduceIte] <;> rfl), _, rfl, fun h => ⟨p1 rfl, p2 rfl, of_decide_eq_true h⟩⟩
      | exact ⟨.inr trivial, _, (by simp only [resOf, resAll, resOne, Env.get, Nat.reduceEqDiff, ↓reduceIte] <;> rfl), _, rfl, by simp⟩
theorem node_20 {d : D} {t : List Nd} {x : Nd} (hT : TreeAt d t) (hx : x.Ok) (hk : KidsIn t x) (hK : x.kind = 20) : IsoB 66 [d, .agg x.row] fun b => b = true → (x.words.length : Int) = 0 ∧ ((x.nums.length : Int) = 0 ∧ ∀ n ∈ x.nums, 0 ≤ n ∧ n ≤ 0) ∧ 1 ≤ x.kids.length ∧ x.kids.length ≤ 1 ∧ ∀ i, i < x.kids.length → (i < 1 → 17 ≤ (nd t (x.kid i)).kind ∧ (nd t (x.kid i)).kind ≤ 22) ∧ (1 ≤ i → (nd t (x.kid i)).kind = 16) := by
  refine isoB_of ?_
  have o1 := FL.one hx.w
  have o2 := FL.one hx.n
  have o3 := FL.one hx.k
  have hlen := FI.len hx.k
  have hz := hx.fz
  have hrow : x.row = [.int .i64 20, x.dw, x.dn, x.dk, .int .i64 x.pos] := by unfold Nd.row; rw [hK]
  obtain ⟨b1, h1, p1⟩ := words_ok hx (c := 0)
  obtain ⟨b2, h2, p2⟩ := nums_ok hx (c := 0) (m := 0)
  obtain ⟨b3, h3, p3⟩ := exprs_ok hT hx hk (f := 1) (l := 0) (m := 0) (by omega) (by omega) (by omega)
  rw [hrow] at h1 h2 hz h3 ⊢
  cases b1 <;> cases b2
  all_goals
    refine evp_of (vf := vf66) rfl ?_
    simp only [vf66, xq, xg, xm, xmg, xc, xl, xlg, xf, xfg, xw, xa, xk, xi, xig, xo, xr, xrp, xn, List.map, List.getD, List.getElem?_cons_zero, List.getElem?_cons_succ, List.getElem?_nil, Option.getD]
    repeat first
     |(apply vq_isoI h1 rfl rfl (fz2 hz fz_int))
     |(apply vq_isoI h2 rfl rfl (fz3 hz fz_int fz_int))
     |(apply vq_isoI h3 rfl rfl (fz5 hT.fz hz fz_int fz_int fz_int))
     |with_reducible first|apply vA|apply vB|apply vC
     |((with_reducible apply vD); (focus rfl))
     |((with_reducible first|apply vE|apply vF|apply vG|apply vH); simp only [Env.keep, Env.get, Env.ev, List.map, Nat.reduceEqDiff, ↓reduceIte, Then, Out'])
     |((with_reducible first|apply vI|apply vJ|apply vK|apply vL|apply vM|apply vN); (focus (simp (disch := (first|with_reducible assumption|omega|((repeat (first|rw [nP]|rw [nS]))<;>omega)|fail)) only [go_sem, ↓reduceIte, o1, o2, o3, hlen] <;> rfl)); (first|(with_reducible (first|apply vO|apply vP|apply vQ|apply vR|apply vS|apply vT|apply vU); try simp only [Env.put])|with_reducible refine (?_ : WQ _ _ _ _ _ _)))
     |fail
    first
      | exact ⟨.inr trivial, _, (by simp only [resOf, resAll, resOne, Env.get, Nat.reduceEqDiff, ↓reduceIte] <;> rfl), _, rfl, fun h => ⟨p1 rfl, p2 rfl, p3 h⟩⟩
      | exact ⟨.inr trivial, _, (by simp only [resOf, resAll, resOne, Env.get, Nat.reduceEqDiff, ↓reduceIte] <;> rfl), _, rfl, by simp⟩
theorem node_21 {d : D} {t : List Nd} {x : Nd} (hT : TreeAt d t) (hx : x.Ok) (hk : KidsIn t x) (hK : x.kind = 21) : IsoB 66 [d, .agg x.row] fun b => b = true → (x.words.length : Int) = 0 ∧ ((x.nums.length : Int) = 0 ∧ ∀ n ∈ x.nums, 0 ≤ n ∧ n ≤ 0) ∧ 1 ≤ x.kids.length ∧ x.kids.length ≤ 1 ∧ ∀ i, i < x.kids.length → (i < 1 → 17 ≤ (nd t (x.kid i)).kind ∧ (nd t (x.kid i)).kind ≤ 22) ∧ (1 ≤ i → (nd t (x.kid i)).kind = 16) := by
  refine isoB_of ?_
  have o1 := FL.one hx.w
  have o2 := FL.one hx.n
  have o3 := FL.one hx.k
  have hlen := FI.len hx.k
  have hz := hx.fz
  have hrow : x.row = [.int .i64 21, x.dw, x.dn, x.dk, .int .i64 x.pos] := by unfold Nd.row; rw [hK]
  obtain ⟨b1, h1, p1⟩ := words_ok hx (c := 0)
  obtain ⟨b2, h2, p2⟩ := nums_ok hx (c := 0) (m := 0)
  obtain ⟨b3, h3, p3⟩ := exprs_ok hT hx hk (f := 1) (l := 0) (m := 0) (by omega) (by omega) (by omega)
  rw [hrow] at h1 h2 hz h3 ⊢
  cases b1 <;> cases b2
  all_goals
    refine evp_of (vf := vf66) rfl ?_
    simp only [vf66, xq, xg, xm, xmg, xc, xl, xlg, xf, xfg, xw, xa, xk, xi, xig, xo, xr, xrp, xn, List.map, List.getD, List.getElem?_cons_zero, List.getElem?_cons_succ, List.getElem?_nil, Option.getD]
    repeat first
     |(apply vq_isoI h1 rfl rfl (fz2 hz fz_int))
     |(apply vq_isoI h2 rfl rfl (fz3 hz fz_int fz_int))
     |(apply vq_isoI h3 rfl rfl (fz5 hT.fz hz fz_int fz_int fz_int))
     |with_reducible first|apply vA|apply vB|apply vC
     |((with_reducible apply vD); (focus rfl))
     |((with_reducible first|apply vE|apply vF|apply vG|apply vH); simp only [Env.keep, Env.get, Env.ev, List.map, Nat.reduceEqDiff, ↓reduceIte, Then, Out'])
     |((with_reducible first|apply vI|apply vJ|apply vK|apply vL|apply vM|apply vN); (focus (simp (disch := (first|with_reducible assumption|omega|((repeat (first|rw [nP]|rw [nS]))<;>omega)|fail)) only [go_sem, ↓reduceIte, o1, o2, o3, hlen] <;> rfl)); (first|(with_reducible (first|apply vO|apply vP|apply vQ|apply vR|apply vS|apply vT|apply vU); try simp only [Env.put])|with_reducible refine (?_ : WQ _ _ _ _ _ _)))
     |fail
    first
      | exact ⟨.inr trivial, _, (by simp only [resOf, resAll, resOne, Env.get, Nat.reduceEqDiff, ↓reduceIte] <;> rfl), _, rfl, fun h => ⟨p1 rfl, p2 rfl, p3 h⟩⟩
      | exact ⟨.inr trivial, _, (by simp only [resOf, resAll, resOne, Env.get, Nat.reduceEqDiff, ↓reduceIte] <;> rfl), _, rfl, by simp⟩
theorem node_22 {d : D} {t : List Nd} {x : Nd} (hT : TreeAt d t) (hx : x.Ok) (hk : KidsIn t x) (hK : x.kind = 22) : IsoB 66 [d, .agg x.row] fun b => b = true → (x.words.length : Int) = 0 ∧ ((x.nums.length : Int) = 1 ∧ ∀ n ∈ x.nums, 0 ≤ n ∧ n ≤ 8) ∧ 2 ≤ x.kids.length ∧ x.kids.length ≤ 2 ∧ ∀ i, i < x.kids.length → (i < 2 → 17 ≤ (nd t (x.kid i)).kind ∧ (nd t (x.kid i)).kind ≤ 22) ∧ (2 ≤ i → (nd t (x.kid i)).kind = 16) := by
  refine isoB_of ?_
  have o1 := FL.one hx.w
  have o2 := FL.one hx.n
  have o3 := FL.one hx.k
  have hlen := FI.len hx.k
  have hz := hx.fz
  have hrow : x.row = [.int .i64 22, x.dw, x.dn, x.dk, .int .i64 x.pos] := by unfold Nd.row; rw [hK]
  obtain ⟨b1, h1, p1⟩ := words_ok hx (c := 0)
  obtain ⟨b2, h2, p2⟩ := nums_ok hx (c := 1) (m := 8)
  obtain ⟨b3, h3, p3⟩ := exprs_ok hT hx hk (f := 2) (l := 0) (m := 0) (by omega) (by omega) (by omega)
  rw [hrow] at h1 h2 hz h3 ⊢
  cases b1 <;> cases b2
  all_goals
    refine evp_of (vf := vf66) rfl ?_
    simp only [vf66, xq, xg, xm, xmg, xc, xl, xlg, xf, xfg, xw, xa, xk, xi, xig, xo, xr, xrp, xn, List.map, List.getD, List.getElem?_cons_zero, List.getElem?_cons_succ, List.getElem?_nil, Option.getD]
    repeat first
     |(apply vq_isoI h1 rfl rfl (fz2 hz fz_int))
     |(apply vq_isoI h2 rfl rfl (fz3 hz fz_int fz_int))
     |(apply vq_isoI h3 rfl rfl (fz5 hT.fz hz fz_int fz_int fz_int))
     |with_reducible first|apply vA|apply vB|apply vC
     |((with_reducible apply vD); (focus rfl))
     |((with_reducible first|apply vE|apply vF|apply vG|apply vH); simp only [Env.keep, Env.get, Env.ev, List.map, Nat.reduceEqDiff, ↓reduceIte, Then, Out'])
     |((with_reducible first|apply vI|apply vJ|apply vK|apply vL|apply vM|apply vN); (focus (simp (disch := (first|with_reducible assumption|omega|((repeat (first|rw [nP]|rw [nS]))<;>omega)|fail)) only [go_sem, ↓reduceIte, o1, o2, o3, hlen] <;> rfl)); (first|(with_reducible (first|apply vO|apply vP|apply vQ|apply vR|apply vS|apply vT|apply vU); try simp only [Env.put])|with_reducible refine (?_ : WQ _ _ _ _ _ _)))
     |fail
    first
      | exact ⟨.inr trivial, _, (by simp only [resOf, resAll, resOne, Env.get, Nat.reduceEqDiff, ↓reduceIte] <;> rfl), _, rfl, fun h => ⟨p1 rfl, p2 rfl, p3 h⟩⟩
      | exact ⟨.inr trivial, _, (by simp only [resOf, resAll, resOne, Env.get, Nat.reduceEqDiff, ↓reduceIte] <;> rfl), _, rfl, by simp⟩
end Go.Proofs.Ytlaeblilmppodaa
