/- Texts one behind the other. -/
import Derived.Test.YtlaeblilmppodaaZ1
import Derived.Laws.Strings
import Derived.Test.YtlaeblilmppodaaVt
set_option linter.unusedSimpArgs false
set_option linter.unusedVariables false
namespace Go.V
theorem i64_id {n : Int} (h1 : -9223372036854775808 <= n) (h2 : n < 9223372036854775808) : IntKind.i64.wrap n = n := IntWalk.i64_in n ⟨by omega, by omega⟩
def Fr (ids : List Nat) (s s' : Store) : Prop := s.next <= s'.next /\ ∀ i, i < s.next -> i ∉ ids -> s'.get i = s.get i
theorem Fr.refl (ids : List Nat) (s : Store) : Fr ids s s := ⟨Nat.le_refl _, fun _ _ _ => rfl⟩
theorem Fr.trans {ids : List Nat} {ids' : List Nat} {a b c : Store} (h : Fr ids a b) (k : Fr ids' b c) (hi : ∀ i ∈ ids', i ∈ ids ∨ a.next <= i) : Fr ids a c := by
 refine ⟨Nat.le_trans h.1 k.1, fun i hl hn => ?_⟩
 rw [k.2 i (Nat.lt_of_lt_of_le hl h.1) ?_, h.2 i hl hn]
 intro hc
 rcases hi i hc with h1 | h1
 ·exact hn h1
 ·omega
theorem Fr.push {ids : List Nat} {s : Store} (o : VObj) : Fr ids s (s.push o) := ⟨by rw [Store.next_push]; omega, fun i hl _ => by rw [Store.get_push, if_neg (by omega)]⟩
theorem Fr.set {ids : List Nat} {s : Store} {id : Nat} (o : Option VObj) (h : id ∈ ids) : Fr ids s (s.set id o) := ⟨by rw [Store.next_set]; omega, fun i hl hn => by
 rw [Store.get_set, if_neg]; rintro ⟨rfl, _⟩; exact hn h⟩
theorem Fr.thenPush {ids : List Nat} {a b : Store} (h : Fr ids a b) (o : VObj) : Fr ids a (b.push o) := h.trans (Fr.push (ids := []) o) (by simp)
theorem Fr.thenSet {ids : List Nat} {a b : Store} {id : Nat} (h : Fr ids a b) (o : Option VObj) (hi : id ∈ ids ∨ a.next <= id) : Fr ids a (b.set id o) :=
 h.trans (Fr.set (ids := [id]) o (by simp)) (by simpa using hi)
theorem Fr.weaken {ids ids' : List Nat} {a b : Store} (h : Fr ids a b) (hi : ∀ i ∈ ids, i ∈ ids') : Fr ids' a b := ⟨h.1, fun i hl hn => h.2 i hl fun hc => hn (hi i hc)⟩
theorem get_lts {s : Store} {i : Nat} {o : VObj} (h : s.get i = some o) : i < s.next := by
 unfold Store.get at h
 split at h
 ·assumption
 ·cases h
theorem get_push_old {s : Store} {o : VObj} {i : Nat} (h : i < s.next) : (s.push o).get i = s.get i := by rw [Store.get_push, if_neg (by omega)]
theorem get_push_new {s : Store} {o : VObj} {i : Nat} (h : i = s.next) : (s.push o).get i = some o := by rw [Store.get_push, if_pos h]
theorem get_set_ne {s : Store} {o : Option VObj} {i id : Nat} (h : i ≠ id) : (s.set id o).get i = s.get i := by rw [Store.get_set, if_neg (by rintro ⟨rfl, _⟩; exact h rfl)]
theorem get_set_eq {s : Store} {o : Option VObj} {i : Nat} (h : i < s.next) : (s.set i o).get i = o := by rw [Store.get_set, if_pos ⟨rfl, h⟩]
def cellsI (l : List Nat) : List D := l.map fun (n : Nat) => .int .i64 (n : Int)
def cellsB (l : List Bool) : List D := l.map fun b => .bool b
def cellsN : List (Nat × Nat) -> List D
 | [] => []
 | p :: r => .int .i64 (p.1 : Int) :: .int .i64 (p.2 : Int) :: cellsN r
def kvs (l : List ((Nat × Nat) × Nat)) : List (D × D) := l.map fun x => (.agg [.int .i64 (x.1.1 : Int), .int .i64 (x.1.2 : Int)], .int .i64 (x.2 : Int))
@[simp] theorem cellsI_length (l : List Nat) : (cellsI l).length = l.length := by simp [cellsI]
@[simp] theorem cellsB_length (l : List Bool) : (cellsB l).length = l.length := by simp [cellsB]
def Rd (s : Store) (d : D) (l : List D) : Prop :=
 (d = .nils /\ l = []) ∨ d = .lst 1 (l.map fun x => [x]) ∨ ∃ id off cs, d = .arr id off l.length 1 /\ s.get id = some (.cells cs) /\ off + l.length <= cs.length /\ (cs.drop off).take l.length = l
theorem Rd.len {s : Store} {d : D} {l : List D} (h : Rd s d l) : lenV false d = some (.int .i64 (l.length : Int)) := by
 rcases h with ⟨rfl, rfl⟩ | rfl | ⟨id, off, cs, rfl, _⟩ <;> simp [lenV]
theorem Rd.one {s : Store} {d : D} {l : List D} (h : Rd s d l) : oneCell d = true := by
 rcases h with ⟨rfl, rfl⟩ | rfl | ⟨id, off, cs, rfl, _⟩ <;> rfl
theorem Rd.idx {s : Store} {d : D} {l : List D} (h : Rd s d l) (ho : l.all oneCell = true) {i : Nat} (hi : i < l.length) {k : IntKind} {z : Int} (hz : z = (i : Int)) : ∃ p, idxAV 1 d (.int k z) = some p /\ ldV s.get none p = some l[i] := by
 subst hz
 have ho' : oneCell l[i] = true := by rw [List.all_eq_true] at ho; exact ho _ (List.getElem_mem hi)
 rcases h with ⟨rfl, rfl⟩ | rfl | ⟨id, off, cs, rfl, h1, h2, h3⟩
 ·simp at hi
 ·refine ⟨.fp [l[i]] 0, ?_, ?_⟩
  ·simp [idxAV, hi]
  ·simp [ldV, pull, ho']
 ·refine ⟨.ptr id (off + i), ?_, ?_⟩
  ·simp only [idxAV]
   rw [if_pos (by refine ⟨trivial, ?_, ?_⟩ <;> omega)]
   simp
  ·simp only [ldV, h1, pull]
   have : cs[off + i]? = some l[i] := by
    have e : l[i]? = some l[i] := List.getElem?_eq_getElem hi
    rw [<- e]
    conv => rhs; rw [<- h3]
    rw [List.getElem?_take_of_lt hi, List.getElem?_drop]
   rw [this]
   simp [ho']
theorem Rd.row {s : Store} {d : D} {l : List D} (h : Rd s d l) : rowOf s.get d = some l /\ srcLen d = some l.length /\ srcSz 1 d = true := by
 rcases h with ⟨rfl, rfl⟩ | rfl | ⟨id, off, cs, rfl, h1, h2, h3⟩
 ·simp [rowOf, srcLen, srcSz]
 ·refine ⟨?_, by simp [srcLen], by simp [srcSz]⟩
  simp only [rowOf]
  congr 1
  induction l with
  | nil => rfl
  | cons a l ih => simp [ih]
 ·refine ⟨?_, by simp [srcLen], by simp [srcSz]⟩
  simp only [rowOf, h1, Nat.mul_one]
  rw [if_pos h2, h3]
theorem Rd.arr {s : Store} {id : Nat} {l : List D} (h : s.get id = some (.cells l)) : Rd s (.arr id 0 l.length 1) l := .inr (.inr ⟨id, 0, l, rfl, h, by simp, by simp⟩)
theorem Rd.stay {s s' : Store} {d : D} {l : List D} (h : Rd s d l) (hs : ∀ id off len, d = .arr id off len 1 -> s'.get id = s.get id) : Rd s' d l := by
 rcases h with h | h | ⟨id, off, cs, rfl, h1, h2, h3⟩
 ·exact .inl h
 ·exact .inr (.inl h)
 ·exact .inr (.inr ⟨id, off, cs, rfl, by rw [hs id off _ rfl, h1], h2, h3⟩)
theorem all_cellsB (l : List Bool) : (cellsB l).all oneCell = true := by simp [cellsB, oneCell]
theorem Rd.idxB {s : Store} {d : D} {l : List Bool} (h : Rd s d (cellsB l)) {i : Nat} (hi : i < l.length) : ∃ p, idxAV 1 d (.int .i64 (i : Int)) = some p /\ ldV s.get none p = some (.bool l[i]) := by
 obtain ⟨p, h1, h2⟩ := h.idx (all_cellsB l) (i := i) (by simpa using hi) (k := .i64) rfl
 exact ⟨p, h1, by rw [h2]; simp [cellsB]⟩
def scal1 : D -> Bool
 | .int _ _ => true
 | .bool _ => true
 | .str _ => true
 | _ => false
theorem ice_scal {g : Look} {d : D} (h : scal1 d = true) : ∀ n, ice g (n + 1) d = some d := by
 intro n
 cases d <;> first | rfl | (simp [scal1] at h)
theorem scalarD_scal {d : D} (h : scal1 d = true) : scalarD d = true := by cases d <;> first | rfl | (simp [scal1] at h)
theorem mapO_ice {g : Look} {n : Nat} : ∀ {l : List D}, l.all scal1 = true -> mapO (ice g (n + 1)) l = some l
 | [], _ => rfl
 | d :: r, h => by
   simp only [List.all_cons, Bool.and_eq_true] at h
   simp only [mapO, ice_scal h.1, mapO_ice h.2]
theorem chunk_one : ∀ (l : List D), chunk 1 l.length l = l.map fun x => [x]
 | [] => rfl
 | d :: r => by simp [chunk, chunk_one r]
theorem Rd.ice {s : Store} {d : D} {l : List D} (h : Rd s d l) (hl : l.all scal1 = true) : ∃ d', ice s.get 20 d = some d' /\ Rd Store.empty d' l := by
 have hrow := h.row.1
 rcases h with ⟨rfl, rfl⟩ | rfl | ⟨id, off, cs, rfl, h1, h2, h3⟩
 ·exact ⟨.nils, rfl, .inl ⟨rfl, rfl⟩⟩
 ·exact ⟨_, rfl, .inr (.inl rfl)⟩
 ·refine ⟨.lst 1 (l.map fun x => [x]), ?_, .inr (.inl rfl)⟩
  simp only [V.ice, hrow]
  rw [mapO_ice hl]
  simp only [Option.map_some, chunk_one]
theorem vq_isoL {fs : FuncId -> Option VFunc} {pairs i t f args rest s Q} {env : Env} {l l' : List D} {r : D} {s1 : Store} (hr : Ev fs f l' Store.empty r s1) (hs : scal1 r = true) (hl : env.evL args = l) (ha : mapO (V.ice s.get 20) l = some l')
 (h : WQ fs pairs rest ((t, r) :: env) s Q) : WQ fs pairs ((i, ⟨some t, .m (.call .iso (.cst (.fn f [])) args), none⟩) :: rest) env s Q :=
 vq_iso' hl ha hr (ice_scal hs 19) (by rw [scalarD_scal hs]; rfl) h
theorem ev_of_fst {fs : FuncId -> Option VFunc} {n : Nat} {f : FuncId} {args : List D} {s : Store} {d : D} (h : (vcall fs n f args s).map Prod.fst = some d) : ∃ s', Ev fs f args s d s' := by
 cases hv : vcall fs n f args s with
 | none => rw [hv] at h; cases h
 | some r =>
   rw [hv] at h
   obtain ⟨d', s'⟩ := r
   simp at h
   subst h
   exact ⟨s', n, hv⟩
def Sl (s : Store) (d : D) (l : List D) (ids : List Nat) : Prop :=
 (d = .nils /\ l = [] /\ ids = []) ∨ ∃ id, d = .arr id 0 l.length 1 /\ s.get id = some (.cells l) /\ ids = [id]
theorem Sl.rd {s : Store} {d : D} {l : List D} {ids : List Nat} (h : Sl s d l ids) : Rd s d l := by
 rcases h with ⟨rfl, rfl, _⟩ | ⟨id, rfl, h, _⟩
 ·exact .inl ⟨rfl, rfl⟩
 ·exact Rd.arr h
theorem Sl.one {s : Store} {d : D} {l : List D} {ids : List Nat} (h : Sl s d l ids) : oneCell d = true := h.rd.one
theorem Sl.lt {s : Store} {d : D} {l : List D} {ids : List Nat} (h : Sl s d l ids) : ∀ i ∈ ids, i < s.next := by
 rcases h with ⟨_, _, rfl⟩ | ⟨id, _, h, rfl⟩
 ·simp
 ·simpa using get_lts h
theorem Sl.push {s : Store} {d : D} {l : List D} {ids : List Nat} {new : List D} {id2 bytes : Nat} (h : Sl s d l ids) (h3 : s.get id2 = some (.cells new)) (hne : new ≠ []) (hb : bytes <= 16) (hl : l.length + new.length <= 2 ^ 40) :
 ∃ s' d', appendV 1 bytes d (.arr id2 0 new.length 1) s = some (d', s') /\ Sl s' d' (l ++ new) [s.next] /\ s'.next = s.next + 1 /\ ∀ i, i ∉ ids -> i < s.next -> s'.get i = s.get i := by
 have hn : new.length ≠ 0 := by simpa using hne
 have b1 : (l.length + new.length) * bytes <= 2 ^ 45 := Nat.le_trans (Nat.mul_le_mul hl hb) (by decide)
 have b2 : l.length + new.length <= 2 ^ 45 := Nat.le_trans hl (by decide)
 have b3 : bytes <= 2 ^ 20 := Nat.le_trans hb (by decide)
 rcases h with ⟨rfl, rfl, rfl⟩ | ⟨id, rfl, h1, rfl⟩
 ·refine ⟨s.push (.cells new), .arr s.next 0 new.length 1, ?_, .inr ⟨s.next, by simp, by simp [Store.get_push], rfl⟩, rfl, fun i _ hi => by rw [Store.get_push, if_neg (by omega)]⟩
  unfold appendV
  simp only [List.length_nil, Nat.zero_add] at b1 b2
  simp only [rowOf, h3, srcLen, srcSz, Nat.zero_add, Nat.mul_one, Nat.le_refl, if_true, List.drop_zero, beq_self_eq_true, b3, decide_true, Bool.and_self, and_self, hn, if_false, b1, b2, List.take_length]
 ·refine ⟨(s.set id none).push (.cells (l ++ new)), .arr s.next 0 (l.length + new.length) 1, ?_, .inr ⟨s.next, by simp, by rw [Store.get_push, if_pos (by simp only [Store.next_set])], rfl⟩, rfl, fun i hi hl => ?_⟩
  ·unfold appendV
   simp only [rowOf, h3, srcLen, srcSz, Nat.zero_add, Nat.mul_one, Nat.le_refl, if_true, List.drop_zero, beq_self_eq_true, b3, decide_true, Bool.and_self, h1, and_self, hn, if_false, b1, b2, List.take_length]
  ·simp only [List.mem_singleton] at hi
   rw [Store.get_push, if_neg (by simp only [Store.next_set]; omega), Store.get_set, if_neg (by rintro ⟨rfl, _⟩; exact hi rfl)]
structure Gr where
 nodes : List (Nat × Nat)
 ins : List Nat
 known : List ((Nat × Nat) × Nat)
structure GraphAt (s : Store) (g : Nat) (G : Gr) (nid mid : Nat) (dins : D) (iids : List Nat) : Prop where
 obj : s.get g = some (.cells [.arr nid 0 G.nodes.length 2, dins, .map mid])
 nodes : s.get nid = some (.cells (cellsN G.nodes))
 ins : Sl s dins (cellsI G.ins) iids
 known : s.get mid = some (.map (kvs G.known))
 nd : (g :: nid :: mid :: iids).Nodup
def GA (s : Store) (g : Nat) (G : Gr) (ids : List Nat) : Prop := ∃ nid mid dins iids, GraphAt s g G nid mid dins iids /\ ids = g :: nid :: mid :: iids
def GrStep (s : Store) (g : Nat) (ids : List Nat) (s' : Store) (G' : Gr) (ids' : List Nat) : Prop := GA s' g G' ids' /\ Fr ids s s' /\ ∀ i ∈ ids', i ∈ ids ∨ s.next <= i
theorem GrStep.trans {s s' s'' : Store} {g : Nat} {ids ids' ids'' : List Nat} {G' G'' : Gr} (h : GrStep s g ids s' G' ids') (k : GrStep s' g ids' s'' G'' ids'') : GrStep s g ids s'' G'' ids'' := by
 refine ⟨k.1, h.2.1.trans k.2.1 h.2.2, fun i hi => ?_⟩
 rcases k.2.2 i hi with h1 | h1
 ·exact h.2.2 i h1
 ·exact .inr (Nat.le_trans h.2.1.1 h1)
theorem GrStep.refl {s : Store} {g : Nat} {G : Gr} {ids : List Nat} (h : GA s g G ids) : GrStep s g ids s G ids := ⟨h, Fr.refl _ _, fun _ hi => .inl hi⟩
theorem GA.stay' {s s' : Store} {g : Nat} {G : Gr} {ids : List Nat} (h : GA s g G ids) (hs : ∀ i ∈ ids, i < s.next -> s'.get i = s.get i) : GA s' g G ids := by
 obtain ⟨nid, mid, dins, iids, hg, rfl⟩ := h
 have k : ∀ i o, i ∈ g :: nid :: mid :: iids -> s.get i = some o -> s'.get i = some o := fun i o hi ho => by rw [hs i hi (get_lts ho), ho]
 refine ⟨nid, mid, dins, iids, ⟨k _ _ (by simp) hg.obj, k _ _ (by simp) hg.nodes, ?_, k _ _ (by simp) hg.known, hg.nd⟩, rfl⟩
 rcases hg.ins with h1 | ⟨id, h1, h2, rfl⟩
 ·exact .inl h1
 ·exact .inr ⟨id, h1, k _ _ (by simp) h2, rfl⟩
theorem GA.stay {s s' : Store} {g : Nat} {G : Gr} {ids ids2 : List Nat} (h : GA s g G ids) (hf : Fr ids2 s s') (hd : ∀ i ∈ ids, i ∉ ids2) : GA s' g G ids := h.stay' fun i hi hl => hf.2 i hl (hd i hi)
theorem Sl.stay {s s' : Store} {d : D} {l : List D} {ids ids2 : List Nat} (h : Sl s d l ids) (hf : Fr ids2 s s') (hd : ∀ i ∈ ids, i ∉ ids2) : Sl s' d l ids := by
 rcases h with h1 | ⟨id, h1, h2, rfl⟩
 ·exact .inl h1
 ·exact .inr ⟨id, h1, by rw [hf.2 id (get_lts h2) (hd id (by simp)), h2], rfl⟩
theorem GA.lt {s : Store} {g : Nat} {G : Gr} {ids : List Nat} (h : GA s g G ids) : ∀ i ∈ ids, i < s.next := by
 obtain ⟨nid, mid, dins, iids, hg, rfl⟩ := h
 intro i hi
 simp only [List.mem_cons] at hi
 rcases hi with rfl | rfl | rfl | hi
 ·exact get_lts hg.obj
 ·exact get_lts hg.nodes
 ·exact get_lts hg.known
 ·exact hg.ins.lt i hi
theorem GA.pos {s : Store} {g : Nat} {G : Gr} {ids : List Nat} (h : GA s g G ids) : ∃ nid dins mid, s.get g = some (.cells [.arr nid 0 G.nodes.length 2, dins, .map mid]) := by
 obtain ⟨nid, mid, dins, iids, hg, rfl⟩ := h
 exact ⟨nid, dins, mid, hg.obj⟩
theorem GA.push {s : Store} {g : Nat} {G : Gr} {ids : List Nat} (hG : GA s g G ids) (o : VObj) : GA (s.push o) g G ids := hG.stay (ids2 := []) (Fr.push _) (by simp)
theorem GA.newer {s s' : Store} {g : Nat} {G : Gr} {ids : List Nat} (hG : GA s g G ids) (h : Fr [] s s') : GrStep s g ids s' G ids := ⟨hG.stay h (by simp), h.weaken (by simp), fun _ h => .inl h⟩
def notN (e : Nat) : Nat := if e % 2 = 0 then e + 1 else e - 1
def Gr.own (G : Gr) (e : Int) : Nat := if e < 0 ∨ (G.nodes.length : Int) <= e.tdiv 2 then 0 else e.toNat
def Gr.add (G : Gr) (p : Nat × Nat) : Gr := { G with nodes := G.nodes ++ [p] }
def find (k : Nat × Nat) : List ((Nat × Nat) × Nat) -> Option Nat
 | [] => none
 | (p, n) :: r => if k = p then some n else find k r
def Gr.and (G : Gr) (a b : Nat) : Nat × Gr :=
 if min a b = 0 ∨ min a b = notN (max a b) then (0, G)
 else if min a b = 1 ∨ min a b = max a b then (max a b, G)
 else match find (min a b, max a b) G.known with
  | some n => (2 * n, G)
  | none => (2 * G.nodes.length, { nodes := G.nodes ++ [(min a b, max a b)], ins := G.ins, known := G.known ++ [((min a b, max a b), G.nodes.length)] })
attribute [go_sem] get_push_old get_push_new get_set_ne get_set_eq i64_id
end Go.V
namespace Go.V
def FL (sz : Nat) (d : D) (rows : List (List D)) : Prop := (d = .nils /\ rows = []) ∨ d = .lst sz rows
theorem FL.len {sz : Nat} {d : D} {rows : List (List D)} (h : FL sz d rows) : lenV false d = some (.int .i64 (rows.length : Int)) := by
 rcases h with ⟨rfl, rfl⟩ | rfl <;> rfl
theorem FL.one {sz : Nat} {d : D} {rows : List (List D)} (h : FL sz d rows) : oneCell d = true := by
 rcases h with ⟨rfl, rfl⟩ | rfl <;> rfl
theorem FL.pure {sz : Nat} {d : D} {rows : List (List D)} (h : FL sz d rows) : pureD d = true := by
 rcases h with ⟨rfl, rfl⟩ | rfl <;> rfl
theorem FL.ice {sz : Nat} {d : D} {rows : List (List D)} (h : FL sz d rows) {g : Look} {n : Nat} : ice g (n + 1) d = some d := by
 rcases h with ⟨rfl, rfl⟩ | rfl <;> rfl
theorem FL.idx {sz : Nat} {d : D} {rows : List (List D)} (h : FL sz d rows) {i : Nat} (hi : i < rows.length) {k : IntKind} : idxAV sz d (.int k (i : Int)) = some (.fp rows[i] 0) := by
 rcases h with ⟨rfl, rfl⟩ | rfl
 ·simp at hi
 ·simp [idxAV, hi]
theorem FL.cells {sz : Nat} {d : D} {rows : List (List D)} (h : FL sz d rows) : cellsOf d = [d] := by
 rcases h with ⟨rfl, rfl⟩ | rfl <;> rfl
def FS (d : D) (l : List ByteArray) : Prop := FL 1 d (l.map fun x => [.str x])
def FI (d : D) (l : List Int) : Prop := FL 1 d (l.map fun n => [.int .i64 n])
def FB (d : D) (l : List Bool) : Prop := FL 1 d (l.map fun b => [.bool b])
theorem FS.len {d : D} {l : List ByteArray} (h : FS d l) : lenV false d = some (.int .i64 (l.length : Int)) := by rw [FL.len h, List.length_map]
theorem FI.len {d : D} {l : List Int} (h : FI d l) : lenV false d = some (.int .i64 (l.length : Int)) := by rw [FL.len h, List.length_map]
theorem FB.len {d : D} {l : List Bool} (h : FB d l) : lenV false d = some (.int .i64 (l.length : Int)) := by rw [FL.len h, List.length_map]
theorem FS.idx {d : D} {l : List ByteArray} (h : FS d l) {i : Nat} (hi : i < l.length) {k : IntKind} : idxAV 1 d (.int k (i : Int)) = some (.fp [.str l[i]] 0) := by
 rw [FL.idx h (by simpa using hi)]; simp
theorem FI.idx {d : D} {l : List Int} (h : FI d l) {i : Nat} (hi : i < l.length) {k : IntKind} : idxAV 1 d (.int k (i : Int)) = some (.fp [.int .i64 l[i]] 0) := by
 rw [FL.idx h (by simpa using hi)]; simp
theorem FB.idx {d : D} {l : List Bool} (h : FB d l) {i : Nat} (hi : i < l.length) {k : IntKind} : idxAV 1 d (.int k (i : Int)) = some (.fp [.bool l[i]] 0) := by
 rw [FL.idx h (by simpa using hi)]; simp
theorem FL.drop {sz : Nat} {d : D} {rows : List (List D)} (h : FL sz d rows) {n : Nat} (hn : n <= rows.length) {k : IntKind} : ∃ d', sliceV (some sz) d (some (.int k (n : Int))) none = some d' /\ FL sz d' (rows.drop n) := by
 rcases h with ⟨rfl, rfl⟩ | rfl
 ·obtain rfl : n = 0 := by simpa using hn
  exact ⟨.nils, by simp [sliceV, boundOf], .inl ⟨rfl, rfl⟩⟩
 ·exact ⟨_, by simp [sliceV, boundOf, hn], .inr rfl⟩
theorem FL.take {sz : Nat} {d : D} {rows : List (List D)} (h : FL sz d rows) {n : Nat} (hn : n <= rows.length) {k : IntKind} : ∃ d', sliceV (some sz) d none (some (.int k (n : Int))) = some d' /\ FL sz d' (rows.take n) := by
 rcases h with ⟨rfl, rfl⟩ | rfl
 ·obtain rfl : n = 0 := by simpa using hn
  exact ⟨.nils, by simp [sliceV, boundOf], .inl ⟨rfl, rfl⟩⟩
 ·exact ⟨_, by simp [sliceV, boundOf, hn], .inr rfl⟩
theorem str_eq {a b : ByteArray} : (a.toList == b.toList) = decide (a = b) := by
 rw [Bool.eq_iff_iff, beq_iff_eq, decide_eq_true_eq]
 constructor
 ·intro h
  rw [ByteArray.toList_eq, ByteArray.toList_eq] at h
  cases a; cases b
  simp at h
  rw [h]
 ·rintro rfl; rfl
theorem bst_eql {a b : ByteArray} : binStr .eql a b = some (.bool (decide (a = b))) := by rw [<- str_eq]; rfl
attribute [go_sem] bst_eql
end Go.V
namespace Go.V
theorem map_of {α β : Type} {f : α -> β} {P : α -> Prop} : ∀ {xs : List β}, (∀ x ∈ xs, ∃ a, x = f a /\ P a) -> ∃ aa : List α, xs = aa.map f /\ ∀ a ∈ aa, P a
 | [], _ => ⟨[], rfl, by simp⟩
 | x :: r, h => by
   obtain ⟨a, rfl, ha⟩ := h x (by simp)
   obtain ⟨aa, rfl, has⟩ := map_of (xs := r) fun x hx => h x (by simp [hx])
   exact ⟨a :: aa, rfl, by simpa using ⟨ha, has⟩⟩
def in64 (n : Int) : Prop := -9223372036854775808 <= n /\ n < 9223372036854775808
theorem in64_of {n : Int} (h : (Lit.int .i64 n).wf = true) : in64 n := by
 simp only [Lit.wf, Bool.and_eq_true, decide_eq_true_eq] at h
 have h1 : IntKind.i64.min = -9223372036854775808 := rfl
 have h2 : IntKind.i64.max = 9223372036854775807 := rfl
 rw [h1, h2] at h
 exact ⟨h.1, by omega⟩
def Ty.act : Ty := .slice 4 (.struct [.int .i64, .int .i64, .int .i64, .int .i64])
theorem Sl.push1 {s : Store} {d : D} {l : List D} {ids : List Nat} (h : Sl s d l ids) (x : D) {bytes : Nat} (hb : bytes <= 16) (hl : l.length < 2 ^ 40) :
 ∃ s' d', appendV 1 bytes d (.arr s.next 0 1 1) (s.push (.cells [x])) = some (d', s') /\ Sl s' d' (l ++ [x]) [s.next + 1] /\ s'.next = s.next + 2 /\ Fr ids s s' := by
 have h' : Sl (s.push (.cells [x])) d l ids := h.stay (ids2 := []) (Fr.push _) (by simp)
 obtain ⟨s', d', e1, e2, e3, e4⟩ := h'.push (new := [x]) (id2 := s.next) (bytes := bytes) (get_push_new rfl) (by simp) hb (by simp; omega)
 refine ⟨s', d', e1, e2, e3, by rw [e3, Store.next_push]; omega, fun i hi hn => ?_⟩
 rw [e4 i hn (by simp only [Store.next_push]; omega), get_push_old hi]
section
variable {fs : FuncId -> Option VFunc}
theorem splice_set {l : List D} {n : Nat} {x : D} (h : n < l.length) : splice l n [x] = l.set n x := by
 simp only [splice, List.length_singleton]
 rw [List.set_eq_take_append_cons_drop, if_pos h]
 simp
theorem vq_w1 {i a v rest s Q} {env : Env} {id n : Nat} {l : List D} {x : D} (hg : s.get id = some (.cells l)) (hn : n < l.length) (ho : oneCell x = true) (ha : env.ev a = .ptr id n) (hv : env.ev v = x)
 (h : WQ fs [] rest env (s.set id (some (.cells (l.set n x)))) Q) : WQ fs [] ((i, ⟨none, .w 1 a v, none⟩) :: rest) env s Q := by
 refine vq_w (id := id) (ob := .cells (l.set n x)) ?_ h
 simp only [evW, ha, hg, hv, cellsOf_one ho, List.length_singleton, List.all_cons, List.all_nil, ho]
 rw [if_pos ⟨trivial, by omega, rfl, by omega⟩, splice_set hn]
end
theorem rdI_arr {s : Store} {id : Nat} {l : List Nat} (h : s.get id = some (.cells (cellsI l))) : Rd s (.arr id 0 l.length 1) (cellsI l) := by
 have := Rd.arr h
 rwa [cellsI_length] at this
end Go.V
namespace Go.V
structure Nd where
 kind : Int
 dw : D
 dn : D
 dk : D
 pos : Int
 words : List ByteArray
 nums : List Int
 kids : List Int
 deriving Inhabited
def Nd.row (x : Nd) : List D := [.int .i64 x.kind, x.dw, x.dn, x.dk, .int .i64 x.pos]
structure Nd.Ok (x : Nd) : Prop where
 w : FS x.dw x.words
 n : FI x.dn x.nums
 k : FI x.dk x.kids
 ki : in64 x.kind
 wl : x.words.length <= maxLen
 nl : x.nums.length <= maxLen
 kl : x.kids.length <= maxLen
 ni : ∀ n ∈ x.nums, in64 n
 ii : ∀ n ∈ x.kids, in64 n
structure TreeAt (d : D) (t : List Nd) : Prop where
 fl : FL 5 d (t.map Nd.row)
 ok : ∀ x ∈ t, x.Ok
 le : t.length <= maxLen
theorem TreeAt.len {d : D} {t : List Nd} (h : TreeAt d t) : lenV false d = some (.int .i64 (t.length : Int)) := by rw [h.fl.len, List.length_map]
theorem TreeAt.idx {d : D} {t : List Nd} (h : TreeAt d t) {i : Nat} (hi : i < t.length) {k : IntKind} : idxAV 5 d (.int k (i : Int)) = some (.fp [.int .i64 t[i].kind, t[i].dw, t[i].dn, t[i].dk, .int .i64 t[i].pos] 0) := by
 rw [h.fl.idx (by simpa using hi)]; simp [Nd.row]
theorem TreeAt.get {d : D} {t : List Nd} (h : TreeAt d t) {i : Nat} (hi : i < t.length) : t[i].Ok := h.ok _ (List.getElem_mem hi)
def Ty.node : Ty := .struct [.int .i64, .slice 1 .str, .slice 1 (.int .i64), .slice 1 (.int .i64), .int .i64]
def Ty.tree : Ty := .slice 5 Ty.node
theorem strs_of {a : List D} (h : HasT (.slice 1 .str) a) : ∃ d l, a = [d] /\ FS d l /\ l.length <= maxLen := by
 simp only [HasT] at h
 rcases h with rfl | ⟨xs, rfl, hl, hx⟩
 ·exact ⟨.nils, [], rfl, .inl ⟨rfl, rfl⟩, by simp⟩
 ·obtain ⟨l, rfl, _⟩ := map_of (f := fun (b : ByteArray) => [D.str b]) (P := fun _ => True) (xs := xs) (fun x hm => by
   obtain ⟨b, hb, _⟩ := hx x hm
   exact ⟨b, hb, trivial⟩)
  exact ⟨_, l, rfl, .inr rfl, by simpa using hl⟩
theorem ints_of {a : List D} (h : HasT (.slice 1 (.int .i64)) a) : ∃ d l, a = [d] /\ FI d l /\ l.length <= maxLen /\ ∀ n ∈ l, in64 n := by
 simp only [HasT] at h
 rcases h with rfl | ⟨xs, rfl, hl, hx⟩
 ·exact ⟨.nils, [], rfl, .inl ⟨rfl, rfl⟩, by simp, by simp⟩
 ·obtain ⟨l, rfl, hi⟩ := map_of (f := fun (n : Int) => [D.int .i64 n]) (P := fun n => in64 n) (xs := xs) (fun x hm => by
   obtain ⟨n, hn, w⟩ := hx x hm
   exact ⟨n, hn, in64_of w⟩)
  exact ⟨_, l, rfl, .inr rfl, by simpa using hl, hi⟩
theorem node_of {a : List D} (h : HasT Ty.node a) : ∃ x : Nd, a = x.row /\ x.Ok := by
 simp only [Ty.node, HasT, HasTs] at h
 obtain ⟨a1, b1, rfl, ⟨n1, rfl, w1⟩, a2, b2, rfl, h2, a3, b3, rfl, h3, a4, b4, rfl, h4, a5, b5, rfl, ⟨n5, rfl, w5⟩, rfl⟩ := h
 obtain ⟨dw, lw, rfl, fw, lwl⟩ := strs_of (by simpa only [HasT] using h2)
 obtain ⟨dn, ln, rfl, fn, lnl, lni⟩ := ints_of (by simpa only [HasT] using h3)
 obtain ⟨dk, lk, rfl, fk, lkl, lki⟩ := ints_of (by simpa only [HasT] using h4)
 exact ⟨⟨n1, dw, dn, dk, n5, lw, ln, lk⟩, rfl, fw, fn, fk, in64_of w1, lwl, lnl, lkl, lni, lki⟩
theorem tree_of {d : D} (h : ArgT Ty.tree d) : ∃ t, TreeAt d t := by
 have h : HasT Ty.tree [d] := h
 rw [Ty.tree, HasT] at h
 rcases h with h | ⟨xs, h, hl, hx⟩
 ·simp at h
  subst h
  exact ⟨[], .inl ⟨rfl, rfl⟩, by simp, by simp⟩
 ·simp at h
  subst h
  obtain ⟨t, rfl, hi⟩ := map_of (f := Nd.row) (P := Nd.Ok) (xs := xs) fun x hm => node_of (hx x hm)
  exact ⟨t, .inr rfl, hi, by simpa using hl⟩
end Go.V
namespace Go.V
structure Ch where
 name : ByteArray
 room : Int
 width : Int
 lossy : Bool
 copying : Bool
 deriving Inhabited
structure Vr where
 name : ByteArray
 width : Int
 value : Int
 deriving Inhabited
structure Ed where
 frm : Nat
 to : Nat
 act : Nat
 expr : Int
 var : Int
 chan : Int
 keep : Bool
 node : Nat
 deriving Inhabited
structure Pr where
 name : ByteArray
 copy : Nat
 locals : List Nat
 places : Nat
 rest : List Bool
 edges : List Ed
 names : List ByteArray
 vars : List Nat
 deriving Inhabited
def Ch.row (c : Ch) : List D := [.str c.name, .int .i64 c.room, .int .i64 c.width, .bool c.lossy, .bool c.copying]
def Vr.row (v : Vr) : List D := [.str v.name, .int .i64 v.width, .int .i64 v.value]
def Ed.row (e : Ed) : List D := [.int .i64 (e.frm : Int), .int .i64 (e.to : Int), .int .i64 (e.act : Int), .int .i64 e.expr, .int .i64 e.var, .int .i64 e.chan, .bool e.keep, .int .i64 (e.node : Int)]
def Pr.put (p : Pr) (frm to act : Nat) (node : Nat) (expr v c : Int) : Pr := { p with edges := p.edges ++ [⟨frm, to, act, expr, v, c, false, node⟩] }
def Pr.place (p : Pr) : Pr := { p with places := p.places + 1, rest := p.rest ++ [false] }
def Pr.idle (p : Pr) (n : Nat) (is : Int) : Pr := if is = 1 then { p with rest := p.rest.set n true } else p
def findN (l : List ByteArray) (s : ByteArray) : Nat := if l.findIdx (fun x => decide (x = s)) < l.length then l.findIdx (fun x => decide (x = s)) else 0
def inB (l : List ByteArray) (s : ByteArray) : Bool := l.any fun x => decide (x = s)
theorem inB_iff {l : List ByteArray} {s : ByteArray} : inB l s = true ↔ s ∈ l := by
 unfold inB
 rw [List.any_eq_true]
 constructor
 ·rintro ⟨x, hx, h⟩
  rw [decide_eq_true_eq] at h
  exact h ▸ hx
 ·intro h
  exact ⟨s, h, by simp⟩
def nd (t : List Nd) (i : Nat) : Nd := t.getD i default
def Nd.kid (x : Nd) (i : Nat) : Nat := (x.kids.getD i 0).toNat
def Nd.ks (x : Nd) : List Nat := x.kids.map Int.toNat
def Nd.word (x : Nd) (i : Nat) : ByteArray := x.words.getD i default
def Nd.num (x : Nd) (i : Nat) : Int := x.nums.getD i 0
def sevF (st : Pr -> Nat -> Nat -> Nat -> Pr) (node : Nat) : Pr -> List Nat -> Nat -> Nat -> Pr
 | p, [], frm, to => p.put frm to 0 node (-1) (-1) (-1)
 | p, [k], frm, to => st p k frm to
 | p, k :: k' :: ks, frm, to => sevF st node (st p.place k frm p.places) (k' :: ks) p.places to
def blkF (t : List Nd) (st : Pr -> Nat -> Nat -> Nat -> Pr) (p : Pr) (b frm to : Nat) : Pr := sevF st b p (nd t b).ks frm to
def loops (t : List Nd) (b : Nat) : Bool := match (nd t b).ks with
 | [] => false
 | k :: _ => (nd t k).kind == 12
def chooseF (t : List Nd) (st : Pr -> Nat -> Nat -> Nat -> Pr) (frm to : Nat) : Pr -> List Nat -> Pr
 | p, [] => p
 | p, k :: ks => chooseF t st frm to (if loops t k then blkF t st (p.place.put frm p.places 0 k (-1) (-1) (-1)) k p.places to else blkF t st p k frm to) ks
def markK (n to : Nat) (l : List Ed) : List Ed := l.take n ++ (l.drop n).map fun e => { e with keep := e.to != to && e.to != 1 }
def statF (t : List Nd) (ch : List ByteArray) : Nat -> Pr -> Nat -> Nat -> Nat -> Pr
 | 0, p, _, _, _ => p
 | f + 1, p, at', frm, to =>
   let n := nd t at'
   let st := statF t ch f
   if n.kind = 6 then p.put frm to 1 at' (n.kid 0) (p.vars.getD (findN p.names (n.word 0)) 0 : Nat) (-1)
   else if n.kind = 7 then p.put frm to 2 at' (n.kid 0) (-1) (findN ch (n.word 0) : Nat)
   else if n.kind = 8 then (p.idle frm (n.num 0)).put frm to 3 at' (-1) (p.vars.getD (findN p.names (n.word 1)) 0 : Nat) (findN ch (n.word 0) : Nat)
   else if n.kind = 9 then (p.idle frm (n.num 0)).put frm to 4 at' (n.kid 0) (-1) (-1)
   else if n.kind = 10 then chooseF t st frm to (p.idle frm (n.num 0)) n.ks
   else if n.kind = 11 then
    let p1 := blkF t st (p.place.put frm p.places 4 at' (n.kid 0) (-1) (-1)) (n.kid 1) p.places to
    if n.kids.length = 2 then p1.put frm to 5 at' (n.kid 0) (-1) (-1)
    else blkF t st (p1.place.put frm p1.places 5 at' (n.kid 0) (-1) (-1)) (n.kid 2) p1.places to
   else if n.kind = 12 then blkF t st ((p.place.put frm p.places 4 at' (n.kid 0) (-1) (-1)).put frm to 5 at' (n.kid 0) (-1) (-1)) (n.kid 1) p.places frm
   else if n.kind = 13 then
    let p1 := blkF t st p (n.kid 0) frm to
    { p1 with edges := markK p.edges.length to p1.edges }
   else if n.kind = 15 then p.put frm 1 0 at' (-1) (-1) (-1)
   else p.put frm to 0 at' (-1) (-1) (-1)
end Go.V
namespace Go.V
def exprK (k : Int) : Prop := 17 <= k /\ k <= 22
def statK (k : Int) : Prop := 6 <= k /\ k <= 15
def wcount (k : Int) : Nat := if k = 8 then 2 else if k = 1 ∨ k = 2 ∨ k = 3 ∨ k = 6 ∨ k = 7 ∨ k = 18 ∨ k = 19 then 1 else 0
def ncount (k : Int) : Nat := if k = 1 then 4 else if k = 2 then 2 else if k = 3 ∨ k = 8 ∨ k = 9 ∨ k = 10 ∨ k = 17 ∨ k = 22 then 1 else 0
structure NodeOk (t : List Nd) (x : Nd) : Prop where
 kr : 0 <= x.kind /\ x.kind <= 22
 wl : x.words.length = wcount x.kind
 nl : x.nums.length = ncount x.kind
 prog : x.kind = 0 -> ∀ k ∈ x.ks, 1 <= (nd t k).kind /\ (nd t k).kind <= 5
 chan : x.kind = 1 -> 0 <= x.num 0 /\ 0 <= x.num 1 /\ 0 <= x.num 2 /\ x.num 2 <= 1 /\ 0 <= x.num 3 /\ x.num 3 <= 1
 var : x.kind = 2 -> -999999 <= x.num 1 /\ x.num 1 <= 999999
 proc : x.kind = 3 -> ∃ v, v <= x.ks.length /\ (∀ k ∈ x.ks.take v, (nd t k).kind = 2) /\ ∀ k ∈ x.ks.drop v, statK (nd t k).kind
 copies : x.kind = 3 -> 0 <= x.num 0 /\ x.num 0 <= 999999
 one : x.kind = 4 ∨ x.kind = 6 ∨ x.kind = 7 ∨ x.kind = 9 ∨ x.kind = 20 ∨ x.kind = 21 -> x.kids.length = 1 /\ exprK (nd t (x.kid 0)).kind
 none : x.kind = 1 ∨ x.kind = 2 ∨ x.kind = 5 ∨ x.kind = 8 ∨ x.kind = 14 ∨ x.kind = 15 ∨ x.kind = 17 ∨ x.kind = 18 ∨ x.kind = 19 -> x.kids = []
 choose : x.kind = 10 -> 1 <= x.kids.length /\ ∀ k ∈ x.ks, (nd t k).kind = 16
 cond : x.kind = 11 -> (x.kids.length = 2 ∨ x.kids.length = 3) /\ exprK (nd t (x.kid 0)).kind /\ (nd t (x.kid 1)).kind = 16 /\ (x.kids.length = 3 -> (nd t (x.kid 2)).kind = 16)
 loop : x.kind = 12 -> x.kids.length = 2 /\ exprK (nd t (x.kid 0)).kind /\ (nd t (x.kid 1)).kind = 16
 atom : x.kind = 13 -> x.kids.length = 1 /\ (nd t (x.kid 0)).kind = 16
 block : x.kind = 16 -> ∀ k ∈ x.ks, statK (nd t k).kind
 bin : x.kind = 22 -> x.kids.length = 2 /\ exprK (nd t (x.kid 0)).kind /\ exprK (nd t (x.kid 1)).kind /\ 0 <= x.num 0 /\ x.num 0 <= 8
 flag : x.kind = 8 ∨ x.kind = 9 ∨ x.kind = 10 -> 0 <= x.num 0 /\ x.num 0 <= 1
 lit : x.kind = 17 -> 0 <= x.num 0 /\ x.num 0 <= 999999
structure TreeOk (t : List Nd) : Prop where
 pos : 0 < t.length
 le : t.length <= 800
 root : (nd t 0).kind = 0
 kids : ∀ i, i < t.length -> ∀ k ∈ (nd t i).kids, (i : Int) < k /\ k < (t.length : Int)
 node : ∀ i, i < t.length -> NodeOk t (nd t i)
theorem nd_get {t : List Nd} {i : Nat} (h : i < t.length) : nd t i = t[i] := by simp [nd, List.getD, h]
theorem TreeOk.ks {t : List Nd} (h : TreeOk t) {i : Nat} (hi : i < t.length) : ∀ k ∈ (nd t i).ks, i < k /\ k < t.length := by
 intro k hk
 obtain ⟨z, hz, rfl⟩ := List.mem_map.1 hk
 have := h.kids i hi z hz
 omega
theorem kid_mem {x : Nd} {i : Nat} (h : i < x.kids.length) : x.kid i ∈ x.ks := by
 unfold Nd.kid Nd.ks
 simp only [List.getD, List.getElem?_eq_getElem h, Option.getD_some]
 exact List.mem_map_of_mem (List.getElem_mem h)
theorem ks_len (x : Nd) : x.ks.length = x.kids.length := by simp [Nd.ks]
structure EdOk (t : List Nd) (nch pl : Nat) (vars : List Nat) (e : Ed) : Prop where
 f : e.frm < pl
 to : e.to < pl
 act : e.act <= 5
 ex0 : e.act = 0 ∨ e.act = 3 -> e.expr = -1
 ex1 : e.act = 1 ∨ e.act = 2 ∨ e.act = 4 ∨ e.act = 5 -> ∃ n : Nat, e.expr = (n : Int) /\ n < t.length /\ exprK (nd t n).kind
 v1 : e.act = 1 ∨ e.act = 3 -> ∃ n ∈ vars, e.var = ((n : Nat) : Int)
 v0 : e.act = 0 ∨ e.act = 2 ∨ e.act = 4 ∨ e.act = 5 -> e.var = -1
 c1 : e.act = 2 ∨ e.act = 3 -> ∃ n : Nat, e.chan = (n : Int) /\ n < nch
 c0 : e.act = 0 ∨ e.act = 1 ∨ e.act = 4 ∨ e.act = 5 -> e.chan = -1
theorem EdOk.mono {t : List Nd} {nch pl pl' : Nat} {vars : List Nat} {e : Ed} (h : EdOk t nch pl vars e) (hp : pl <= pl') : EdOk t nch pl' vars e :=
 ⟨by have := h.f; omega, by have := h.to; omega, h.act, h.ex0, h.ex1, h.v1, h.v0, h.c1, h.c0⟩
structure PInv (t : List Nd) (nch : Nat) (p : Pr) : Prop where
 two : 2 <= p.places
 rest : p.rest.length = p.places
 ed : ∀ e ∈ p.edges, EdOk t nch p.places p.vars e
structure PGrow (p q : Pr) : Prop where
 name : q.name = p.name
 copy : q.copy = p.copy
 locals : q.locals = p.locals
 names : q.names = p.names
 vars : q.vars = p.vars
 places : p.places <= q.places
 edges : ∃ l, q.edges = p.edges ++ l
theorem PGrow.refl (p : Pr) : PGrow p p := ⟨rfl, rfl, rfl, rfl, rfl, Nat.le_refl _, [], by simp⟩
theorem PGrow.trans {p q r : Pr} (h : PGrow p q) (k : PGrow q r) : PGrow p r := by
 obtain ⟨l, hl⟩ := h.edges
 obtain ⟨m, hm⟩ := k.edges
 exact ⟨k.name.trans h.name, k.copy.trans h.copy, k.locals.trans h.locals, k.names.trans h.names, k.vars.trans h.vars, Nat.le_trans h.places k.places, l ++ m, by rw [hm, hl, List.append_assoc]⟩
theorem grow_put (p : Pr) (frm to act node : Nat) (expr v c : Int) : PGrow p (p.put frm to act node expr v c) := ⟨rfl, rfl, rfl, rfl, rfl, Nat.le_refl _, _, rfl⟩
theorem grow_place (p : Pr) : PGrow p p.place := ⟨rfl, rfl, rfl, rfl, rfl, Nat.le_succ _, [], by simp [Pr.place]⟩
theorem grow_idle (p : Pr) (n : Nat) (is : Int) : PGrow p (p.idle n is) := by
 unfold Pr.idle
 split
 ·exact ⟨rfl, rfl, rfl, rfl, rfl, Nat.le_refl _, [], by simp⟩
 ·exact PGrow.refl p
theorem idle_places (p : Pr) (n : Nat) (is : Int) : (p.idle n is).places = p.places /\ (p.idle n is).edges = p.edges /\ (p.idle n is).vars = p.vars /\ (p.idle n is).names = p.names := by
 unfold Pr.idle; split <;> exact ⟨rfl, rfl, rfl, rfl⟩
theorem inv_put {t : List Nd} {nch : Nat} {p : Pr} {frm to act node : Nat} {expr v c : Int} (h : PInv t nch p) (he : EdOk t nch p.places p.vars ⟨frm, to, act, expr, v, c, false, node⟩) : PInv t nch (p.put frm to act node expr v c) := by
 refine ⟨h.two, h.rest, fun e hm => ?_⟩
 rcases List.mem_append.1 hm with hm | hm
 ·exact h.ed e hm
 ·simp at hm; subst hm; exact he
theorem inv_place {t : List Nd} {nch : Nat} {p : Pr} (h : PInv t nch p) : PInv t nch p.place :=
 ⟨by have := h.two; simp [Pr.place]; omega, by simp [Pr.place, h.rest], fun e hm => (h.ed e hm).mono (Nat.le_succ _)⟩
theorem inv_idle {t : List Nd} {nch : Nat} {p : Pr} {n : Nat} {is : Int} (h : PInv t nch p) : PInv t nch (p.idle n is) := by
 unfold Pr.idle
 split
 ·exact ⟨h.two, by simp [h.rest], h.ed⟩
 ·exact h
theorem skip_ok {t : List Nd} {nch pl : Nat} {vars : List Nat} {frm to node : Nat} (hf : frm < pl) (ht : to < pl) : EdOk t nch pl vars ⟨frm, to, 0, -1, -1, -1, false, node⟩ :=
 ⟨hf, ht, by simp, by simp, by simp, by simp, by simp, by simp, by simp⟩
theorem when_ok {t : List Nd} {nch pl : Nat} {vars : List Nat} {frm to node n : Nat} {a : Nat} (ha : a = 4 ∨ a = 5) (hf : frm < pl) (ht : to < pl) (hn : n < t.length) (hk : exprK (nd t n).kind) : EdOk t nch pl vars ⟨frm, to, a, (n : Int), -1, -1, false, node⟩ := by
 refine ⟨hf, ht, ?_, ?_, fun _ => ⟨n, rfl, hn, hk⟩, ?_, fun _ => rfl, ?_, fun _ => rfl⟩ <;> simp <;> omega
def StOk (t : List Nd) (nch : Nat) (names : List ByteArray) (vars : List Nat) (st : Pr -> Nat -> Nat -> Nat -> Pr) (k : Nat) : Prop :=
 ∀ p frm to, PInv t nch p -> p.names = names -> p.vars = vars -> frm < p.places -> to < p.places -> PInv t nch (st p k frm to) /\ PGrow p (st p k frm to)
theorem sev_ok {t : List Nd} {nch : Nat} {names : List ByteArray} {vars : List Nat} {st : Pr -> Nat -> Nat -> Nat -> Pr} {node : Nat} : ∀ {ks : List Nat} {p : Pr} {frm to : Nat}, (∀ k ∈ ks, StOk t nch names vars st k) ->
 PInv t nch p -> p.names = names -> p.vars = vars -> frm < p.places -> to < p.places -> PInv t nch (sevF st node p ks frm to) /\ PGrow p (sevF st node p ks frm to)
 | [], p, frm, to, _, h, hn, hv, hf, ht => ⟨inv_put h (skip_ok hf ht), grow_put _ _ _ _ _ _ _ _⟩
 | [k], p, frm, to, hs, h, hn, hv, hf, ht => hs k (by simp) p frm to h hn hv hf ht
 | k :: k' :: ks, p, frm, to, hs, h, hn, hv, hf, ht => by
   have h1 := hs k (by simp) p.place frm p.places (inv_place h) hn hv (Nat.lt_succ_of_lt hf) (Nat.lt_succ_self _)
   have g1 := (grow_place p).trans h1.2
   have := h1.2.places
   have : p.place.places = p.places + 1 := rfl
   have h2 := sev_ok (node := node) (ks := k' :: ks) (p := st p.place k frm p.places) (frm := p.places) (to := to) (fun x hx => hs x (by simp only [List.mem_cons] at hx ⊢; right; exact hx)) h1.1 (g1.names.trans hn) (g1.vars.trans hv) (by omega) (by omega)
   exact ⟨h2.1, g1.trans h2.2⟩
theorem choose_ok {t : List Nd} {nch : Nat} {names : List ByteArray} {vars : List Nat} {st : Pr -> Nat -> Nat -> Nat -> Pr} {frm to : Nat} : ∀ {ks : List Nat} {p : Pr}, (∀ b ∈ ks, ∀ k ∈ (nd t b).ks, StOk t nch names vars st k) ->
 PInv t nch p -> p.names = names -> p.vars = vars -> frm < p.places -> to < p.places -> PInv t nch (chooseF t st frm to p ks) /\ PGrow p (chooseF t st frm to p ks)
 | [], p, _, h, _, _, _, _ => ⟨h, PGrow.refl p⟩
 | k :: ks, p, hs, h, hn, hv, hf, ht => by
   have key : ∀ q, PInv t nch q -> PGrow p q -> PInv t nch (chooseF t st frm to q ks) /\ PGrow p (chooseF t st frm to q ks) := fun q hq gq => by
    have := gq.places
    have := choose_ok (ks := ks) (p := q) (frm := frm) (to := to) (fun b hb => hs b (by simp [hb])) hq (gq.names.trans hn) (gq.vars.trans hv) (by omega) (by omega)
    exact ⟨this.1, gq.trans this.2⟩
   have hk := hs k (by simp)
   unfold chooseF
   split
   ·have h1 := inv_put (node := k) (inv_place h) (skip_ok (frm := frm) (to := p.places) (Nat.lt_succ_of_lt hf) (Nat.lt_succ_self _))
    have g1 := (grow_place p).trans (grow_put p.place frm p.places 0 k (-1) (-1) (-1))
    have := sev_ok (node := k) (frm := p.places) (to := to) hk h1 hn hv (Nat.lt_succ_self _) (Nat.lt_succ_of_lt ht)
    exact key _ this.1 (g1.trans this.2)
   ·have := sev_ok (node := k) (frm := frm) (to := to) hk h hn hv hf ht
    exact key _ this.1 this.2
theorem blk_ok {t : List Nd} {nch : Nat} {names : List ByteArray} {vars : List Nat} {st : Pr -> Nat -> Nat -> Nat -> Pr} {b : Nat} {p : Pr} {frm to : Nat} (hs : ∀ k ∈ (nd t b).ks, StOk t nch names vars st k)
 (h : PInv t nch p) (hn : p.names = names) (hv : p.vars = vars) (hf : frm < p.places) (ht : to < p.places) : PInv t nch (blkF t st p b frm to) /\ PGrow p (blkF t st p b frm to) := sev_ok hs h hn hv hf ht
structure Sight (t : List Nd) (nch : Nat) (ch names : List ByteArray) (vars : List Nat) (k : Nat) : Prop where
 same : names.length = vars.length
 chs : ch.length = nch
 v : (nd t k).kind = 6 ∨ (nd t k).kind = 8 -> 0 < names.length
 c : (nd t k).kind = 7 ∨ (nd t k).kind = 8 -> 0 < ch.length
theorem findN_lt {l : List ByteArray} {s : ByteArray} (h : 0 < l.length) : findN l s < l.length := by
 unfold findN; split <;> assumption
theorem getD_mem {l : List Nat} {i : Nat} (h : i < l.length) : l.getD i 0 ∈ l := by simp [List.getD, h]
theorem mark_mem {n to : Nat} {l : List Ed} {e : Ed} (h : e ∈ markK n to l) : ∃ e' ∈ l, ∃ b, e = { e' with keep := b } := by
 rcases List.mem_append.1 h with h | h
 ·exact ⟨e, List.mem_of_mem_take h, e.keep, rfl⟩
 ·obtain ⟨e', h', rfl⟩ := List.mem_map.1 h
  exact ⟨e', List.mem_of_mem_drop h', _, rfl⟩
theorem stat_ok {t : List Nd} (ht : TreeOk t) {nch : Nat} {ch names : List ByteArray} {vars : List Nat} {P : Nat -> Prop} (hc : ∀ j, j < t.length -> P j -> ∀ k ∈ (nd t j).ks, P k) (hs : ∀ k, P k -> Sight t nch ch names vars k) : ∀ (f k : Nat), k < t.length -> P k -> statK (nd t k).kind -> t.length - k < f -> StOk t nch names vars (statF t ch f) k
 | 0, k, _, _, _, hf => by omega
 | f + 1, k, hk, hP, hst, hf => by
   intro p frm to h hn hv hfr hto
   have hno := ht.node k hk
   have hks := ht.ks hk
   have hS := hs k hP
   have bl : ∀ b ∈ (nd t k).ks, (nd t b).kind = 16 -> ∀ x ∈ (nd t b).ks, StOk t nch names vars (statF t ch f) x := fun b hb hb16 x hx => by
    have h1 := hks b hb
    have h2 := ht.ks h1.2 x hx
    exact stat_ok ht hc hs f x h2.2 (hc b h1.2 (hc k hk hP b hb) x hx) ((ht.node b h1.2).block hb16 x hx) (by omega)
   have hvar : 0 < names.length -> ∀ s, ∃ n ∈ p.vars, ((p.vars.getD (findN p.names s) 0 : Nat) : Int) = ((n : Nat) : Int) := fun hp s => by
    refine ⟨_, getD_mem ?_, rfl⟩
    rw [hv, hn, <- hS.same]
    exact findN_lt hp
   have hch : 0 < ch.length -> ∀ s, ∃ n : Nat, ((findN ch s : Nat) : Int) = (n : Int) /\ n < nch := fun hp s => ⟨_, rfl, by rw [<- hS.chs]; exact findN_lt hp⟩
   have hex : 1 <= (nd t k).kids.length -> exprK (nd t ((nd t k).kid 0)).kind -> ∃ n : Nat, (((nd t k).kid 0 : Nat) : Int) = (n : Int) /\ n < t.length /\ exprK (nd t n).kind := fun h1 h2 => ⟨_, rfl, (hks _ (kid_mem h1)).2, h2⟩
   have ip := idle_places p frm ((nd t k).num 0)
   have gi := grow_idle p frm ((nd t k).num 0)
   have ii := inv_idle (n := frm) (is := (nd t k).num 0) h
   unfold statF
   simp only
   have hp2 := h.two
   by_cases c6 : (nd t k).kind = 6
   ·rw [if_pos c6]
    have h1 := hno.one (by omega)
    refine ⟨inv_put h ⟨hfr, hto, by simp, by simp, fun _ => hex (by omega) h1.2, fun _ => hvar (hS.v (by omega)) _, by simp, by simp, fun _ => rfl⟩, grow_put _ _ _ _ _ _ _ _⟩
   rw [if_neg c6]
   by_cases c7 : (nd t k).kind = 7
   ·rw [if_pos c7]
    have h1 := hno.one (by omega)
    refine ⟨inv_put h ⟨hfr, hto, by simp, by simp, fun _ => hex (by omega) h1.2, by simp, fun _ => rfl, fun _ => hch (hS.c (by omega)) _, by simp⟩, grow_put _ _ _ _ _ _ _ _⟩
   rw [if_neg c7]
   by_cases c8 : (nd t k).kind = 8
   ·rw [if_pos c8]
    refine ⟨inv_put ii ⟨by rw [ip.1]; exact hfr, by rw [ip.1]; exact hto, by simp, fun _ => rfl, by simp, fun _ => by rw [ip.2.2.1]; exact hvar (hS.v (by omega)) _, by simp, fun _ => hch (hS.c (by omega)) _, by simp⟩, gi.trans (grow_put _ _ _ _ _ _ _ _)⟩
   rw [if_neg c8]
   by_cases c9 : (nd t k).kind = 9
   ·rw [if_pos c9]
    have h1 := hno.one (by omega)
    exact ⟨inv_put ii (when_ok (.inl rfl) (by rw [ip.1]; exact hfr) (by rw [ip.1]; exact hto) (hks _ (kid_mem (by omega))).2 h1.2), gi.trans (grow_put _ _ _ _ _ _ _ _)⟩
   rw [if_neg c9]
   by_cases c10 : (nd t k).kind = 10
   ·rw [if_pos c10]
    have h1 := hno.choose c10
    have := choose_ok (frm := frm) (to := to) (fun b hb => bl b hb (h1.2 b hb)) ii (ip.2.2.2.trans hn) (ip.2.2.1.trans hv) (by rw [ip.1]; exact hfr) (by rw [ip.1]; exact hto)
    exact ⟨this.1, gi.trans this.2⟩
   rw [if_neg c10]
   by_cases c11 : (nd t k).kind = 11
   ·rw [if_pos c11]
    obtain ⟨l1, l2, l3, l4⟩ := hno.cond c11
    have k0 := (hks _ (kid_mem (i := 0) (by omega))).2
    have m1 := kid_mem (x := nd t k) (i := 1) (by omega)
    have i1 := inv_put (node := k) (inv_place h) (when_ok (.inl rfl) (frm := frm) (to := p.places) (Nat.lt_succ_of_lt hfr) (Nat.lt_succ_self _) k0 l2)
    have g1 := (grow_place p).trans (grow_put p.place frm p.places 4 k ((nd t k).kid 0 : Nat) (-1) (-1))
    have s1 := blk_ok (b := (nd t k).kid 1) (frm := p.places) (to := to) (bl _ m1 l3) i1 hn hv (Nat.lt_succ_self _) (Nat.lt_succ_of_lt hto)
    generalize blkF t (statF t ch f) (p.place.put frm p.places 4 k ((nd t k).kid 0 : Nat) (-1) (-1)) ((nd t k).kid 1) p.places to = q at *
    have g2 := g1.trans s1.2
    have := g2.places
    split
    ·exact ⟨inv_put s1.1 (when_ok (.inr rfl) (by omega) (by omega) k0 l2), g2.trans (grow_put _ _ _ _ _ _ _ _)⟩
    ·have l3' : (nd t k).kids.length = 3 := by omega
     have m2 := kid_mem (x := nd t k) (i := 2) (by omega)
     have hpl : q.place.places = q.places + 1 := rfl
     have i2 := inv_put (node := k) (inv_place s1.1) (when_ok (.inr rfl) (frm := frm) (to := q.places) (by omega) (Nat.lt_succ_self _) k0 l2)
     have g3 := (g2.trans (grow_place _)).trans (grow_put _ frm q.places 5 k ((nd t k).kid 0 : Nat) (-1) (-1))
     have s2 := blk_ok (b := (nd t k).kid 2) (frm := q.places) (to := to) (bl _ m2 (l4 l3')) i2 (g3.names.trans hn) (g3.vars.trans hv) (Nat.lt_succ_self _) (by show to < q.places + 1; omega)
     exact ⟨s2.1, g3.trans s2.2⟩
   rw [if_neg c11]
   by_cases c12 : (nd t k).kind = 12
   ·rw [if_pos c12]
    obtain ⟨l1, l2, l3⟩ := hno.loop c12
    have k0 := (hks _ (kid_mem (i := 0) (by omega))).2
    have m1 := kid_mem (x := nd t k) (i := 1) (by omega)
    have i1 := inv_put (node := k) (inv_place h) (when_ok (.inl rfl) (frm := frm) (to := p.places) (Nat.lt_succ_of_lt hfr) (Nat.lt_succ_self _) k0 l2)
    have i2 := inv_put (node := k) i1 (when_ok (.inr rfl) (frm := frm) (to := to) (Nat.lt_succ_of_lt hfr) (Nat.lt_succ_of_lt hto) k0 l2)
    have g1 := ((grow_place p).trans (grow_put p.place frm p.places 4 k ((nd t k).kid 0 : Nat) (-1) (-1))).trans (grow_put _ frm to 5 k ((nd t k).kid 0 : Nat) (-1) (-1))
    have s1 := sev_ok (node := (nd t k).kid 1) (frm := p.places) (to := frm) (bl _ m1 l3) i2 hn hv (Nat.lt_succ_self _) (Nat.lt_succ_of_lt hfr)
    exact ⟨s1.1, g1.trans s1.2⟩
   rw [if_neg c12]
   by_cases c13 : (nd t k).kind = 13
   ·rw [if_pos c13]
    obtain ⟨l1, l2⟩ := hno.atom c13
    have m0 := kid_mem (x := nd t k) (i := 0) (by omega)
    have s1 := sev_ok (node := (nd t k).kid 0) (frm := frm) (to := to) (bl _ m0 l2) h hn hv hfr hto
    obtain ⟨l, hl⟩ := s1.2.edges
    refine ⟨⟨s1.1.two, s1.1.rest, fun e he => ?_⟩, ⟨s1.2.name, s1.2.copy, s1.2.locals, s1.2.names, s1.2.vars, s1.2.places, l.map fun e => { e with keep := e.to != to && e.to != 1 }, ?_⟩⟩
    ·obtain ⟨e', h', b, rfl⟩ := mark_mem he
     have := s1.1.ed e' h'
     exact ⟨this.f, this.to, this.act, this.ex0, this.ex1, this.v1, this.v0, this.c1, this.c0⟩
    ·show markK _ _ (blkF t (statF t ch f) p ((nd t k).kid 0) frm to).edges = p.edges ++ l.map fun e => { e with keep := e.to != to && e.to != 1 }
     unfold markK blkF
     rw [hl, List.take_left, List.drop_left]
   rw [if_neg c13]
   by_cases c15 : (nd t k).kind = 15
   ·rw [if_pos c15]
    exact ⟨inv_put h (skip_ok hfr (by omega)), grow_put _ _ _ _ _ _ _ _⟩
   rw [if_neg c15]
   exact ⟨inv_put h (skip_ok hfr hto), grow_put _ _ _ _ _ _ _ _⟩
end Go.V
namespace Go.V
def kidsF (w : Nat -> Nat × Bool) (len : Nat) : List Int -> Nat -> Nat × Bool
 | [], next => (next, true)
 | k :: ks, next => if k ≠ (next : Int) ∨ len <= next then (next, false) else if (w next).2 then kidsF w len ks (w next).1 else ((w next).1, false)
def walkF (t : List Nd) : Nat -> Nat -> Nat × Bool
 | 0, i => (i, false)
 | f + 1, i => kidsF (walkF t f) t.length (nd t i).kids (i + 1)
structure Sub (t : List Nd) (i n : Nat) : Prop where
 lt : i < n
 le : n <= t.length
 down : ∀ j, i <= j -> j < n -> ∀ k ∈ (nd t j).kids, (j : Int) < k /\ k < (n : Int)
 up : ∀ j, i < j -> j < n -> ∃ p, i <= p /\ p < n /\ (j : Int) ∈ (nd t p).kids
def Subs (t : List Nd) : List Int -> Nat -> Nat -> Prop
 | [], a, n => a = n
 | k :: ks, a, n => k = (a : Int) /\ ∃ b, Sub t a b /\ Subs t ks b n
theorem Subs.le {t : List Nd} : ∀ {ks : List Int} {a n : Nat}, Subs t ks a n -> a <= n
 | [], a, n, h => Nat.le_of_eq h
 | k :: ks, a, n, h => by
   obtain ⟨_, b, h1, h2⟩ := h
   have := h1.lt
   have := h2.le
   omega
theorem Subs.down {t : List Nd} : ∀ {ks : List Int} {a n : Nat}, Subs t ks a n -> ∀ j, a <= j -> j < n -> ∀ k ∈ (nd t j).kids, (j : Int) < k /\ k < (n : Int)
 | [], a, n, h, j, h1, h2 => by simp only [Subs] at h; omega
 | k :: ks, a, n, h, j, h1, h2 => by
   obtain ⟨_, b, h3, h4⟩ := h
   have := h4.le
   by_cases hj : j < b
   ·intro x hx
    have := h3.down j h1 hj x hx
    omega
   ·exact h4.down j (by omega) h2
theorem Subs.up {t : List Nd} : ∀ {ks : List Int} {a n : Nat}, Subs t ks a n -> ∀ j, a <= j -> j < n -> (j : Int) ∈ ks ∨ ∃ p, a <= p /\ p < n /\ (j : Int) ∈ (nd t p).kids
 | [], a, n, h, j, h1, h2 => by simp only [Subs] at h; omega
 | k :: ks, a, n, h, j, h1, h2 => by
   obtain ⟨rfl, b, h3, h4⟩ := h
   have := h4.le
   have := h3.lt
   by_cases hj : j < b
   ·by_cases ha : j = a
    ·subst ha; exact .inl (by simp)
    ·obtain ⟨p, p1, p2, p3⟩ := h3.up j (by omega) hj
     exact .inr ⟨p, p1, by omega, p3⟩
   ·rcases h4.up j (by omega) h2 with h | ⟨p, p1, p2, p3⟩
    ·exact .inl (by simp [h])
    ·exact .inr ⟨p, by omega, p2, p3⟩
theorem Subs.mem {t : List Nd} : ∀ {ks : List Int} {a n : Nat}, Subs t ks a n -> ∀ k ∈ ks, (a : Int) <= k /\ k < (n : Int)
 | [], a, n, h => by simp
 | k :: ks, a, n, h => by
   obtain ⟨rfl, b, h3, h4⟩ := h
   have := h4.le
   have := h3.lt
   intro x hx
   rcases List.mem_cons.1 hx with rfl | hx
   ·omega
   ·have := h4.mem x hx
    omega
theorem sub_of {t : List Nd} {i n : Nat} (h : Subs t (nd t i).kids (i + 1) n) (hn : n <= t.length) : Sub t i n := by
 have hl := h.le
 refine ⟨by omega, hn, fun j h1 h2 => ?_, fun j h1 h2 => ?_⟩
 ·by_cases hj : j = i
  ·subst hj
   intro k hk
   have := h.mem k hk
   omega
  ·exact h.down j (by omega) h2
 ·rcases h.up j (by omega) h2 with h | ⟨p, p1, p2, p3⟩
  ·exact ⟨i, by omega, by omega, h⟩
  ·exact ⟨p, by omega, p2, p3⟩
theorem kids_ok {t : List Nd} {w : Nat -> Nat × Bool} (hw : ∀ i n, i < t.length -> w i = (n, true) -> Sub t i n) : ∀ {ks : List Int} {next n : Nat}, next <= t.length -> kidsF w t.length ks next = (n, true) -> Subs t ks next n /\ n <= t.length
 | [], next, n, hl, h => by
   simp only [kidsF, Prod.mk.injEq, and_true] at h
   subst h
   exact ⟨rfl, hl⟩
 | k :: ks, next, n, hl, h => by
   unfold kidsF at h
   split at h
   ·simp at h
   ·rename_i hc
    split at h
    ·rename_i ht
     have hk : k = (next : Int) /\ next < t.length := by omega
     have a := hw next (w next).1 hk.2 (by rw [<- ht])
     obtain ⟨b1, b2⟩ := kids_ok hw a.le h
     exact ⟨⟨hk.1, _, a, b1⟩, b2⟩
    ·simp at h
theorem walk_ok {t : List Nd} : ∀ (f : Nat) {i n : Nat}, i < t.length -> walkF t f i = (n, true) -> Sub t i n /\ Subs t (nd t i).kids (i + 1) n
 | 0, i, n, _, h => by simp [walkF] at h
 | f + 1, i, n, hi, h => by
   obtain ⟨a1, a2⟩ := kids_ok (fun i n hi h => (walk_ok f hi h).1) (by omega) h
   exact ⟨sub_of a1 a2, a1⟩
theorem kids_le {t : List Nd} {w : Nat -> Nat × Bool} (hw : ∀ i, i < t.length -> (w i).1 <= t.length) : ∀ {ks : List Int} {next : Nat}, next <= t.length -> (kidsF w t.length ks next).1 <= t.length
 | [], next, h => h
 | k :: ks, next, h => by
   unfold kidsF
   split
   ·exact h
   ·rename_i hc
    split
    ·exact kids_le hw (hw next (by omega))
    ·exact hw next (by omega)
theorem walk_le {t : List Nd} : ∀ (f : Nat) {i : Nat}, i < t.length -> (walkF t f i).1 <= t.length
 | 0, i, h => Nat.le_of_lt h
 | f + 1, i, h => kids_le (fun i hi => walk_le f hi) (by omega)
end Go.V
namespace Go.V
structure RightT (t : List Nd) : Prop where
 ok : TreeOk t
 subs : Subs t (nd t 0).kids 1 t.length
 walk : walkF t 20 0 = (t.length, true)
def itemF : List Int -> Nat -> Nat -> Nat
 | [], _, out => out
 | k :: ks, i, out => itemF ks i (if k <= (i : Int) then k.toNat else out)
def item (t : List Nd) (i : Nat) : Nat := itemF (nd t 0).kids i 0
theorem itemF_late {ks : List Int} {i out : Nat} (h : ∀ k ∈ ks, (i : Int) < k) : itemF ks i out = out := by
 induction ks generalizing out with
 | nil => rfl
 | cons k ks ih =>
   have := h k (by simp)
   unfold itemF
   rw [if_neg (by omega)]
   exact ih fun x hx => h x (by simp [hx])
theorem itemF_in {t : List Nd} : ∀ {ks : List Int} {a n i out : Nat}, Subs t ks a n -> a <= i -> i < n -> ∃ b, (itemF ks i out : Int) ∈ ks /\ Sub t (itemF ks i out) b /\ itemF ks i out <= i /\ i < b
 | [], a, n, i, out, h, h1, h2 => by simp only [Subs] at h; omega
 | k :: ks, a, n, i, out, h, h1, h2 => by
   obtain ⟨rfl, b, h3, h4⟩ := h
   unfold itemF
   rw [if_pos (by omega)]
   by_cases hb : i < b
   ·rw [itemF_late fun x hx => by have := h4.mem x hx; omega]
    exact ⟨b, by simp, by simpa using h3, by simpa using h1, hb⟩
   ·obtain ⟨c, c1, c2, c3, c4⟩ := itemF_in (out := (a : Int).toNat) h4 (by omega) h2
    exact ⟨c, List.mem_cons_of_mem _ c1, c2, c3, c4⟩
theorem item_in {t : List Nd} (h : RightT t) {i : Nat} (h1 : 1 <= i) (h2 : i < t.length) : ∃ b, (item t i : Int) ∈ (nd t 0).kids /\ Sub t (item t i) b /\ item t i <= i /\ i < b := itemF_in h.subs h1 h2
theorem item_self {t : List Nd} (h : RightT t) {x : Nat} (hx : (x : Int) ∈ (nd t 0).kids) : item t x = x := by
 have hm := h.subs.mem _ hx
 have key : ∀ {ks : List Int} {a n out : Nat}, Subs t ks a n -> (x : Int) ∈ ks -> itemF ks x out = x := by
  intro ks
  induction ks with
  | nil => intro a n out _ hx; simp at hx
  | cons k ks ih =>
    intro a n out hs hx
    obtain ⟨rfl, b, h3, h4⟩ := hs
    unfold itemF
    rcases List.mem_cons.1 hx with hx | hx
    ·rw [if_pos (by omega), itemF_late fun y hy => by have := h4.mem y hy; have := h3.lt; omega]
     omega
    ·exact ih h4 hx
 exact key h.subs hx
theorem item_below {t : List Nd} (h : RightT t) {x i : Nat} (hx : (x : Int) ∈ (nd t 0).kids) : ∃ b, Sub t x b /\ b <= t.length /\ ∀ i, x <= i -> i < b -> item t i = x := by
 have key : ∀ {ks : List Int} {a n : Nat}, Subs t ks a n -> (x : Int) ∈ ks -> ∃ b, Sub t x b /\ b <= n /\ ∀ i out, x <= i -> i < b -> itemF ks i out = x := by
  intro ks
  induction ks with
  | nil => intro a n _ hx; simp at hx
  | cons k ks ih =>
    intro a n hs hx
    obtain ⟨rfl, b, h3, h4⟩ := hs
    have hl := h4.le
    rcases List.mem_cons.1 hx with hx | hx
    ·obtain rfl : x = a := by omega
     refine ⟨b, h3, hl, fun i out h1 h2 => ?_⟩
     unfold itemF
     rw [if_pos (by omega), itemF_late fun y hy => by have := h4.mem y hy; omega]
     omega
    ·obtain ⟨c, c1, c2, c3⟩ := ih h4 hx
     exact ⟨c, c1, c2, fun i out h1 h2 => c3 i _ h1 h2⟩
 obtain ⟨b, b1, b2, b3⟩ := key h.subs hx
 exact ⟨b, b1, b2, fun i h1 h2 => b3 i 0 h1 h2⟩
def Seen (t : List Nd) (kind : Int) (at' : Nat) (s : ByteArray) : Prop := ∃ i, i < at' /\ (nd t i).kind = kind /\ (item t i = i ∨ item t i = item t at') /\ (nd t i).word 0 = s
def namesF (t : List Nd) (at' : Nat) (kind : Int) : Nat -> List ByteArray
 | 0 => []
 | i + 1 => if (nd t i).kind = kind /\ (item t i = i ∨ item t i = item t at') /\ inB (namesF t at' kind i) ((nd t i).word 0) = false then namesF t at' kind i ++ [(nd t i).word 0] else namesF t at' kind i
theorem mem_names {t : List Nd} {at' : Nat} {kind : Int} {s : ByteArray} : ∀ {n : Nat}, s ∈ namesF t at' kind n ↔ ∃ i, i < n /\ (nd t i).kind = kind /\ (item t i = i ∨ item t i = item t at') /\ (nd t i).word 0 = s
 | 0 => by simp [namesF]
 | n + 1 => by
   have ih := mem_names (t := t) (at' := at') (kind := kind) (s := s) (n := n)
   rw [namesF]
   split
   ·rename_i hc
    rw [List.mem_append, ih]
    constructor
    ·rintro (⟨i, h1, h2⟩ | h)
     ·exact ⟨i, by omega, h2⟩
     ·simp at h
      exact ⟨n, by omega, hc.1, hc.2.1, h.symm⟩
    ·rintro ⟨i, h1, h2, h3, h4⟩
     by_cases hi : i = n
     ·subst hi; right; simp [h4]
     ·exact .inl ⟨i, by omega, h2, h3, h4⟩
   ·rename_i hc
    rw [ih]
    constructor
    ·rintro ⟨i, h1, h2⟩
     exact ⟨i, by omega, h2⟩
    ·rintro ⟨i, h1, h2, h3, h4⟩
     by_cases hi : i = n
     ·subst hi
      have : (nd t i).word 0 ∈ namesF t at' kind i := by
       rw [<- inB_iff]
       cases h : inB (namesF t at' kind i) ((nd t i).word 0)
       ·exact (hc ⟨h2, h3, h⟩).elim
       ·rfl
      rw [h4] at this
      obtain ⟨j, j1, j2⟩ := ih.1 this
      exact ⟨j, j1, j2⟩
     ·exact ⟨i, by omega, h2, h3, h4⟩
structure Scoped (t : List Nd) : Prop where
 use : ∀ i, i < t.length -> (nd t i).kind = 6 ∨ (nd t i).kind = 18 -> Seen t 2 i ((nd t i).word 0)
 chan : ∀ i, i < t.length -> (nd t i).kind = 7 ∨ (nd t i).kind = 19 ∨ (nd t i).kind = 8 -> Seen t 1 i ((nd t i).word 0)
 recv : ∀ i, i < t.length -> (nd t i).kind = 8 -> Seen t 2 i ((nd t i).word 1)
 once : ∀ i, i < t.length -> (nd t i).kind = 1 ∨ (nd t i).kind = 2 ∨ (nd t i).kind = 3 -> ¬ Seen t 1 i ((nd t i).word 0) /\ ¬ Seen t 2 i ((nd t i).word 0) /\ ¬ Seen t 3 i ((nd t i).word 0)
end Go.V
namespace Go.Proofs.Ytlaeblilmppodaa
open Go.V
set_option maxRecDepth 100000
set_option maxHeartbeats 4000000
theorem succ63 {i n : Nat} (h : i < n) (hn : n <= maxLen) : IntKind.i64.wrap ((i : Int) + 1) = ((i + 1 : Nat) : Int) := by
 have : maxLen = 9223372036854775807 := rfl
 rw [i64_id (by omega) (by omega)]; omega
def Iso (f : Nat) (l : List D) (r : D) : Prop := ∃ s1, Ev vfs f l Store.empty r s1
def IsoB (f : Nat) (l : List D) (P : Bool -> Prop) : Prop := ∃ b, Iso f l (.bool b) /\ P b
theorem isoB_of {f : Nat} {l : List D} {P : Bool -> Prop} (h : EvP vfs f l Store.empty fun d _ => ∃ b, d = .bool b /\ P b) : IsoB f l P := by
 obtain ⟨d, s', h, b, rfl, hp⟩ := h
 exact ⟨b, ⟨s', h⟩, hp⟩
theorem iso_of {f : Nat} {l : List D} {r : D} (h : EvP vfs f l Store.empty fun d _ => d = r) : Iso f l r := by
 obtain ⟨d, s', h, rfl⟩ := h
 exact ⟨s', h⟩
theorem vq_isoI {pairs i t f args rest s Q} {env : Env} {l : List D} {r : D} (hr : Iso f l r) (hs : scal1 r = true) (hl : env.evL args = l) (ha : mapO (V.ice s.get 20) l = some l)
 (h : WQ vfs pairs rest ((t, r) :: env) s Q) : WQ vfs pairs ((i, ⟨some t, .m (.call .iso (.cst (.fn f [])) args), none⟩) :: rest) env s Q := by
 obtain ⟨s1, hr⟩ := hr
 exact vq_isoL hr hs hl ha h
theorem letter_ok {n : Int} : IsoB 72 [.int .u8 n] fun _ => True := by
 refine isoB_of ?_
 by_cases c1 : 65 <= n <;> by_cases c2 : n <= 90 <;> by_cases c3 : 97 <= n <;> by_cases c4 : n <= 122
 all_goals
  refine evp_of (vf := vf72) rfl ?_
  unfold vf72; refine zE ?_
  try refine zW (aN c1 (aN c2 (aN c3 c4))) ?_
  exact ⟨.inr trivial, _, rR, _, rfl, trivial⟩
theorem digit_ok {n : Int} : IsoB 74 [.int .u8 n] fun _ => True := by
 refine isoB_of ?_
 by_cases c1 : 48 <= n <;> by_cases c2 : n <= 57
 all_goals
  refine evp_of (vf := vf74) rfl ?_
  unfold vf74; refine zE ?_
  try refine zW (aN c1 c2) ?_
  exact ⟨.inr trivial, _, rR, _, rfl, trivial⟩
theorem word_ok {n : Int} : IsoB 73 [.int .u8 n] fun _ => True := by
 refine isoB_of ?_
 obtain ⟨b1, h1, _⟩ := letter_ok (n := n)
 obtain ⟨b2, h2, _⟩ := digit_ok (n := n)
 cases b1 <;> cases b2 <;> by_cases c1 : (n == 95) = true
 all_goals
  refine evp_of (vf := vf73) rfl ?_
  unfold vf73; refine zE ?_
  repeat first
  |(apply vq_isoI h1 rfl rfl rfl)
  |(apply vq_isoI h2 rfl rfl rfl)
  |refine zW c1 ?_
  exact ⟨.inr trivial, _, rR, _, rfl, trivial⟩
theorem rd_cells {s : Store} {id n : Nat} {cs : List D} (h : s.get id = some (.cells cs)) (hn : cs.length = n) : Rd s (.arr id 0 n 1) cs := by subst hn; exact Rd.arr h
theorem key_ok {x : ByteArray} : IsoB 113 [.str x] fun _ => True := by
 refine isoB_of ?_
 refine evp_of (vf := vf113) rfl ?_
 unfold vf113; refine zE ?_
 try refine zW0 ?_
 refine vw_loop_inv (Q := Out' 0 _) (fun n env s => ∃ (i : Nat) (cs : List D), i <= 21 /\ n = 21 - i /\ s.get 0 = some (.cells cs) /\ cs.length = 21 /\ (∀ c ∈ cs, ∃ y, c = .str y) /\ (env.get 0 = .str x /\ env.get 3 = .arr 0 0 21 1 /\ env.get 4 = .int .i64 (i : Int))) ?_ 21 _ _
  ⟨0, _, by omega, rfl, get_push_new rfl, rfl, by simp, by simp [Env.get, Made.at]; rfl⟩
 rintro n env s ⟨i, cs, hi, rfl, hg, hl, hc, hE⟩
 have l21 : ((21 : Nat) : Int) = 21 := rfl
 by_cases h : i < 21
 ·have c1 : ((i : Int) < 21) = True := eq_true (by omega)
  have hs : IntKind.i64.wrap ((i : Int) + 1) = ((i + 1 : Nat) : Int) := by rw [i64_id (by omega) (by omega)]; omega
  have ho : cs.all oneCell = true := by
   rw [List.all_eq_true]
   intro c hm
   obtain ⟨y, rfl⟩ := hc c hm
   rfl
  obtain ⟨p, p1, p2⟩ := (rd_cells hg hl).idx ho (i := i) (by omega) (k := .i64) rfl
  obtain ⟨y, hy⟩ := hc cs[i] (List.getElem_mem _)
  rw [hy] at p2
  by_cases c2 : y = x
  ·try refine zW (aN hE (aN l21 (aN c1 (aN p1 (aN p2 c2))))) ?_
   exact ⟨.inr trivial, _, rR, _, rfl, trivial⟩
  ·try refine zW (aN hE (aN l21 (aN c1 (aN p1 (aN p2 (aN c2 hs)))))) ?_
   exact ⟨21 - (i + 1), by omega, i + 1, cs, by omega, rfl, hg, hl, hc, (rG hE)⟩
 ·have c1 : ((i : Int) < 21) = False := eq_false (by omega)
  try refine zW (aN hE (aN l21 c1)) ?_
  exact ⟨.inr trivial, _, rR, _, rfl, trivial⟩
theorem strAt {x : ByteArray} {i : Nat} (h : i < x.size) : ∃ v, idxSV (.str x) (.int .i64 (i : Int)) = some (.int .u8 v) := by
 refine ⟨(x[i]).toNat, ?_⟩
 have : x[i]? = some x[i] := by simp [h]
 simp [idxSV, this]
theorem name_ok {x : ByteArray} : IsoB 112 [.str x] fun _ => True := by
 refine isoB_of ?_
 by_cases c1 : x.size = 0
 ·have c1' : ((x.size : Int) == 0) = true := by rw [c1]; rfl
  refine evp_of (vf := vf112) rfl ?_
  unfold vf112; refine zE ?_
  try refine zW c1' ?_
  exact ⟨.inr trivial, _, rR, _, rfl, trivial⟩
 have c1' : ((x.size : Int) == 0) = false := by rw [beq_eq_false_iff_ne]; omega
 by_cases c2 : 12 < x.size
 ·have c2' : ((12 : Int) < (x.size : Int)) = True := eq_true (by omega)
  refine evp_of (vf := vf112) rfl ?_
  unfold vf112; refine zE ?_
  try refine zW (aN c1' c2') ?_
  exact ⟨.inr trivial, _, rR, _, rfl, trivial⟩
 have c2' : ((12 : Int) < (x.size : Int)) = False := eq_false (by omega)
 obtain ⟨v, hv⟩ := strAt (x := x) (i := 0) (by omega)
 obtain ⟨b1, h1, _⟩ := letter_ok (n := v)
 have z0 : ((0 : Nat) : Int) = 0 := rfl
 rw [z0] at hv
 cases b1
 ·refine evp_of (vf := vf112) rfl ?_
  unfold vf112; refine zE ?_
  repeat first
  |(apply vq_isoI h1 rfl rfl rfl)
  |refine zW (aN c1' (aN c2' hv)) ?_
  exact ⟨.inr trivial, _, rR, _, rfl, trivial⟩
 obtain ⟨b2, h2, _⟩ := key_ok (x := x)
 cases b2
 ·refine evp_of (vf := vf112) rfl ?_
  unfold vf112; refine zE ?_
  repeat first
  |(apply vq_isoI h1 rfl rfl rfl)
  |(apply vq_isoI h2 rfl rfl rfl)
  |refine zW (aN c1' (aN c2' hv)) ?_
  refine vw_loop_inv (Q := Out' 0 _) (fun n env s => ∃ i : Nat, i <= x.size /\ n = x.size - i /\ (env.get 0 = .str x /\ env.get 3 = .int .i64 (i : Int))) ?_ x.size _ _ ⟨0, by omega, rfl, by simp [Env.get]⟩
  rintro n env s ⟨i, hi, rfl, hE⟩
  by_cases c3 : i < x.size
  ·have c3' : ((i : Int) < (x.size : Int)) = True := eq_true (by omega)
   have hs : IntKind.i64.wrap ((i : Int) + 1) = ((i + 1 : Nat) : Int) := by rw [i64_id (by omega) (by omega)]; omega
   obtain ⟨v, hv⟩ := strAt (x := x) (i := i) (by omega)
   obtain ⟨b3, h3, _⟩ := word_ok (n := v)
   cases b3
   ·repeat first
    |(apply vq_isoI h3 rfl rfl rfl)
    |refine zW (aN hE (aN c3' hv)) ?_
    exact ⟨.inr trivial, _, rR, _, rfl, trivial⟩
   ·repeat first
    |(apply vq_isoI h3 rfl rfl rfl)
    |refine zW (aN hE (aN c3' (aN hv hs))) ?_
    exact ⟨x.size - (i + 1), by omega, i + 1, by omega, rfl, (rG hE)⟩
  ·have c3' : ((i : Int) < (x.size : Int)) = False := eq_false (by omega)
   try refine zW (aN hE c3') ?_
   exact ⟨.inr trivial, _, rR, _, rfl, trivial⟩
 ·refine evp_of (vf := vf112) rfl ?_
  unfold vf112; refine zE ?_
  repeat first
  |(apply vq_isoI h1 rfl rfl rfl)
  |(apply vq_isoI h2 rfl rfl rfl)
  |refine zW (aN c1' (aN c2' hv)) ?_
  exact ⟨.inr trivial, _, rR, _, rfl, trivial⟩
end Go.Proofs.Ytlaeblilmppodaa
namespace Go.V
def Fz (d : D) : Prop := ∀ g n, ice g (n + 3) d = some d
theorem fz_int {k : IntKind} {n : Int} : Fz (.int k n) := fun _ _ => rfl
theorem fz_str {x : ByteArray} : Fz (.str x) := fun _ _ => rfl
theorem FL.fz {sz : Nat} {d : D} {rows : List (List D)} (h : FL sz d rows) : Fz d := fun _ _ => h.ice
theorem TreeAt.fz {d : D} {t : List Nd} (h : TreeAt d t) : Fz d := h.fl.fz
theorem mapO_fix {f : D -> Option D} : ∀ {l : List D}, (∀ d ∈ l, f d = some d) -> mapO f l = some l
 | [], _ => rfl
 | d :: r, h => by
   rw [mapO, h d (by simp), mapO_fix fun x hx => h x (by simp [hx])]
theorem fz1 {g : Look} {a : D} (ha : Fz a) : mapO (V.ice g 20) [a] = some [a] := by simp only [mapO, ha g 17]
theorem fz2 {g : Look} {a b : D} (ha : Fz a) (hb : Fz b) : mapO (V.ice g 20) [a, b] = some [a, b] := by simp only [mapO, ha g 17, hb g 17]
theorem fz3 {g : Look} {a b c : D} (ha : Fz a) (hb : Fz b) (hc : Fz c) : mapO (V.ice g 20) [a, b, c] = some [a, b, c] := by simp only [mapO, ha g 17, hb g 17, hc g 17]
theorem fz5 {g : Look} {a b c d e : D} (ha : Fz a) (hb : Fz b) (hc : Fz c) (hd : Fz d) (he : Fz e) : mapO (V.ice g 20) [a, b, c, d, e] = some [a, b, c, d, e] := by simp only [mapO, ha g 17, hb g 17, hc g 17, hd g 17, he g 17]
theorem fz_agg {l : List D} (h : ∀ d ∈ l, ∀ g n, ice g (n + 2) d = some d) : Fz (.agg l) := fun g n => by
 show (mapO (V.ice g (n + 2)) l).map D.agg = some (D.agg l)
 rw [mapO_fix fun d hd => h d hd g n]
 rfl
theorem FL.ic {sz : Nat} {d : D} {rows : List (List D)} (h : FL sz d rows) : ∀ g n, V.ice g (n + 2) d = some d := fun _ _ => h.ice
theorem Nd.Ok.fz {x : Nd} (h : x.Ok) : Fz (.agg x.row) := fz_agg fun d hd => by
 simp only [Nd.row, List.mem_cons, List.not_mem_nil, or_false] at hd
 rcases hd with rfl | rfl | rfl | rfl | rfl
 ·exact fun _ _ => rfl
 ·exact FL.ic h.w
 ·exact FL.ic h.n
 ·exact FL.ic h.k
 ·exact fun _ _ => rfl
theorem kid_get {x : Nd} {i : Nat} (h : i < x.kids.length) : x.kid i = x.kids[i].toNat := by simp [Nd.kid, List.getD, h]
theorem num_get {x : Nd} {i : Nat} (h : i < x.nums.length) : x.num i = x.nums[i] := by simp [Nd.num, List.getD, h]
theorem word_get {x : Nd} {i : Nat} (h : i < x.words.length) : x.word i = x.words[i] := by simp [Nd.word, List.getD, h]
theorem TreeAt.at {d : D} {t : List Nd} (h : TreeAt d t) {z : Int} (h0 : 0 <= z) (hl : z < (t.length : Int)) {k : IntKind} : idxAV 5 d (.int k z) = some (.fp [.int .i64 (nd t z.toNat).kind, (nd t z.toNat).dw, (nd t z.toNat).dn, (nd t z.toNat).dk, .int .i64 (nd t z.toNat).pos] 0) := by
 have hz : ((z.toNat : Nat) : Int) = z := Int.toNat_of_nonneg h0
 have := h.idx (i := z.toNat) (by omega) (k := k)
 rw [hz, <- nd_get (by omega)] at this
 exact this
theorem TreeAt.nd {d : D} {t : List Nd} (h : TreeAt d t) {i : Nat} (hi : i < t.length) : (V.nd t i).Ok := by rw [nd_get hi]; exact h.get hi
end Go.V
namespace Go.Proofs.Ytlaeblilmppodaa
open Go.V
set_option maxRecDepth 100000
set_option maxHeartbeats 4000000
def inR (k a b : Int) : Bool := decide (a <= k) && decide (k <= b)
theorem inR_iff {k a b : Int} : inR k a b = true ↔ a <= k /\ k <= b := by simp [inR]
theorem in_ok {k a b : Int} : Iso 91 [.int .i64 k, .int .i64 a, .int .i64 b] (.bool (inR k a b)) := by
 refine iso_of ?_
 unfold inR
 by_cases c : a <= k
 ·refine evp_of (vf := vf91) rfl ?_
  unfold vf91; refine zE ?_
  try refine zW c ?_
  exact ⟨.inr trivial, _, rR, by simp [c]⟩
 ·refine evp_of (vf := vf91) rfl ?_
  unfold vf91; refine zE ?_
  try refine zW c ?_
  exact ⟨.inr trivial, _, rR, by simp [c]⟩
theorem kid_ok {d : D} {t : List Nd} {x : Nd} {i : Nat} (hT : TreeAt d t) (hx : x.Ok) (hi : i < x.kids.length) (h0 : 0 <= x.kids[i]) (hl : x.kids[i] < (t.length : Int)) : Iso 92 [d, .agg x.row, .int .i64 (i : Int)] (.int .i64 (nd t (x.kid i)).kind) := by
 refine iso_of ?_
 have h1 := FI.idx hx.k hi (k := .i64)
 have h2 := hT.at h0 hl (k := .i64)
 have o1 := FL.one hx.w
 have o2 := FL.one hx.n
 have o3 := FL.one hx.k
 rw [kid_get hi]
 unfold Nd.row
 refine evp_of (vf := vf92) rfl ?_
 unfold vf92; refine zE ?_
 try refine zW (aN h1 (aN h2 (aN o1 (aN o2 o3)))) ?_
 exact ⟨.inr trivial, _, rR, rfl⟩
theorem words_ok {x : Nd} (hx : x.Ok) {c : Int} : IsoB 88 [.agg x.row, .int .i64 c] fun b => b = true -> (x.words.length : Int) = c := by
 refine isoB_of ?_
 have o1 := FL.one hx.w
 have o2 := FL.one hx.n
 have o3 := FL.one hx.k
 have hlen := FS.len hx.w
 unfold Nd.row
 refine evp_of (vf := vf88) rfl ?_
 unfold vf88; refine zE ?_
 try refine zW (aN o1 (aN o2 o3)) ?_
 refine vw_loop_inv (Q := Out' 0 _) (fun n env s => ∃ i : Nat, i <= x.words.length /\ n = x.words.length - i /\ s.get 0 = some (.cells [.int .i64 x.kind, x.dw, x.dn, x.dk, .int .i64 x.pos]) /\ (env.get 1 = .int .i64 c /\ env.get 2 = .ptr 0 0 /\ env.get 5 = .int .i64 (i : Int))) ?_ x.words.length _ _ ⟨0, by omega, rfl, get_push_new rfl, by simp [Env.get, Made.at]; rfl⟩
 rintro n env s ⟨i, hi, rfl, hg, hE⟩
 by_cases c3 : i < x.words.length
 ·have c3' : ((i : Int) < (x.words.length : Int)) = True := eq_true (by omega)
  have hs := succ63 c3 hx.wl
  have hidx := FS.idx hx.w c3 (k := .i64)
  obtain ⟨b, hb, _⟩ := name_ok (x := x.words[i])
  cases b
  ·repeat first
   |(apply vq_isoI hb rfl rfl rfl)
   |refine zW (aN hE (aN hg (aN o1 (aN o2 (aN o3 (aN hlen (aN c3' hidx))))))) ?_
   exact ⟨.inr trivial, _, rR, _, rfl, by simp⟩
  ·repeat first
   |(apply vq_isoI hb rfl rfl rfl)
   |refine zW (aN hE (aN hg (aN o1 (aN o2 (aN o3 (aN hlen (aN c3' (aN hidx hs)))))))) ?_
   exact ⟨x.words.length - (i + 1), by omega, i + 1, by omega, rfl, hg, (rG hE)⟩
 ·have c3' : ((i : Int) < (x.words.length : Int)) = False := eq_false (by omega)
  try refine zW (aN hE (aN hg (aN o1 (aN o2 (aN o3 (aN hlen c3')))))) ?_
  exact ⟨.inr trivial, _, rR, _, rfl, by simp⟩
theorem nums_ok {x : Nd} (hx : x.Ok) {c m : Int} : IsoB 89 [.agg x.row, .int .i64 c, .int .i64 m] fun b => b = true -> (x.nums.length : Int) = c /\ ∀ n ∈ x.nums, 0 <= n /\ n <= m := by
 refine isoB_of ?_
 have o1 := FL.one hx.w
 have o2 := FL.one hx.n
 have o3 := FL.one hx.k
 have hlen := FI.len hx.n
 unfold Nd.row
 refine evp_of (vf := vf89) rfl ?_
 unfold vf89; refine zE ?_
 try refine zW (aN o1 (aN o2 o3)) ?_
 refine vw_loop_inv (Q := Out' 0 _) (fun n env s => ∃ i : Nat, i <= x.nums.length /\ n = x.nums.length - i /\ (∀ j (hj : j < x.nums.length), j < i -> 0 <= x.nums[j] /\ x.nums[j] <= m) /\ s.get 0 = some (.cells [.int .i64 x.kind, x.dw, x.dn, x.dk, .int .i64 x.pos]) /\ (env.get 1 = .int .i64 c /\ env.get 2 = .int .i64 m /\ env.get 3 = .ptr 0 0 /\ env.get 7 = .int .i64 (i : Int))) ?_ x.nums.length _ _ ⟨0, by omega, rfl, fun j _ h => by omega, get_push_new rfl, by simp [Env.get, Made.at]; rfl⟩
 rintro n env s ⟨i, hi, rfl, hall, hg, hE⟩
 by_cases c3 : i < x.nums.length
 ·have c3' : ((i : Int) < (x.nums.length : Int)) = True := eq_true (by omega)
  have hs := succ63 c3 hx.nl
  have hidx := FI.idx hx.n c3 (k := .i64)
  by_cases d1 : x.nums[i] < 0
  ·try refine zW (aN hE (aN hg (aN o1 (aN o2 (aN o3 (aN hlen (aN c3' (aN hidx d1)))))))) ?_
   exact ⟨.inr trivial, _, rR, _, rfl, by simp⟩
  ·by_cases d2 : m < x.nums[i]
   ·try refine zW (aN hE (aN hg (aN o1 (aN o2 (aN o3 (aN hlen (aN c3' (aN hidx (aN d1 d2))))))))) ?_
    exact ⟨.inr trivial, _, rR, _, rfl, by simp⟩
   ·try refine zW (aN hE (aN hg (aN o1 (aN o2 (aN o3 (aN hlen (aN c3' (aN hidx (aN d1 (aN d2 hs)))))))))) ?_
    refine ⟨x.nums.length - (i + 1), by omega, i + 1, by omega, rfl, fun j hj hji => ?_, hg, (rG hE)⟩
    by_cases e : j = i
    ·subst e; omega
    ·exact hall j hj (by omega)
 ·have c3' : ((i : Int) < (x.nums.length : Int)) = False := eq_false (by omega)
  try refine zW (aN hE (aN hg (aN o1 (aN o2 (aN o3 (aN hlen c3')))))) ?_
  refine ⟨.inr trivial, _, rR, _, rfl, fun h => ⟨by simpa using h, fun n hn => ?_⟩⟩
  obtain ⟨j, hj, rfl⟩ := List.getElem_of_mem hn
  exact hall j hj (by omega)
def KidsIn (t : List Nd) (x : Nd) : Prop := ∀ k ∈ x.kids, 0 <= k /\ k < (t.length : Int)
theorem all_ok {d : D} {t : List Nd} {x : Nd} (hT : TreeAt d t) (hx : x.Ok) (hk : KidsIn t x) {f : Nat} {a b : Int} : IsoB 90 [d, .agg x.row, .int .i64 (f : Int), .int .i64 a, .int .i64 b] fun r => r = true -> ∀ i, f <= i -> i < x.kids.length -> a <= (nd t (x.kid i)).kind /\ (nd t (x.kid i)).kind <= b := by
 refine isoB_of ?_
 have o1 := FL.one hx.w
 have o2 := FL.one hx.n
 have o3 := FL.one hx.k
 have hlen := FI.len hx.k
 have hz := hx.fz
 unfold Nd.row
 refine evp_of (vf := vf90) rfl ?_
 unfold vf90; refine zE ?_
 try refine zW (aN o1 (aN o2 o3)) ?_
 refine vw_loop_inv (Q := Out' 0 _) (fun n env s => ∃ i : Nat, f <= i /\ n = x.kids.length - i /\ (∀ j, f <= j -> j < i -> j < x.kids.length -> a <= (nd t (x.kid j)).kind /\ (nd t (x.kid j)).kind <= b) /\ s.get 0 = some (.cells [.int .i64 x.kind, x.dw, x.dn, x.dk, .int .i64 x.pos]) /\ (env.get 0 = d /\ env.get 3 = .int .i64 a /\ env.get 4 = .int .i64 b /\ env.get 6 = .ptr 0 0 /\ env.get 11 = .int .i64 (i : Int))) ?_ (x.kids.length - f) _ _ ⟨f, by omega, rfl, fun j _ h => by omega, get_push_new rfl, by simp [Env.get, Made.at]; rfl⟩
 rintro n env s ⟨i, hi, rfl, hall, hg, hE⟩
 by_cases c3 : i < x.kids.length
 ·have c3' : ((i : Int) < (x.kids.length : Int)) = True := eq_true (by omega)
  have hs := succ63 c3 hx.kl
  have hki := hk _ (List.getElem_mem c3)
  have h1 := kid_ok hT hx c3 hki.1 hki.2
  unfold Nd.row at h1
  have h2 := in_ok (k := (nd t (x.kid i)).kind) (a := a) (b := b)
  cases hr : inR (nd t (x.kid i)).kind a b
  ·rw [hr] at h2
   repeat first
   |(apply vq_isoI h1 rfl; (focus (simp only [Env.evL, Env.ev, Env.get, Nat.reduceEqDiff, ↓reduceIte, hE])); (focus exact fz3 hT.fz hz fz_int))
   |(apply vq_isoI h2 rfl; (focus (simp only [Env.evL, Env.ev, Env.get, Nat.reduceEqDiff, ↓reduceIte, hE])); (focus rfl))
   |refine zW (aN hE (aN hg (aN o1 (aN o2 (aN o3 (aN hlen c3')))))) ?_
   exact ⟨.inr trivial, _, rR, _, rfl, by simp⟩
  ·rw [hr] at h2
   repeat first
   |(apply vq_isoI h1 rfl; (focus (simp only [Env.evL, Env.ev, Env.get, Nat.reduceEqDiff, ↓reduceIte, hE])); (focus exact fz3 hT.fz hz fz_int))
   |(apply vq_isoI h2 rfl; (focus (simp only [Env.evL, Env.ev, Env.get, Nat.reduceEqDiff, ↓reduceIte, hE])); (focus rfl))
   |refine zW (aN hE (aN hg (aN o1 (aN o2 (aN o3 (aN hlen (aN c3' hs))))))) ?_
   refine ⟨x.kids.length - (i + 1), by omega, i + 1, by omega, rfl, fun j h1 h2 h3 => ?_, hg, (rG hE)⟩
   by_cases e : j = i
   ·subst e; exact inR_iff.1 hr
   ·exact hall j h1 (by omega) h3
 ·have c3' : ((i : Int) < (x.kids.length : Int)) = False := eq_false (by omega)
  try refine zW (aN hE (aN hg (aN o1 (aN o2 (aN o3 (aN hlen c3')))))) ?_
  exact ⟨.inr trivial, _, rR, _, rfl, fun _ j h1 h2 => hall j h1 (by omega) h2⟩
end Go.Proofs.Ytlaeblilmppodaa
namespace Go.Proofs.Ytlaeblilmppodaa
open Go.V
set_option maxRecDepth 100000
set_option maxHeartbeats 4000000
theorem exprs_ok {d : D} {t : List Nd} {x : Nd} (hT : TreeAt d t) (hx : x.Ok) (hk : KidsIn t x) {f l m : Nat} (hf : f <= 2) (hl : l <= 1) (hm : m <= 800) : IsoB 93 [d, .agg x.row, .int .i64 (f : Int), .int .i64 (l : Int), .int .i64 (m : Int)] fun r => r = true -> f + l <= x.kids.length /\ x.kids.length <= f + m /\ ∀ i, i < x.kids.length -> (i < f -> 17 <= (nd t (x.kid i)).kind /\ (nd t (x.kid i)).kind <= 22) /\ (f <= i -> (nd t (x.kid i)).kind = 16) := by
 refine isoB_of ?_
 have o1 := FL.one hx.w
 have o2 := FL.one hx.n
 have o3 := FL.one hx.k
 have hlen := FI.len hx.k
 have hz := hx.fz
 have e1 : IntKind.i64.wrap ((f : Int) + (l : Int)) = ((f + l : Nat) : Int) := by rw [i64_id (by omega) (by omega)]; omega
 have e2 : IntKind.i64.wrap ((f : Int) + (m : Int)) = ((f + m : Nat) : Int) := by rw [i64_id (by omega) (by omega)]; omega
 unfold Nd.row
 refine evp_of (vf := vf93) rfl ?_
 unfold vf93; refine zE ?_
 try refine zW (aN o1 (aN o2 (aN o3 hlen))) ?_
 refine vw_loop_inv (Q := Out' 0 _) (fun n env s => ∃ i : Nat, i <= x.kids.length /\ n = x.kids.length - i /\ (∀ j, j < i -> (j < f -> 17 <= (nd t (x.kid j)).kind /\ (nd t (x.kid j)).kind <= 22) /\ (f <= j -> (nd t (x.kid j)).kind = 16)) /\ s.get 0 = some (.cells [.int .i64 x.kind, x.dw, x.dn, x.dk, .int .i64 x.pos]) /\ (env.get 0 = d /\ env.get 2 = .int .i64 (f : Int) /\ env.get 3 = .int .i64 (l : Int) /\ env.get 4 = .int .i64 (m : Int) /\ env.get 6 = .ptr 0 0 /\ env.get 11 = .int .i64 (x.kids.length : Int) /\ env.get 12 = .int .i64 (i : Int))) ?_ x.kids.length _ _ ⟨0, by omega, rfl, fun j h => by omega, get_push_new rfl, by simp [Env.get, Made.at]; rfl⟩
 rintro n env s ⟨i, hi, rfl, hall, hg, hE⟩
 by_cases c3 : i < x.kids.length
 ·have c3' : ((i : Int) < (x.kids.length : Int)) = True := eq_true (by omega)
  have hs := succ63 c3 hx.kl
  have hki := hk _ (List.getElem_mem c3)
  have h1 := kid_ok hT hx c3 hki.1 hki.2
  unfold Nd.row at h1
  have h2 := in_ok (k := (nd t (x.kid i)).kind) (a := 17) (b := 22)
  by_cases c4 : i < f
  ·have c4' : ((i : Int) < (f : Int)) = True := eq_true (by omega)
   have c5' : ((f : Int) <= (i : Int)) = False := eq_false (by omega)
   cases hr : inR (nd t (x.kid i)).kind 17 22
   ·rw [hr] at h2
    repeat first
    |(apply vq_isoI h1 rfl; (focus (simp only [Env.evL, Env.ev, Env.get, Nat.reduceEqDiff, ↓reduceIte, hE])); (focus exact fz3 hT.fz hz fz_int))
    |(apply vq_isoI h2 rfl; (focus (simp only [Env.evL, Env.ev, Env.get, Nat.reduceEqDiff, ↓reduceIte, hE])); (focus rfl))
    |refine zW (aN hE (aN hg (aN o1 (aN o2 (aN o3 (aN hlen (aN c3' (aN c4' c5')))))))) ?_
    exact ⟨.inr trivial, _, rR, _, rfl, by simp⟩
   ·rw [hr] at h2
    repeat first
    |(apply vq_isoI h1 rfl; (focus (simp only [Env.evL, Env.ev, Env.get, Nat.reduceEqDiff, ↓reduceIte, hE])); (focus exact fz3 hT.fz hz fz_int))
    |(apply vq_isoI h2 rfl; (focus (simp only [Env.evL, Env.ev, Env.get, Nat.reduceEqDiff, ↓reduceIte, hE])); (focus rfl))
    |refine zW (aN hE (aN hg (aN o1 (aN o2 (aN o3 (aN hlen (aN c3' (aN c4' (aN c5' hs))))))))) ?_
    refine ⟨x.kids.length - (i + 1), by omega, i + 1, by omega, rfl, fun j h => ?_, hg, (rG hE)⟩
    by_cases e : j = i
    ·subst e; exact ⟨fun _ => inR_iff.1 hr, fun h => by omega⟩
    ·exact hall j (by omega)
  ·have c4' : ((i : Int) < (f : Int)) = False := eq_false (by omega)
   have c5' : ((f : Int) <= (i : Int)) = True := eq_true (by omega)
   by_cases c6 : (nd t (x.kid i)).kind = 16
   ·have c6' : ((nd t (x.kid i)).kind != 16) = false := by rw [c6]; rfl
    repeat first
    |(apply vq_isoI h1 rfl; (focus (simp only [Env.evL, Env.ev, Env.get, Nat.reduceEqDiff, ↓reduceIte, hE])); (focus exact fz3 hT.fz hz fz_int))
    |(apply vq_isoI h2 rfl; (focus (simp only [Env.evL, Env.ev, Env.get, Nat.reduceEqDiff, ↓reduceIte, hE])); (focus rfl))
    |refine zW (aN hE (aN hg (aN o1 (aN o2 (aN o3 (aN hlen (aN c3' (aN c4' (aN c5' (aN c6' hs)))))))))) ?_
    refine ⟨x.kids.length - (i + 1), by omega, i + 1, by omega, rfl, fun j h => ?_, hg, (rG hE)⟩
    by_cases e : j = i
    ·subst e; exact ⟨fun h => by omega, fun _ => c6⟩
    ·exact hall j (by omega)
   ·have c6' : ((nd t (x.kid i)).kind != 16) = true := by rw [bne_iff_ne]; exact c6
    repeat first
    |(apply vq_isoI h1 rfl; (focus (simp only [Env.evL, Env.ev, Env.get, Nat.reduceEqDiff, ↓reduceIte, hE])); (focus exact fz3 hT.fz hz fz_int))
    |(apply vq_isoI h2 rfl; (focus (simp only [Env.evL, Env.ev, Env.get, Nat.reduceEqDiff, ↓reduceIte, hE])); (focus rfl))
    |refine zW (aN hE (aN hg (aN o1 (aN o2 (aN o3 (aN hlen (aN c3' (aN c4' (aN c5' c6'))))))))) ?_
    exact ⟨.inr trivial, _, rR, _, rfl, by simp⟩
 ·have c3' : ((i : Int) < (x.kids.length : Int)) = False := eq_false (by omega)
  by_cases c7 : f + l <= x.kids.length
  ·have c7' : (((f + l : Nat) : Int) <= (x.kids.length : Int)) = True := eq_true (by omega)
   by_cases c8 : x.kids.length <= f + m
   ·have c8' : ((x.kids.length : Int) <= ((f + m : Nat) : Int)) = True := eq_true (by omega)
    try refine zW (aN hE (aN hg (aN o1 (aN o2 (aN o3 (aN hlen (aN c3' (aN e1 (aN e2 (aN c7' c8')))))))))) ?_
    exact ⟨.inr trivial, _, rR, _, rfl, fun _ => ⟨c7, c8, fun j h => hall j (by omega)⟩⟩
   ·have c8' : ((x.kids.length : Int) <= ((f + m : Nat) : Int)) = False := eq_false (by omega)
    try refine zW (aN hE (aN hg (aN o1 (aN o2 (aN o3 (aN hlen (aN c3' (aN e1 (aN e2 (aN c7' c8')))))))))) ?_
    exact ⟨.inr trivial, _, rR, _, rfl, by simp⟩
  ·have c7' : (((f + l : Nat) : Int) <= (x.kids.length : Int)) = False := eq_false (by omega)
   try refine zW (aN hE (aN hg (aN o1 (aN o2 (aN o3 (aN hlen (aN c3' (aN e1 (aN e2 c7'))))))))) ?_
   exact ⟨.inr trivial, _, rR, _, rfl, by simp⟩
theorem node_0 {d : D} {t : List Nd} {x : Nd} (hT : TreeAt d t) (hx : x.Ok) (hk : KidsIn t x) (hK : x.kind = 0) : IsoB 66 [d, .agg x.row] fun b => b = true -> (x.words.length : Int) = 0 /\ ((x.nums.length : Int) = 0 /\ ∀ n ∈ x.nums, 0 <= n /\ n <= 0) /\ ∀ i, 0 <= i -> i < x.kids.length -> 1 <= (nd t (x.kid i)).kind /\ (nd t (x.kid i)).kind <= 5 := by
 refine isoB_of ?_
 have o1 := FL.one hx.w
 have o2 := FL.one hx.n
 have o3 := FL.one hx.k
 have hlen := FI.len hx.k
 have hz := hx.fz
 have hrow : x.row = [.int .i64 0, x.dw, x.dn, x.dk, .int .i64 x.pos] := by unfold Nd.row; rw [hK]
 obtain ⟨b1, h1, p1⟩ := words_ok hx (c := 0)
 obtain ⟨b2, h2, p2⟩ := nums_ok hx (c := 0) (m := 0)
 obtain ⟨b3, h3, p3⟩ := all_ok hT hx hk (f := 0) (a := 1) (b := 5)
 rw [hrow] at h1 h2 hz h3 ⊢
 cases b1 <;> cases b2
 all_goals
  refine evp_of (vf := vf66) rfl ?_
  unfold vf66; refine zE ?_
  repeat first
  |(apply vq_isoI h1 rfl rfl (fz2 hz fz_int))
  |(apply vq_isoI h2 rfl rfl (fz3 hz fz_int fz_int))
  |(apply vq_isoI h3 rfl rfl (fz5 hT.fz hz fz_int fz_int fz_int))
  |refine zW (aN o1 (aN o2 (aN o3 hlen))) ?_
  first
   | exact ⟨.inr trivial, _, rR, _, rfl, fun h => ⟨p1 rfl, p2 rfl, p3 h⟩⟩
   | exact ⟨.inr trivial, _, rR, _, rfl, by simp⟩
theorem node_4 {d : D} {t : List Nd} {x : Nd} (hT : TreeAt d t) (hx : x.Ok) (hk : KidsIn t x) (hK : x.kind = 4) : IsoB 66 [d, .agg x.row] fun b => b = true -> (x.words.length : Int) = 0 /\ ((x.nums.length : Int) = 0 /\ ∀ n ∈ x.nums, 0 <= n /\ n <= 0) /\ 1 <= x.kids.length /\ x.kids.length <= 1 /\ ∀ i, i < x.kids.length -> (i < 1 -> 17 <= (nd t (x.kid i)).kind /\ (nd t (x.kid i)).kind <= 22) /\ (1 <= i -> (nd t (x.kid i)).kind = 16) := by
 refine isoB_of ?_
 have o1 := FL.one hx.w
 have o2 := FL.one hx.n
 have o3 := FL.one hx.k
 have hlen := FI.len hx.k
 have hz := hx.fz
 have hrow : x.row = [.int .i64 4, x.dw, x.dn, x.dk, .int .i64 x.pos] := by unfold Nd.row; rw [hK]
 obtain ⟨b1, h1, p1⟩ := words_ok hx (c := 0)
 obtain ⟨b2, h2, p2⟩ := nums_ok hx (c := 0) (m := 0)
 obtain ⟨b3, h3, p3⟩ := exprs_ok hT hx hk (f := 1) (l := 0) (m := 0) (by omega) (by omega) (by omega)
 rw [hrow] at h1 h2 hz h3 ⊢
 cases b1 <;> cases b2
 all_goals
  refine evp_of (vf := vf66) rfl ?_
  unfold vf66; refine zE ?_
  repeat first
  |(apply vq_isoI h1 rfl rfl (fz2 hz fz_int))
  |(apply vq_isoI h2 rfl rfl (fz3 hz fz_int fz_int))
  |(apply vq_isoI h3 rfl rfl (fz5 hT.fz hz fz_int fz_int fz_int))
  |refine zW (aN o1 (aN o2 (aN o3 hlen))) ?_
  first
   | exact ⟨.inr trivial, _, rR, _, rfl, fun h => ⟨p1 rfl, p2 rfl, p3 h⟩⟩
   | exact ⟨.inr trivial, _, rR, _, rfl, by simp⟩
theorem node_5 {d : D} {t : List Nd} {x : Nd} (hT : TreeAt d t) (hx : x.Ok) (hk : KidsIn t x) (hK : x.kind = 5) : IsoB 66 [d, .agg x.row] fun b => b = true -> (x.words.length : Int) = 0 /\ ((x.nums.length : Int) = 0 /\ ∀ n ∈ x.nums, 0 <= n /\ n <= 0) /\ x.kids = [] := by
 refine isoB_of ?_
 have o1 := FL.one hx.w
 have o2 := FL.one hx.n
 have o3 := FL.one hx.k
 have hlen := FI.len hx.k
 have hz := hx.fz
 have hrow : x.row = [.int .i64 5, x.dw, x.dn, x.dk, .int .i64 x.pos] := by unfold Nd.row; rw [hK]
 obtain ⟨b1, h1, p1⟩ := words_ok hx (c := 0)
 obtain ⟨b2, h2, p2⟩ := nums_ok hx (c := 0) (m := 0)
 rw [hrow] at h1 h2 hz ⊢
 have hz0 : ((x.kids.length : Int) == 0) = decide (x.kids = []) := by
  rw [Bool.eq_iff_iff, beq_iff_eq, decide_eq_true_eq, <- List.length_eq_zero_iff]; omega
 cases b1 <;> cases b2
 all_goals
  refine evp_of (vf := vf66) rfl ?_
  unfold vf66; refine zE ?_
  repeat first
  |(apply vq_isoI h1 rfl rfl (fz2 hz fz_int))
  |(apply vq_isoI h2 rfl rfl (fz3 hz fz_int fz_int))
  |refine zW (aN o1 (aN o2 (aN o3 (aN hlen hz0)))) ?_
  first
   | exact ⟨.inr trivial, _, rR, _, rfl, fun h => ⟨p1 rfl, p2 rfl, of_decide_eq_true h⟩⟩
   | exact ⟨.inr trivial, _, rR, _, rfl, by simp⟩
theorem node_6 {d : D} {t : List Nd} {x : Nd} (hT : TreeAt d t) (hx : x.Ok) (hk : KidsIn t x) (hK : x.kind = 6) : IsoB 66 [d, .agg x.row] fun b => b = true -> (x.words.length : Int) = 1 /\ ((x.nums.length : Int) = 0 /\ ∀ n ∈ x.nums, 0 <= n /\ n <= 0) /\ 1 <= x.kids.length /\ x.kids.length <= 1 /\ ∀ i, i < x.kids.length -> (i < 1 -> 17 <= (nd t (x.kid i)).kind /\ (nd t (x.kid i)).kind <= 22) /\ (1 <= i -> (nd t (x.kid i)).kind = 16) := by
 refine isoB_of ?_
 have o1 := FL.one hx.w
 have o2 := FL.one hx.n
 have o3 := FL.one hx.k
 have hlen := FI.len hx.k
 have hz := hx.fz
 have hrow : x.row = [.int .i64 6, x.dw, x.dn, x.dk, .int .i64 x.pos] := by unfold Nd.row; rw [hK]
 obtain ⟨b1, h1, p1⟩ := words_ok hx (c := 1)
 obtain ⟨b2, h2, p2⟩ := nums_ok hx (c := 0) (m := 0)
 obtain ⟨b3, h3, p3⟩ := exprs_ok hT hx hk (f := 1) (l := 0) (m := 0) (by omega) (by omega) (by omega)
 rw [hrow] at h1 h2 hz h3 ⊢
 cases b1 <;> cases b2
 all_goals
  refine evp_of (vf := vf66) rfl ?_
  unfold vf66; refine zE ?_
  repeat first
  |(apply vq_isoI h1 rfl rfl (fz2 hz fz_int))
  |(apply vq_isoI h2 rfl rfl (fz3 hz fz_int fz_int))
  |(apply vq_isoI h3 rfl rfl (fz5 hT.fz hz fz_int fz_int fz_int))
  |refine zW (aN o1 (aN o2 (aN o3 hlen))) ?_
  first
   | exact ⟨.inr trivial, _, rR, _, rfl, fun h => ⟨p1 rfl, p2 rfl, p3 h⟩⟩
   | exact ⟨.inr trivial, _, rR, _, rfl, by simp⟩
theorem node_7 {d : D} {t : List Nd} {x : Nd} (hT : TreeAt d t) (hx : x.Ok) (hk : KidsIn t x) (hK : x.kind = 7) : IsoB 66 [d, .agg x.row] fun b => b = true -> (x.words.length : Int) = 1 /\ ((x.nums.length : Int) = 0 /\ ∀ n ∈ x.nums, 0 <= n /\ n <= 0) /\ 1 <= x.kids.length /\ x.kids.length <= 1 /\ ∀ i, i < x.kids.length -> (i < 1 -> 17 <= (nd t (x.kid i)).kind /\ (nd t (x.kid i)).kind <= 22) /\ (1 <= i -> (nd t (x.kid i)).kind = 16) := by
 refine isoB_of ?_
 have o1 := FL.one hx.w
 have o2 := FL.one hx.n
 have o3 := FL.one hx.k
 have hlen := FI.len hx.k
 have hz := hx.fz
 have hrow : x.row = [.int .i64 7, x.dw, x.dn, x.dk, .int .i64 x.pos] := by unfold Nd.row; rw [hK]
 obtain ⟨b1, h1, p1⟩ := words_ok hx (c := 1)
 obtain ⟨b2, h2, p2⟩ := nums_ok hx (c := 0) (m := 0)
 obtain ⟨b3, h3, p3⟩ := exprs_ok hT hx hk (f := 1) (l := 0) (m := 0) (by omega) (by omega) (by omega)
 rw [hrow] at h1 h2 hz h3 ⊢
 cases b1 <;> cases b2
 all_goals
  refine evp_of (vf := vf66) rfl ?_
  unfold vf66; refine zE ?_
  repeat first
  |(apply vq_isoI h1 rfl rfl (fz2 hz fz_int))
  |(apply vq_isoI h2 rfl rfl (fz3 hz fz_int fz_int))
  |(apply vq_isoI h3 rfl rfl (fz5 hT.fz hz fz_int fz_int fz_int))
  |refine zW (aN o1 (aN o2 (aN o3 hlen))) ?_
  first
   | exact ⟨.inr trivial, _, rR, _, rfl, fun h => ⟨p1 rfl, p2 rfl, p3 h⟩⟩
   | exact ⟨.inr trivial, _, rR, _, rfl, by simp⟩
theorem node_8 {d : D} {t : List Nd} {x : Nd} (hT : TreeAt d t) (hx : x.Ok) (hk : KidsIn t x) (hK : x.kind = 8) : IsoB 66 [d, .agg x.row] fun b => b = true -> (x.words.length : Int) = 2 /\ ((x.nums.length : Int) = 1 /\ ∀ n ∈ x.nums, 0 <= n /\ n <= 1) /\ x.kids = [] := by
 refine isoB_of ?_
 have o1 := FL.one hx.w
 have o2 := FL.one hx.n
 have o3 := FL.one hx.k
 have hlen := FI.len hx.k
 have hz := hx.fz
 have hrow : x.row = [.int .i64 8, x.dw, x.dn, x.dk, .int .i64 x.pos] := by unfold Nd.row; rw [hK]
 obtain ⟨b1, h1, p1⟩ := words_ok hx (c := 2)
 obtain ⟨b2, h2, p2⟩ := nums_ok hx (c := 1) (m := 1)
 rw [hrow] at h1 h2 hz ⊢
 have hz0 : ((x.kids.length : Int) == 0) = decide (x.kids = []) := by
  rw [Bool.eq_iff_iff, beq_iff_eq, decide_eq_true_eq, <- List.length_eq_zero_iff]; omega
 cases b1 <;> cases b2
 all_goals
  refine evp_of (vf := vf66) rfl ?_
  unfold vf66; refine zE ?_
  repeat first
  |(apply vq_isoI h1 rfl rfl (fz2 hz fz_int))
  |(apply vq_isoI h2 rfl rfl (fz3 hz fz_int fz_int))
  |refine zW (aN o1 (aN o2 (aN o3 (aN hlen hz0)))) ?_
  first
   | exact ⟨.inr trivial, _, rR, _, rfl, fun h => ⟨p1 rfl, p2 rfl, of_decide_eq_true h⟩⟩
   | exact ⟨.inr trivial, _, rR, _, rfl, by simp⟩
theorem node_9 {d : D} {t : List Nd} {x : Nd} (hT : TreeAt d t) (hx : x.Ok) (hk : KidsIn t x) (hK : x.kind = 9) : IsoB 66 [d, .agg x.row] fun b => b = true -> (x.words.length : Int) = 0 /\ ((x.nums.length : Int) = 1 /\ ∀ n ∈ x.nums, 0 <= n /\ n <= 1) /\ 1 <= x.kids.length /\ x.kids.length <= 1 /\ ∀ i, i < x.kids.length -> (i < 1 -> 17 <= (nd t (x.kid i)).kind /\ (nd t (x.kid i)).kind <= 22) /\ (1 <= i -> (nd t (x.kid i)).kind = 16) := by
 refine isoB_of ?_
 have o1 := FL.one hx.w
 have o2 := FL.one hx.n
 have o3 := FL.one hx.k
 have hlen := FI.len hx.k
 have hz := hx.fz
 have hrow : x.row = [.int .i64 9, x.dw, x.dn, x.dk, .int .i64 x.pos] := by unfold Nd.row; rw [hK]
 obtain ⟨b1, h1, p1⟩ := words_ok hx (c := 0)
 obtain ⟨b2, h2, p2⟩ := nums_ok hx (c := 1) (m := 1)
 obtain ⟨b3, h3, p3⟩ := exprs_ok hT hx hk (f := 1) (l := 0) (m := 0) (by omega) (by omega) (by omega)
 rw [hrow] at h1 h2 hz h3 ⊢
 cases b1 <;> cases b2
 all_goals
  refine evp_of (vf := vf66) rfl ?_
  unfold vf66; refine zE ?_
  repeat first
  |(apply vq_isoI h1 rfl rfl (fz2 hz fz_int))
  |(apply vq_isoI h2 rfl rfl (fz3 hz fz_int fz_int))
  |(apply vq_isoI h3 rfl rfl (fz5 hT.fz hz fz_int fz_int fz_int))
  |refine zW (aN o1 (aN o2 (aN o3 hlen))) ?_
  first
   | exact ⟨.inr trivial, _, rR, _, rfl, fun h => ⟨p1 rfl, p2 rfl, p3 h⟩⟩
   | exact ⟨.inr trivial, _, rR, _, rfl, by simp⟩
theorem node_10 {d : D} {t : List Nd} {x : Nd} (hT : TreeAt d t) (hx : x.Ok) (hk : KidsIn t x) (hK : x.kind = 10) : IsoB 66 [d, .agg x.row] fun b => b = true -> (x.words.length : Int) = 0 /\ ((x.nums.length : Int) = 1 /\ ∀ n ∈ x.nums, 0 <= n /\ n <= 1) /\ 1 <= x.kids.length /\ x.kids.length <= 800 /\ ∀ i, i < x.kids.length -> (i < 0 -> 17 <= (nd t (x.kid i)).kind /\ (nd t (x.kid i)).kind <= 22) /\ (0 <= i -> (nd t (x.kid i)).kind = 16) := by
 refine isoB_of ?_
 have o1 := FL.one hx.w
 have o2 := FL.one hx.n
 have o3 := FL.one hx.k
 have hlen := FI.len hx.k
 have hz := hx.fz
 have hrow : x.row = [.int .i64 10, x.dw, x.dn, x.dk, .int .i64 x.pos] := by unfold Nd.row; rw [hK]
 obtain ⟨b1, h1, p1⟩ := words_ok hx (c := 0)
 obtain ⟨b2, h2, p2⟩ := nums_ok hx (c := 1) (m := 1)
 obtain ⟨b3, h3, p3⟩ := exprs_ok hT hx hk (f := 0) (l := 1) (m := 800) (by omega) (by omega) (by omega)
 rw [hrow] at h1 h2 hz h3 ⊢
 cases b1 <;> cases b2
 all_goals
  refine evp_of (vf := vf66) rfl ?_
  unfold vf66; refine zE ?_
  repeat first
  |(apply vq_isoI h1 rfl rfl (fz2 hz fz_int))
  |(apply vq_isoI h2 rfl rfl (fz3 hz fz_int fz_int))
  |(apply vq_isoI h3 rfl rfl (fz5 hT.fz hz fz_int fz_int fz_int))
  |refine zW (aN o1 (aN o2 (aN o3 hlen))) ?_
  first
   | exact ⟨.inr trivial, _, rR, _, rfl, fun h => ⟨p1 rfl, p2 rfl, p3 h⟩⟩
   | exact ⟨.inr trivial, _, rR, _, rfl, by simp⟩
theorem node_11 {d : D} {t : List Nd} {x : Nd} (hT : TreeAt d t) (hx : x.Ok) (hk : KidsIn t x) (hK : x.kind = 11) : IsoB 66 [d, .agg x.row] fun b => b = true -> (x.words.length : Int) = 0 /\ ((x.nums.length : Int) = 0 /\ ∀ n ∈ x.nums, 0 <= n /\ n <= 0) /\ 2 <= x.kids.length /\ x.kids.length <= 3 /\ ∀ i, i < x.kids.length -> (i < 1 -> 17 <= (nd t (x.kid i)).kind /\ (nd t (x.kid i)).kind <= 22) /\ (1 <= i -> (nd t (x.kid i)).kind = 16) := by
 refine isoB_of ?_
 have o1 := FL.one hx.w
 have o2 := FL.one hx.n
 have o3 := FL.one hx.k
 have hlen := FI.len hx.k
 have hz := hx.fz
 have hrow : x.row = [.int .i64 11, x.dw, x.dn, x.dk, .int .i64 x.pos] := by unfold Nd.row; rw [hK]
 obtain ⟨b1, h1, p1⟩ := words_ok hx (c := 0)
 obtain ⟨b2, h2, p2⟩ := nums_ok hx (c := 0) (m := 0)
 obtain ⟨b3, h3, p3⟩ := exprs_ok hT hx hk (f := 1) (l := 1) (m := 2) (by omega) (by omega) (by omega)
 rw [hrow] at h1 h2 hz h3 ⊢
 cases b1 <;> cases b2
 all_goals
  refine evp_of (vf := vf66) rfl ?_
  unfold vf66; refine zE ?_
  repeat first
  |(apply vq_isoI h1 rfl rfl (fz2 hz fz_int))
  |(apply vq_isoI h2 rfl rfl (fz3 hz fz_int fz_int))
  |(apply vq_isoI h3 rfl rfl (fz5 hT.fz hz fz_int fz_int fz_int))
  |refine zW (aN o1 (aN o2 (aN o3 hlen))) ?_
  first
   | exact ⟨.inr trivial, _, rR, _, rfl, fun h => ⟨p1 rfl, p2 rfl, p3 h⟩⟩
   | exact ⟨.inr trivial, _, rR, _, rfl, by simp⟩
theorem node_12 {d : D} {t : List Nd} {x : Nd} (hT : TreeAt d t) (hx : x.Ok) (hk : KidsIn t x) (hK : x.kind = 12) : IsoB 66 [d, .agg x.row] fun b => b = true -> (x.words.length : Int) = 0 /\ ((x.nums.length : Int) = 0 /\ ∀ n ∈ x.nums, 0 <= n /\ n <= 0) /\ 2 <= x.kids.length /\ x.kids.length <= 2 /\ ∀ i, i < x.kids.length -> (i < 1 -> 17 <= (nd t (x.kid i)).kind /\ (nd t (x.kid i)).kind <= 22) /\ (1 <= i -> (nd t (x.kid i)).kind = 16) := by
 refine isoB_of ?_
 have o1 := FL.one hx.w
 have o2 := FL.one hx.n
 have o3 := FL.one hx.k
 have hlen := FI.len hx.k
 have hz := hx.fz
 have hrow : x.row = [.int .i64 12, x.dw, x.dn, x.dk, .int .i64 x.pos] := by unfold Nd.row; rw [hK]
 obtain ⟨b1, h1, p1⟩ := words_ok hx (c := 0)
 obtain ⟨b2, h2, p2⟩ := nums_ok hx (c := 0) (m := 0)
 obtain ⟨b3, h3, p3⟩ := exprs_ok hT hx hk (f := 1) (l := 1) (m := 1) (by omega) (by omega) (by omega)
 rw [hrow] at h1 h2 hz h3 ⊢
 cases b1 <;> cases b2
 all_goals
  refine evp_of (vf := vf66) rfl ?_
  unfold vf66; refine zE ?_
  repeat first
  |(apply vq_isoI h1 rfl rfl (fz2 hz fz_int))
  |(apply vq_isoI h2 rfl rfl (fz3 hz fz_int fz_int))
  |(apply vq_isoI h3 rfl rfl (fz5 hT.fz hz fz_int fz_int fz_int))
  |refine zW (aN o1 (aN o2 (aN o3 hlen))) ?_
  first
   | exact ⟨.inr trivial, _, rR, _, rfl, fun h => ⟨p1 rfl, p2 rfl, p3 h⟩⟩
   | exact ⟨.inr trivial, _, rR, _, rfl, by simp⟩
theorem node_13 {d : D} {t : List Nd} {x : Nd} (hT : TreeAt d t) (hx : x.Ok) (hk : KidsIn t x) (hK : x.kind = 13) : IsoB 66 [d, .agg x.row] fun b => b = true -> (x.words.length : Int) = 0 /\ ((x.nums.length : Int) = 0 /\ ∀ n ∈ x.nums, 0 <= n /\ n <= 0) /\ 1 <= x.kids.length /\ x.kids.length <= 1 /\ ∀ i, i < x.kids.length -> (i < 0 -> 17 <= (nd t (x.kid i)).kind /\ (nd t (x.kid i)).kind <= 22) /\ (0 <= i -> (nd t (x.kid i)).kind = 16) := by
 refine isoB_of ?_
 have o1 := FL.one hx.w
 have o2 := FL.one hx.n
 have o3 := FL.one hx.k
 have hlen := FI.len hx.k
 have hz := hx.fz
 have hrow : x.row = [.int .i64 13, x.dw, x.dn, x.dk, .int .i64 x.pos] := by unfold Nd.row; rw [hK]
 obtain ⟨b1, h1, p1⟩ := words_ok hx (c := 0)
 obtain ⟨b2, h2, p2⟩ := nums_ok hx (c := 0) (m := 0)
 obtain ⟨b3, h3, p3⟩ := exprs_ok hT hx hk (f := 0) (l := 1) (m := 1) (by omega) (by omega) (by omega)
 rw [hrow] at h1 h2 hz h3 ⊢
 cases b1 <;> cases b2
 all_goals
  refine evp_of (vf := vf66) rfl ?_
  unfold vf66; refine zE ?_
  repeat first
  |(apply vq_isoI h1 rfl rfl (fz2 hz fz_int))
  |(apply vq_isoI h2 rfl rfl (fz3 hz fz_int fz_int))
  |(apply vq_isoI h3 rfl rfl (fz5 hT.fz hz fz_int fz_int fz_int))
  |refine zW (aN o1 (aN o2 (aN o3 hlen))) ?_
  first
   | exact ⟨.inr trivial, _, rR, _, rfl, fun h => ⟨p1 rfl, p2 rfl, p3 h⟩⟩
   | exact ⟨.inr trivial, _, rR, _, rfl, by simp⟩
theorem node_14 {d : D} {t : List Nd} {x : Nd} (hT : TreeAt d t) (hx : x.Ok) (hk : KidsIn t x) (hK : x.kind = 14) : IsoB 66 [d, .agg x.row] fun b => b = true -> (x.words.length : Int) = 0 /\ ((x.nums.length : Int) = 0 /\ ∀ n ∈ x.nums, 0 <= n /\ n <= 0) /\ x.kids = [] := by
 refine isoB_of ?_
 have o1 := FL.one hx.w
 have o2 := FL.one hx.n
 have o3 := FL.one hx.k
 have hlen := FI.len hx.k
 have hz := hx.fz
 have hrow : x.row = [.int .i64 14, x.dw, x.dn, x.dk, .int .i64 x.pos] := by unfold Nd.row; rw [hK]
 obtain ⟨b1, h1, p1⟩ := words_ok hx (c := 0)
 obtain ⟨b2, h2, p2⟩ := nums_ok hx (c := 0) (m := 0)
 rw [hrow] at h1 h2 hz ⊢
 have hz0 : ((x.kids.length : Int) == 0) = decide (x.kids = []) := by
  rw [Bool.eq_iff_iff, beq_iff_eq, decide_eq_true_eq, <- List.length_eq_zero_iff]; omega
 cases b1 <;> cases b2
 all_goals
  refine evp_of (vf := vf66) rfl ?_
  unfold vf66; refine zE ?_
  repeat first
  |(apply vq_isoI h1 rfl rfl (fz2 hz fz_int))
  |(apply vq_isoI h2 rfl rfl (fz3 hz fz_int fz_int))
  |refine zW (aN o1 (aN o2 (aN o3 (aN hlen hz0)))) ?_
  first
   | exact ⟨.inr trivial, _, rR, _, rfl, fun h => ⟨p1 rfl, p2 rfl, of_decide_eq_true h⟩⟩
   | exact ⟨.inr trivial, _, rR, _, rfl, by simp⟩
theorem node_15 {d : D} {t : List Nd} {x : Nd} (hT : TreeAt d t) (hx : x.Ok) (hk : KidsIn t x) (hK : x.kind = 15) : IsoB 66 [d, .agg x.row] fun b => b = true -> (x.words.length : Int) = 0 /\ ((x.nums.length : Int) = 0 /\ ∀ n ∈ x.nums, 0 <= n /\ n <= 0) /\ x.kids = [] := by
 refine isoB_of ?_
 have o1 := FL.one hx.w
 have o2 := FL.one hx.n
 have o3 := FL.one hx.k
 have hlen := FI.len hx.k
 have hz := hx.fz
 have hrow : x.row = [.int .i64 15, x.dw, x.dn, x.dk, .int .i64 x.pos] := by unfold Nd.row; rw [hK]
 obtain ⟨b1, h1, p1⟩ := words_ok hx (c := 0)
 obtain ⟨b2, h2, p2⟩ := nums_ok hx (c := 0) (m := 0)
 rw [hrow] at h1 h2 hz ⊢
 have hz0 : ((x.kids.length : Int) == 0) = decide (x.kids = []) := by
  rw [Bool.eq_iff_iff, beq_iff_eq, decide_eq_true_eq, <- List.length_eq_zero_iff]; omega
 cases b1 <;> cases b2
 all_goals
  refine evp_of (vf := vf66) rfl ?_
  unfold vf66; refine zE ?_
  repeat first
  |(apply vq_isoI h1 rfl rfl (fz2 hz fz_int))
  |(apply vq_isoI h2 rfl rfl (fz3 hz fz_int fz_int))
  |refine zW (aN o1 (aN o2 (aN o3 (aN hlen hz0)))) ?_
  first
   | exact ⟨.inr trivial, _, rR, _, rfl, fun h => ⟨p1 rfl, p2 rfl, of_decide_eq_true h⟩⟩
   | exact ⟨.inr trivial, _, rR, _, rfl, by simp⟩
theorem node_16 {d : D} {t : List Nd} {x : Nd} (hT : TreeAt d t) (hx : x.Ok) (hk : KidsIn t x) (hK : x.kind = 16) : IsoB 66 [d, .agg x.row] fun b => b = true -> (x.words.length : Int) = 0 /\ ((x.nums.length : Int) = 0 /\ ∀ n ∈ x.nums, 0 <= n /\ n <= 0) /\ ∀ i, 0 <= i -> i < x.kids.length -> 6 <= (nd t (x.kid i)).kind /\ (nd t (x.kid i)).kind <= 15 := by
 refine isoB_of ?_
 have o1 := FL.one hx.w
 have o2 := FL.one hx.n
 have o3 := FL.one hx.k
 have hlen := FI.len hx.k
 have hz := hx.fz
 have hrow : x.row = [.int .i64 16, x.dw, x.dn, x.dk, .int .i64 x.pos] := by unfold Nd.row; rw [hK]
 obtain ⟨b1, h1, p1⟩ := words_ok hx (c := 0)
 obtain ⟨b2, h2, p2⟩ := nums_ok hx (c := 0) (m := 0)
 obtain ⟨b3, h3, p3⟩ := all_ok hT hx hk (f := 0) (a := 6) (b := 15)
 rw [hrow] at h1 h2 hz h3 ⊢
 cases b1 <;> cases b2
 all_goals
  refine evp_of (vf := vf66) rfl ?_
  unfold vf66; refine zE ?_
  repeat first
  |(apply vq_isoI h1 rfl rfl (fz2 hz fz_int))
  |(apply vq_isoI h2 rfl rfl (fz3 hz fz_int fz_int))
  |(apply vq_isoI h3 rfl rfl (fz5 hT.fz hz fz_int fz_int fz_int))
  |refine zW (aN o1 (aN o2 (aN o3 hlen))) ?_
  first
   | exact ⟨.inr trivial, _, rR, _, rfl, fun h => ⟨p1 rfl, p2 rfl, p3 h⟩⟩
   | exact ⟨.inr trivial, _, rR, _, rfl, by simp⟩
theorem node_17 {d : D} {t : List Nd} {x : Nd} (hT : TreeAt d t) (hx : x.Ok) (hk : KidsIn t x) (hK : x.kind = 17) : IsoB 66 [d, .agg x.row] fun b => b = true -> (x.words.length : Int) = 0 /\ ((x.nums.length : Int) = 1 /\ ∀ n ∈ x.nums, 0 <= n /\ n <= 999999) /\ x.kids = [] := by
 refine isoB_of ?_
 have o1 := FL.one hx.w
 have o2 := FL.one hx.n
 have o3 := FL.one hx.k
 have hlen := FI.len hx.k
 have hz := hx.fz
 have hrow : x.row = [.int .i64 17, x.dw, x.dn, x.dk, .int .i64 x.pos] := by unfold Nd.row; rw [hK]
 obtain ⟨b1, h1, p1⟩ := words_ok hx (c := 0)
 obtain ⟨b2, h2, p2⟩ := nums_ok hx (c := 1) (m := 999999)
 rw [hrow] at h1 h2 hz ⊢
 have hz0 : ((x.kids.length : Int) == 0) = decide (x.kids = []) := by
  rw [Bool.eq_iff_iff, beq_iff_eq, decide_eq_true_eq, <- List.length_eq_zero_iff]; omega
 cases b1 <;> cases b2
 all_goals
  refine evp_of (vf := vf66) rfl ?_
  unfold vf66; refine zE ?_
  repeat first
  |(apply vq_isoI h1 rfl rfl (fz2 hz fz_int))
  |(apply vq_isoI h2 rfl rfl (fz3 hz fz_int fz_int))
  |refine zW (aN o1 (aN o2 (aN o3 (aN hlen hz0)))) ?_
  first
   | exact ⟨.inr trivial, _, rR, _, rfl, fun h => ⟨p1 rfl, p2 rfl, of_decide_eq_true h⟩⟩
   | exact ⟨.inr trivial, _, rR, _, rfl, by simp⟩
theorem node_18 {d : D} {t : List Nd} {x : Nd} (hT : TreeAt d t) (hx : x.Ok) (hk : KidsIn t x) (hK : x.kind = 18) : IsoB 66 [d, .agg x.row] fun b => b = true -> (x.words.length : Int) = 1 /\ ((x.nums.length : Int) = 0 /\ ∀ n ∈ x.nums, 0 <= n /\ n <= 0) /\ x.kids = [] := by
 refine isoB_of ?_
 have o1 := FL.one hx.w
 have o2 := FL.one hx.n
 have o3 := FL.one hx.k
 have hlen := FI.len hx.k
 have hz := hx.fz
 have hrow : x.row = [.int .i64 18, x.dw, x.dn, x.dk, .int .i64 x.pos] := by unfold Nd.row; rw [hK]
 obtain ⟨b1, h1, p1⟩ := words_ok hx (c := 1)
 obtain ⟨b2, h2, p2⟩ := nums_ok hx (c := 0) (m := 0)
 rw [hrow] at h1 h2 hz ⊢
 have hz0 : ((x.kids.length : Int) == 0) = decide (x.kids = []) := by
  rw [Bool.eq_iff_iff, beq_iff_eq, decide_eq_true_eq, <- List.length_eq_zero_iff]; omega
 cases b1 <;> cases b2
 all_goals
  refine evp_of (vf := vf66) rfl ?_
  unfold vf66; refine zE ?_
  repeat first
  |(apply vq_isoI h1 rfl rfl (fz2 hz fz_int))
  |(apply vq_isoI h2 rfl rfl (fz3 hz fz_int fz_int))
  |refine zW (aN o1 (aN o2 (aN o3 (aN hlen hz0)))) ?_
  first
   | exact ⟨.inr trivial, _, rR, _, rfl, fun h => ⟨p1 rfl, p2 rfl, of_decide_eq_true h⟩⟩
   | exact ⟨.inr trivial, _, rR, _, rfl, by simp⟩
theorem node_19 {d : D} {t : List Nd} {x : Nd} (hT : TreeAt d t) (hx : x.Ok) (hk : KidsIn t x) (hK : x.kind = 19) : IsoB 66 [d, .agg x.row] fun b => b = true -> (x.words.length : Int) = 1 /\ ((x.nums.length : Int) = 0 /\ ∀ n ∈ x.nums, 0 <= n /\ n <= 0) /\ x.kids = [] := by
 refine isoB_of ?_
 have o1 := FL.one hx.w
 have o2 := FL.one hx.n
 have o3 := FL.one hx.k
 have hlen := FI.len hx.k
 have hz := hx.fz
 have hrow : x.row = [.int .i64 19, x.dw, x.dn, x.dk, .int .i64 x.pos] := by unfold Nd.row; rw [hK]
 obtain ⟨b1, h1, p1⟩ := words_ok hx (c := 1)
 obtain ⟨b2, h2, p2⟩ := nums_ok hx (c := 0) (m := 0)
 rw [hrow] at h1 h2 hz ⊢
 have hz0 : ((x.kids.length : Int) == 0) = decide (x.kids = []) := by
  rw [Bool.eq_iff_iff, beq_iff_eq, decide_eq_true_eq, <- List.length_eq_zero_iff]; omega
 cases b1 <;> cases b2
 all_goals
  refine evp_of (vf := vf66) rfl ?_
  unfold vf66; refine zE ?_
  repeat first
  |(apply vq_isoI h1 rfl rfl (fz2 hz fz_int))
  |(apply vq_isoI h2 rfl rfl (fz3 hz fz_int fz_int))
  |refine zW (aN o1 (aN o2 (aN o3 (aN hlen hz0)))) ?_
  first
   | exact ⟨.inr trivial, _, rR, _, rfl, fun h => ⟨p1 rfl, p2 rfl, of_decide_eq_true h⟩⟩
   | exact ⟨.inr trivial, _, rR, _, rfl, by simp⟩
theorem node_20 {d : D} {t : List Nd} {x : Nd} (hT : TreeAt d t) (hx : x.Ok) (hk : KidsIn t x) (hK : x.kind = 20) : IsoB 66 [d, .agg x.row] fun b => b = true -> (x.words.length : Int) = 0 /\ ((x.nums.length : Int) = 0 /\ ∀ n ∈ x.nums, 0 <= n /\ n <= 0) /\ 1 <= x.kids.length /\ x.kids.length <= 1 /\ ∀ i, i < x.kids.length -> (i < 1 -> 17 <= (nd t (x.kid i)).kind /\ (nd t (x.kid i)).kind <= 22) /\ (1 <= i -> (nd t (x.kid i)).kind = 16) := by
 refine isoB_of ?_
 have o1 := FL.one hx.w
 have o2 := FL.one hx.n
 have o3 := FL.one hx.k
 have hlen := FI.len hx.k
 have hz := hx.fz
 have hrow : x.row = [.int .i64 20, x.dw, x.dn, x.dk, .int .i64 x.pos] := by unfold Nd.row; rw [hK]
 obtain ⟨b1, h1, p1⟩ := words_ok hx (c := 0)
 obtain ⟨b2, h2, p2⟩ := nums_ok hx (c := 0) (m := 0)
 obtain ⟨b3, h3, p3⟩ := exprs_ok hT hx hk (f := 1) (l := 0) (m := 0) (by omega) (by omega) (by omega)
 rw [hrow] at h1 h2 hz h3 ⊢
 cases b1 <;> cases b2
 all_goals
  refine evp_of (vf := vf66) rfl ?_
  unfold vf66; refine zE ?_
  repeat first
  |(apply vq_isoI h1 rfl rfl (fz2 hz fz_int))
  |(apply vq_isoI h2 rfl rfl (fz3 hz fz_int fz_int))
  |(apply vq_isoI h3 rfl rfl (fz5 hT.fz hz fz_int fz_int fz_int))
  |refine zW (aN o1 (aN o2 (aN o3 hlen))) ?_
  first
   | exact ⟨.inr trivial, _, rR, _, rfl, fun h => ⟨p1 rfl, p2 rfl, p3 h⟩⟩
   | exact ⟨.inr trivial, _, rR, _, rfl, by simp⟩
theorem node_21 {d : D} {t : List Nd} {x : Nd} (hT : TreeAt d t) (hx : x.Ok) (hk : KidsIn t x) (hK : x.kind = 21) : IsoB 66 [d, .agg x.row] fun b => b = true -> (x.words.length : Int) = 0 /\ ((x.nums.length : Int) = 0 /\ ∀ n ∈ x.nums, 0 <= n /\ n <= 0) /\ 1 <= x.kids.length /\ x.kids.length <= 1 /\ ∀ i, i < x.kids.length -> (i < 1 -> 17 <= (nd t (x.kid i)).kind /\ (nd t (x.kid i)).kind <= 22) /\ (1 <= i -> (nd t (x.kid i)).kind = 16) := by
 refine isoB_of ?_
 have o1 := FL.one hx.w
 have o2 := FL.one hx.n
 have o3 := FL.one hx.k
 have hlen := FI.len hx.k
 have hz := hx.fz
 have hrow : x.row = [.int .i64 21, x.dw, x.dn, x.dk, .int .i64 x.pos] := by unfold Nd.row; rw [hK]
 obtain ⟨b1, h1, p1⟩ := words_ok hx (c := 0)
 obtain ⟨b2, h2, p2⟩ := nums_ok hx (c := 0) (m := 0)
 obtain ⟨b3, h3, p3⟩ := exprs_ok hT hx hk (f := 1) (l := 0) (m := 0) (by omega) (by omega) (by omega)
 rw [hrow] at h1 h2 hz h3 ⊢
 cases b1 <;> cases b2
 all_goals
  refine evp_of (vf := vf66) rfl ?_
  unfold vf66; refine zE ?_
  repeat first
  |(apply vq_isoI h1 rfl rfl (fz2 hz fz_int))
  |(apply vq_isoI h2 rfl rfl (fz3 hz fz_int fz_int))
  |(apply vq_isoI h3 rfl rfl (fz5 hT.fz hz fz_int fz_int fz_int))
  |refine zW (aN o1 (aN o2 (aN o3 hlen))) ?_
  first
   | exact ⟨.inr trivial, _, rR, _, rfl, fun h => ⟨p1 rfl, p2 rfl, p3 h⟩⟩
   | exact ⟨.inr trivial, _, rR, _, rfl, by simp⟩
theorem node_22 {d : D} {t : List Nd} {x : Nd} (hT : TreeAt d t) (hx : x.Ok) (hk : KidsIn t x) (hK : x.kind = 22) : IsoB 66 [d, .agg x.row] fun b => b = true -> (x.words.length : Int) = 0 /\ ((x.nums.length : Int) = 1 /\ ∀ n ∈ x.nums, 0 <= n /\ n <= 8) /\ 2 <= x.kids.length /\ x.kids.length <= 2 /\ ∀ i, i < x.kids.length -> (i < 2 -> 17 <= (nd t (x.kid i)).kind /\ (nd t (x.kid i)).kind <= 22) /\ (2 <= i -> (nd t (x.kid i)).kind = 16) := by
 refine isoB_of ?_
 have o1 := FL.one hx.w
 have o2 := FL.one hx.n
 have o3 := FL.one hx.k
 have hlen := FI.len hx.k
 have hz := hx.fz
 have hrow : x.row = [.int .i64 22, x.dw, x.dn, x.dk, .int .i64 x.pos] := by unfold Nd.row; rw [hK]
 obtain ⟨b1, h1, p1⟩ := words_ok hx (c := 0)
 obtain ⟨b2, h2, p2⟩ := nums_ok hx (c := 1) (m := 8)
 obtain ⟨b3, h3, p3⟩ := exprs_ok hT hx hk (f := 2) (l := 0) (m := 0) (by omega) (by omega) (by omega)
 rw [hrow] at h1 h2 hz h3 ⊢
 cases b1 <;> cases b2
 all_goals
  refine evp_of (vf := vf66) rfl ?_
  unfold vf66; refine zE ?_
  repeat first
  |(apply vq_isoI h1 rfl rfl (fz2 hz fz_int))
  |(apply vq_isoI h2 rfl rfl (fz3 hz fz_int fz_int))
  |(apply vq_isoI h3 rfl rfl (fz5 hT.fz hz fz_int fz_int fz_int))
  |refine zW (aN o1 (aN o2 (aN o3 hlen))) ?_
  first
   | exact ⟨.inr trivial, _, rR, _, rfl, fun h => ⟨p1 rfl, p2 rfl, p3 h⟩⟩
   | exact ⟨.inr trivial, _, rR, _, rfl, by simp⟩
end Go.Proofs.Ytlaeblilmppodaa
namespace Go.Proofs.Ytlaeblilmppodaa
open Go.V
set_option maxRecDepth 100000
set_option maxHeartbeats 4000000
theorem kids0 {x : Nd} : ((x.kids.length : Int) == 0) = decide (x.kids = []) := by
 rw [Bool.eq_iff_iff, beq_iff_eq, decide_eq_true_eq, <- List.length_eq_zero_iff]; omega
theorem node_1 {d : D} {t : List Nd} {x : Nd} (hT : TreeAt d t) (hx : x.Ok) (hk : KidsIn t x) (hK : x.kind = 1) : IsoB 66 [d, .agg x.row] fun b => b = true -> (x.words.length : Int) = 1 /\ ((x.nums.length : Int) = 4 /\ ∀ n ∈ x.nums, 0 <= n /\ n <= 999999) /\ x.num 2 <= 1 /\ x.num 3 <= 1 /\ x.kids = [] := by
 refine isoB_of ?_
 have o1 := FL.one hx.w
 have o2 := FL.one hx.n
 have o3 := FL.one hx.k
 have hlen := FI.len hx.k
 have hz := hx.fz
 have hrow : x.row = [.int .i64 1, x.dw, x.dn, x.dk, .int .i64 x.pos] := by unfold Nd.row; rw [hK]
 have hz0 := kids0 (x := x)
 obtain ⟨b1, h1, p1⟩ := words_ok hx (c := 1)
 obtain ⟨b2, h2, p2⟩ := nums_ok hx (c := 4) (m := 999999)
 rw [hrow] at h1 h2 hz ⊢
 cases b1
 ·refine evp_of (vf := vf66) rfl ?_
  unfold vf66; refine zE ?_
  repeat first
  |(apply vq_isoI h1 rfl rfl (fz2 hz fz_int))
  |(apply vq_isoI h2 rfl rfl (fz3 hz fz_int fz_int))
  |refine zW (aN o1 (aN o2 (aN o3 hlen))) ?_
  exact ⟨.inr trivial, _, rR, _, rfl, by simp⟩
 cases b2
 ·refine evp_of (vf := vf66) rfl ?_
  unfold vf66; refine zE ?_
  repeat first
  |(apply vq_isoI h1 rfl rfl (fz2 hz fz_int))
  |(apply vq_isoI h2 rfl rfl (fz3 hz fz_int fz_int))
  |refine zW (aN o1 (aN o2 (aN o3 hlen))) ?_
  exact ⟨.inr trivial, _, rR, _, rfl, by simp⟩
 have q2 := p2 rfl
 have l4 : x.nums.length = 4 := by omega
 have i2 : idxAV 1 x.dn (.int .i64 2) = some (.fp [.int .i64 (x.num 2)] 0) := by rw [num_get (by omega)]; exact FI.idx hx.n (i := 2) (by omega)
 have i3 : idxAV 1 x.dn (.int .i64 3) = some (.fp [.int .i64 (x.num 3)] 0) := by rw [num_get (by omega)]; exact FI.idx hx.n (i := 3) (by omega)
 by_cases c2 : x.num 2 <= 1
 ·by_cases c3 : x.num 3 <= 1
  ·refine evp_of (vf := vf66) rfl ?_
   unfold vf66; refine zE ?_
   repeat first
   |(apply vq_isoI h1 rfl rfl (fz2 hz fz_int))
   |(apply vq_isoI h2 rfl rfl (fz3 hz fz_int fz_int))
   |refine zW (aN o1 (aN o2 (aN o3 (aN hlen (aN i2 (aN i3 (aN c2 (aN c3 hz0)))))))) ?_
   exact ⟨.inr trivial, _, rR, _, rfl, fun h => ⟨p1 rfl, q2, c2, c3, by simpa using h⟩⟩
  ·refine evp_of (vf := vf66) rfl ?_
   unfold vf66; refine zE ?_
   repeat first
   |(apply vq_isoI h1 rfl rfl (fz2 hz fz_int))
   |(apply vq_isoI h2 rfl rfl (fz3 hz fz_int fz_int))
   |refine zW (aN o1 (aN o2 (aN o3 (aN hlen (aN i2 (aN i3 (aN c2 (aN c3 hz0)))))))) ?_
   exact ⟨.inr trivial, _, rR, _, rfl, by simp⟩
 ·refine evp_of (vf := vf66) rfl ?_
  unfold vf66; refine zE ?_
  repeat first
  |(apply vq_isoI h1 rfl rfl (fz2 hz fz_int))
  |(apply vq_isoI h2 rfl rfl (fz3 hz fz_int fz_int))
  |refine zW (aN o1 (aN o2 (aN o3 (aN hlen (aN i2 (aN i3 (aN c2 hz0))))))) ?_
  exact ⟨.inr trivial, _, rR, _, rfl, by simp⟩
theorem node_2 {d : D} {t : List Nd} {x : Nd} (hT : TreeAt d t) (hx : x.Ok) (hk : KidsIn t x) (hK : x.kind = 2) : IsoB 66 [d, .agg x.row] fun b => b = true -> (x.words.length : Int) = 1 /\ x.nums.length = 2 /\ -999999 <= x.num 1 /\ x.num 1 <= 999999 /\ x.kids = [] := by
 refine isoB_of ?_
 have o1 := FL.one hx.w
 have o2 := FL.one hx.n
 have o3 := FL.one hx.k
 have hlen := FI.len hx.k
 have hlen2 := FI.len hx.n
 have hz := hx.fz
 have hrow : x.row = [.int .i64 2, x.dw, x.dn, x.dk, .int .i64 x.pos] := by unfold Nd.row; rw [hK]
 have hz0 := kids0 (x := x)
 obtain ⟨b1, h1, p1⟩ := words_ok hx (c := 1)
 rw [hrow] at h1 hz ⊢
 cases b1
 ·refine evp_of (vf := vf66) rfl ?_
  unfold vf66; refine zE ?_
  repeat first
  |(apply vq_isoI h1 rfl rfl (fz2 hz fz_int))
  |refine zW (aN o1 (aN o2 (aN o3 hlen))) ?_
  exact ⟨.inr trivial, _, rR, _, rfl, by simp⟩
 by_cases l2 : x.nums.length = 2
 ·have l2' : ((x.nums.length : Int) == 2) = true := by rw [l2]; rfl
  have i0 : idxAV 1 x.dn (.int .i64 0) = some (.fp [.int .i64 (x.num 0)] 0) := by rw [num_get (by omega)]; exact FI.idx hx.n (i := 0) (by omega)
  have i1 : idxAV 1 x.dn (.int .i64 1) = some (.fp [.int .i64 (x.num 1)] 0) := by rw [num_get (by omega)]; exact FI.idx hx.n (i := 1) (by omega)
  have g0 := in_ok (k := x.num 0) (a := 0) (b := 999999)
  have g1 := in_ok (k := x.num 1) (a := -999999) (b := 999999)
  cases r0 : inR (x.num 0) 0 999999
  ·rw [r0] at g0
   refine evp_of (vf := vf66) rfl ?_
   unfold vf66; refine zE ?_
   repeat first
   |(apply vq_isoI h1 rfl rfl (fz2 hz fz_int))
   |(apply vq_isoI g0 rfl rfl rfl)
   |(apply vq_isoI g1 rfl rfl rfl)
   |refine zW (aN o1 (aN o2 (aN o3 (aN hlen (aN hlen2 (aN l2' (aN i0 (aN i1 hz0)))))))) ?_
   exact ⟨.inr trivial, _, rR, _, rfl, by simp⟩
  ·rw [r0] at g0
   cases r1 : inR (x.num 1) (-999999) 999999
   ·rw [r1] at g1
    refine evp_of (vf := vf66) rfl ?_
    unfold vf66; refine zE ?_
    repeat first
    |(apply vq_isoI h1 rfl rfl (fz2 hz fz_int))
    |(apply vq_isoI g0 rfl rfl rfl)
    |(apply vq_isoI g1 rfl rfl rfl)
    |refine zW (aN o1 (aN o2 (aN o3 (aN hlen (aN hlen2 (aN l2' (aN i0 (aN i1 hz0)))))))) ?_
    exact ⟨.inr trivial, _, rR, _, rfl, by simp⟩
   ·rw [r1] at g1
    have r1 := inR_iff.1 r1
    refine evp_of (vf := vf66) rfl ?_
    unfold vf66; refine zE ?_
    repeat first
    |(apply vq_isoI h1 rfl rfl (fz2 hz fz_int))
    |(apply vq_isoI g0 rfl rfl rfl)
    |(apply vq_isoI g1 rfl rfl rfl)
    |refine zW (aN o1 (aN o2 (aN o3 (aN hlen (aN hlen2 (aN l2' (aN i0 (aN i1 hz0)))))))) ?_
    exact ⟨.inr trivial, _, rR, _, rfl, fun h => ⟨p1 rfl, l2, r1.1, r1.2, by simpa using h⟩⟩
 ·have l2' : ((x.nums.length : Int) == 2) = false := by rw [beq_eq_false_iff_ne]; omega
  refine evp_of (vf := vf66) rfl ?_
  unfold vf66; refine zE ?_
  repeat first
  |(apply vq_isoI h1 rfl rfl (fz2 hz fz_int))
  |refine zW (aN o1 (aN o2 (aN o3 (aN hlen (aN hlen2 (aN l2' hz0)))))) ?_
  exact ⟨.inr trivial, _, rR, _, rfl, by simp⟩
theorem node_3 {d : D} {t : List Nd} {x : Nd} (hT : TreeAt d t) (hx : x.Ok) (hk : KidsIn t x) (hK : x.kind = 3) : IsoB 66 [d, .agg x.row] fun b => b = true -> (x.words.length : Int) = 1 /\ ((x.nums.length : Int) = 1 /\ ∀ n ∈ x.nums, 0 <= n /\ n <= 999999) /\ ∃ v, v <= x.kids.length /\ (∀ i, i < v -> (nd t (x.kid i)).kind = 2) /\ ∀ i, v <= i -> i < x.kids.length -> 6 <= (nd t (x.kid i)).kind /\ (nd t (x.kid i)).kind <= 15 := by
 refine isoB_of ?_
 have o1 := FL.one hx.w
 have o2 := FL.one hx.n
 have o3 := FL.one hx.k
 have hlen := FI.len hx.k
 have hz := hx.fz
 have hrow : x.row = [.int .i64 3, x.dw, x.dn, x.dk, .int .i64 x.pos] := by unfold Nd.row; rw [hK]
 obtain ⟨b1, h1, p1⟩ := words_ok hx (c := 1)
 obtain ⟨b2, h2, p2⟩ := nums_ok hx (c := 1) (m := 999999)
 rw [hrow] at h1 h2 hz ⊢
 refine evp_of (vf := vf66) rfl ?_
 unfold vf66; refine zE ?_
 try refine zW (aN o1 (aN o2 (aN o3 hlen))) ?_
 refine vw_loop_inv (Q := Out' 1 _) (fun n env s => ∃ i : Nat, i <= x.kids.length /\ n = x.kids.length - i /\ (∀ j, j < i -> (nd t (x.kid j)).kind = 2) /\ s.get 0 = some (.cells [.int .i64 3, x.dw, x.dn, x.dk, .int .i64 x.pos]) /\ (env.get 0 = d /\ env.get 3 = .ptr 0 0 /\ env.get 5 = .int .i64 (x.kids.length : Int) /\ env.get 6 = .int .i64 (i : Int))) ?_ x.kids.length _ _ ⟨0, by omega, rfl, fun j h => by omega, get_push_new rfl, by simp [Env.get, Made.at]; rfl⟩
 rintro n env s ⟨i, hi, rfl, hall, hg, hE⟩
 have fin : ∀ (env : Env) (s : Store), s.get 0 = some (.cells [.int .i64 3, x.dw, x.dn, x.dk, .int .i64 x.pos]) -> (env.get 0 = d /\ env.get 3 = .ptr 0 0 /\ env.get 6 = .int .i64 (i : Int)) -> True := fun _ _ _ _ => trivial
 obtain ⟨b3, h3, p3⟩ := all_ok hT hx hk (f := i) (a := 6) (b := 15)
 rw [hrow] at h3
 by_cases c3 : i < x.kids.length
 ·have c3' : ((i : Int) < (x.kids.length : Int)) = True := eq_true (by omega)
  have hs := succ63 c3 hx.kl
  have hki := hk _ (List.getElem_mem c3)
  have h4 := kid_ok hT hx c3 hki.1 hki.2
  rw [hrow] at h4
  by_cases c4 : (nd t (x.kid i)).kind = 2
  ·have c4' : ((nd t (x.kid i)).kind == 2) = true := by rw [c4]; rfl
   repeat first
   |(apply vq_isoI h4 rfl; (focus (simp only [Env.evL, Env.ev, Env.get, Nat.reduceEqDiff, ↓reduceIte, hE])); (focus exact fz3 hT.fz hz fz_int))
   |refine zW (aN hE (aN hg (aN o1 (aN o2 (aN o3 (aN hlen (aN c3' (aN c4' hs)))))))) ?_
   refine ⟨x.kids.length - (i + 1), by omega, i + 1, by omega, rfl, fun j h => ?_, hg, (rG hE)⟩
   by_cases e : j = i
   ·subst e; exact c4
   ·exact hall j (by omega)
  ·have c4' : ((nd t (x.kid i)).kind == 2) = false := by rw [beq_eq_false_iff_ne]; exact c4
   cases b1
   ·repeat first
    |(apply vq_isoI h4 rfl; (focus (simp only [Env.evL, Env.ev, Env.get, Nat.reduceEqDiff, ↓reduceIte, hE])); (focus exact fz3 hT.fz hz fz_int))
    |(apply vq_isoI h1 rfl rfl (fz2 hz fz_int))
    |refine zW (aN hE (aN hg (aN o1 (aN o2 (aN o3 (aN hlen (aN c3' c4'))))))) ?_
    exact ⟨.inr trivial, _, rR, _, rfl, by simp⟩
   cases b2
   ·repeat first
    |(apply vq_isoI h4 rfl; (focus (simp only [Env.evL, Env.ev, Env.get, Nat.reduceEqDiff, ↓reduceIte, hE])); (focus exact fz3 hT.fz hz fz_int))
    |(apply vq_isoI h1 rfl rfl (fz2 hz fz_int))
    |(apply vq_isoI h2 rfl rfl (fz3 hz fz_int fz_int))
    |refine zW (aN hE (aN hg (aN o1 (aN o2 (aN o3 (aN hlen (aN c3' c4'))))))) ?_
    exact ⟨.inr trivial, _, rR, _, rfl, by simp⟩
   repeat first
   |(apply vq_isoI h4 rfl; (focus (simp only [Env.evL, Env.ev, Env.get, Nat.reduceEqDiff, ↓reduceIte, hE])); (focus exact fz3 hT.fz hz fz_int))
   |(apply vq_isoI h1 rfl rfl (fz2 hz fz_int))
   |(apply vq_isoI h2 rfl rfl (fz3 hz fz_int fz_int))
   |(apply vq_isoI h3 rfl; (focus (simp only [Env.evL, Env.ev, Env.get, Nat.reduceEqDiff, ↓reduceIte, hE])); (focus exact fz5 hT.fz hz fz_int fz_int fz_int))
   |refine zW (aN hE (aN hg (aN o1 (aN o2 (aN o3 (aN hlen (aN c3' c4'))))))) ?_
   exact ⟨.inr trivial, _, rR, _, rfl, fun h => ⟨p1 rfl, p2 rfl, i, hi, hall, p3 h⟩⟩
 ·have c3' : ((i : Int) < (x.kids.length : Int)) = False := eq_false (by omega)
  cases b1
  ·repeat first
   |(apply vq_isoI h1 rfl rfl (fz2 hz fz_int))
   |refine zW (aN hE (aN hg (aN o1 (aN o2 (aN o3 (aN hlen c3')))))) ?_
   exact ⟨.inr trivial, _, rR, _, rfl, by simp⟩
  cases b2
  ·repeat first
   |(apply vq_isoI h1 rfl rfl (fz2 hz fz_int))
   |(apply vq_isoI h2 rfl rfl (fz3 hz fz_int fz_int))
   |refine zW (aN hE (aN hg (aN o1 (aN o2 (aN o3 (aN hlen c3')))))) ?_
   exact ⟨.inr trivial, _, rR, _, rfl, by simp⟩
  repeat first
  |(apply vq_isoI h1 rfl rfl (fz2 hz fz_int))
  |(apply vq_isoI h2 rfl rfl (fz3 hz fz_int fz_int))
  |(apply vq_isoI h3 rfl; (focus (simp only [Env.evL, Env.ev, Env.get, Nat.reduceEqDiff, ↓reduceIte, hE])); (focus exact fz5 hT.fz hz fz_int fz_int fz_int))
  |refine zW (aN hE (aN hg (aN o1 (aN o2 (aN o3 (aN hlen c3')))))) ?_
  exact ⟨.inr trivial, _, rR, _, rfl, fun h => ⟨p1 rfl, p2 rfl, i, hi, hall, p3 h⟩⟩
theorem node_x {d : D} {t : List Nd} {x : Nd} (hT : TreeAt d t) (hx : x.Ok) (hK : x.kind < 0 ∨ 22 < x.kind) : IsoB 66 [d, .agg x.row] fun b => b = false := by
 refine isoB_of ?_
 have o1 := FL.one hx.w
 have o2 := FL.one hx.n
 have o3 := FL.one hx.k
 have hlen := FI.len hx.k
 have ne : ∀ c : Int, 0 <= c -> c <= 22 -> (x.kind == c) = false := fun c h1 h2 => by rw [beq_eq_false_iff_ne]; omega
 have n0 := ne 0 (by omega) (by omega)
 have n1 := ne 1 (by omega) (by omega)
 have n2 := ne 2 (by omega) (by omega)
 have n3 := ne 3 (by omega) (by omega)
 have n4 := ne 4 (by omega) (by omega)
 have n5 := ne 5 (by omega) (by omega)
 have n6 := ne 6 (by omega) (by omega)
 have n7 := ne 7 (by omega) (by omega)
 have n8 := ne 8 (by omega) (by omega)
 have n9 := ne 9 (by omega) (by omega)
 have n10 := ne 10 (by omega) (by omega)
 have n11 := ne 11 (by omega) (by omega)
 have n12 := ne 12 (by omega) (by omega)
 have n13 := ne 13 (by omega) (by omega)
 have n14 := ne 14 (by omega) (by omega)
 have n15 := ne 15 (by omega) (by omega)
 have n16 := ne 16 (by omega) (by omega)
 have n17 := ne 17 (by omega) (by omega)
 have n18 := ne 18 (by omega) (by omega)
 have n19 := ne 19 (by omega) (by omega)
 have n20 := ne 20 (by omega) (by omega)
 have n21 := ne 21 (by omega) (by omega)
 have n22 := ne 22 (by omega) (by omega)
 unfold Nd.row
 refine evp_of (vf := vf66) rfl ?_
 unfold vf66; refine zE ?_
 try refine zW (aN o1 (aN o2 (aN o3 (aN hlen (aN n0 (aN n1 (aN n2 (aN n3 (aN n4 (aN n5 (aN n6 (aN n7 (aN n8 (aN n9 (aN n10 (aN n11 (aN n12 (aN n13 (aN n14 (aN n15 (aN n16 (aN n17 (aN n18 (aN n19 (aN n20 (aN n21 n22)))))))))))))))))))))))))) ?_
 exact ⟨.inr trivial, _, rR, _, rfl, rfl⟩
end Go.Proofs.Ytlaeblilmppodaa
namespace Go.Proofs.Ytlaeblilmppodaa
open Go.V
set_option maxRecDepth 100000
set_option maxHeartbeats 4000000
theorem num_in {x : Nd} {i : Nat} {m : Int} (h : i < x.nums.length) (ha : ∀ n ∈ x.nums, 0 <= n /\ n <= m) : 0 <= x.num i /\ x.num i <= m := by
 rw [num_get h]; exact ha _ (List.getElem_mem h)
theorem ks_all {t : List Nd} {x : Nd} {a b : Int} (h : ∀ i, 0 <= i -> i < x.kids.length -> a <= (nd t (x.kid i)).kind /\ (nd t (x.kid i)).kind <= b) : ∀ k ∈ x.ks, a <= (nd t k).kind /\ (nd t k).kind <= b := by
 intro k hk
 obtain ⟨i, hi, rfl⟩ := List.getElem_of_mem hk
 rw [ks_len] at hi
 have := h i (Nat.zero_le _) hi
 rw [kid_get hi] at this
 simpa [Nd.ks] using this
theorem ks_16 {t : List Nd} {x : Nd} (h : ∀ i, i < x.kids.length -> (nd t (x.kid i)).kind = 16) : ∀ k ∈ x.ks, (nd t k).kind = 16 := by
 intro k hk
 obtain ⟨i, hi, rfl⟩ := List.getElem_of_mem hk
 rw [ks_len] at hi
 have := h i hi
 rw [kid_get hi] at this
 simpa [Nd.ks] using this
theorem ks_take {t : List Nd} {x : Nd} {v : Nat} (h : ∀ i, i < v -> (nd t (x.kid i)).kind = 2) : ∀ k ∈ x.ks.take v, (nd t k).kind = 2 := by
 intro k hk
 obtain ⟨i, hi, rfl⟩ := List.getElem_of_mem hk
 have h1 : i < v /\ i < x.kids.length := by
  rw [List.length_take, ks_len] at hi
  omega
 have := h i h1.1
 rw [kid_get h1.2] at this
 simpa [Nd.ks] using this
theorem ks_drop {t : List Nd} {x : Nd} {v : Nat} (h : ∀ i, v <= i -> i < x.kids.length -> 6 <= (nd t (x.kid i)).kind /\ (nd t (x.kid i)).kind <= 15) : ∀ k ∈ x.ks.drop v, statK (nd t k).kind := by
 intro k hk
 obtain ⟨i, hi, rfl⟩ := List.getElem_of_mem hk
 rw [List.length_drop, ks_len] at hi
 have := h (v + i) (by omega) (by omega)
 rw [kid_get (by omega)] at this
 simpa [Nd.ks, statK] using this
theorem node_ok {d : D} {t : List Nd} {x : Nd} (hT : TreeAt d t) (hx : x.Ok) (hk : KidsIn t x) : IsoB 66 [d, .agg x.row] fun b => b = true -> NodeOk t x := by
 by_cases hr : x.kind < 0 ∨ 22 < x.kind
 ·obtain ⟨b, h, rfl⟩ := node_x hT hx hr
  exact ⟨false, h, by simp⟩
 have cs : x.kind = 0 ∨ x.kind = 1 ∨ x.kind = 2 ∨ x.kind = 3 ∨ x.kind = 4 ∨ x.kind = 5 ∨ x.kind = 6 ∨ x.kind = 7 ∨ x.kind = 8 ∨ x.kind = 9 ∨ x.kind = 10 ∨ x.kind = 11 ∨ x.kind = 12 ∨ x.kind = 13 ∨ x.kind = 14 ∨ x.kind = 15 ∨ x.kind = 16 ∨ x.kind = 17 ∨ x.kind = 18 ∨ x.kind = 19 ∨ x.kind = 20 ∨ x.kind = 21 ∨ x.kind = 22 := by omega
 rcases cs with hK | hK | hK | hK | hK | hK | hK | hK | hK | hK | hK | hK | hK | hK | hK | hK | hK | hK | hK | hK | hK | hK | hK
 ·obtain ⟨b, h, p⟩ := node_0 hT hx hk hK
  refine ⟨b, h, fun hb => ?_⟩
  obtain ⟨w, n, r⟩ := p hb
  exact ⟨by omega, by rw [hK, show wcount 0 = 0 from rfl]; omega, by rw [hK, show ncount 0 = 0 from rfl]; omega, fun _ => ks_all r, fun e => by omega, fun e => by omega, fun e => by omega, fun e => by omega, fun e => by omega, fun e => by omega, fun e => by omega, fun e => by omega, fun e => by omega, fun e => by omega, fun e => by omega, fun e => by omega, fun e => by omega, fun e => by omega⟩
 ·obtain ⟨b, h, p⟩ := node_1 hT hx hk hK
  refine ⟨b, h, fun hb => ?_⟩
  obtain ⟨w, n, r⟩ := p hb
  exact ⟨by omega, by rw [hK, show wcount 1 = 1 from rfl]; omega, by rw [hK, show ncount 1 = 4 from rfl]; omega, fun e => by omega, fun _ => ⟨(num_in (by omega) n.2).1, (num_in (by omega) n.2).1, (num_in (by omega) n.2).1, r.1, (num_in (by omega) n.2).1, r.2.1⟩, fun e => by omega, fun e => by omega, fun e => by omega, fun e => by omega, fun _ => r.2.2, fun e => by omega, fun e => by omega, fun e => by omega, fun e => by omega, fun e => by omega, fun e => by omega, fun e => by omega, fun e => by omega⟩
 ·obtain ⟨b, h, p⟩ := node_2 hT hx hk hK
  refine ⟨b, h, fun hb => ?_⟩
  obtain ⟨w, n, r⟩ := p hb
  exact ⟨by omega, by rw [hK, show wcount 2 = 1 from rfl]; omega, by rw [hK, show ncount 2 = 2 from rfl]; omega, fun e => by omega, fun e => by omega, fun _ => ⟨r.1, r.2.1⟩, fun e => by omega, fun e => by omega, fun e => by omega, fun _ => r.2.2, fun e => by omega, fun e => by omega, fun e => by omega, fun e => by omega, fun e => by omega, fun e => by omega, fun e => by omega, fun e => by omega⟩
 ·obtain ⟨b, h, p⟩ := node_3 hT hx hk hK
  refine ⟨b, h, fun hb => ?_⟩
  obtain ⟨w, n, r⟩ := p hb
  exact ⟨by omega, by rw [hK, show wcount 3 = 1 from rfl]; omega, by rw [hK, show ncount 3 = 1 from rfl]; omega, fun e => by omega, fun e => by omega, fun e => by omega, fun _ => by obtain ⟨v, v1, v2, v3⟩ := r; exact ⟨v, by rw [ks_len]; exact v1, ks_take v2, ks_drop v3⟩, fun _ => num_in (by omega) n.2, fun e => by omega, fun e => by omega, fun e => by omega, fun e => by omega, fun e => by omega, fun e => by omega, fun e => by omega, fun e => by omega, fun e => by omega, fun e => by omega⟩
 ·obtain ⟨b, h, p⟩ := node_4 hT hx hk hK
  refine ⟨b, h, fun hb => ?_⟩
  obtain ⟨w, n, r⟩ := p hb
  exact ⟨by omega, by rw [hK, show wcount 4 = 0 from rfl]; omega, by rw [hK, show ncount 4 = 0 from rfl]; omega, fun e => by omega, fun e => by omega, fun e => by omega, fun e => by omega, fun e => by omega, fun _ => ⟨by omega, (r.2.2 0 (by omega)).1 (by omega)⟩, fun e => by omega, fun e => by omega, fun e => by omega, fun e => by omega, fun e => by omega, fun e => by omega, fun e => by omega, fun e => by omega, fun e => by omega⟩
 ·obtain ⟨b, h, p⟩ := node_5 hT hx hk hK
  refine ⟨b, h, fun hb => ?_⟩
  obtain ⟨w, n, r⟩ := p hb
  exact ⟨by omega, by rw [hK, show wcount 5 = 0 from rfl]; omega, by rw [hK, show ncount 5 = 0 from rfl]; omega, fun e => by omega, fun e => by omega, fun e => by omega, fun e => by omega, fun e => by omega, fun e => by omega, fun _ => r, fun e => by omega, fun e => by omega, fun e => by omega, fun e => by omega, fun e => by omega, fun e => by omega, fun e => by omega, fun e => by omega⟩
 ·obtain ⟨b, h, p⟩ := node_6 hT hx hk hK
  refine ⟨b, h, fun hb => ?_⟩
  obtain ⟨w, n, r⟩ := p hb
  exact ⟨by omega, by rw [hK, show wcount 6 = 1 from rfl]; omega, by rw [hK, show ncount 6 = 0 from rfl]; omega, fun e => by omega, fun e => by omega, fun e => by omega, fun e => by omega, fun e => by omega, fun _ => ⟨by omega, (r.2.2 0 (by omega)).1 (by omega)⟩, fun e => by omega, fun e => by omega, fun e => by omega, fun e => by omega, fun e => by omega, fun e => by omega, fun e => by omega, fun e => by omega, fun e => by omega⟩
 ·obtain ⟨b, h, p⟩ := node_7 hT hx hk hK
  refine ⟨b, h, fun hb => ?_⟩
  obtain ⟨w, n, r⟩ := p hb
  exact ⟨by omega, by rw [hK, show wcount 7 = 1 from rfl]; omega, by rw [hK, show ncount 7 = 0 from rfl]; omega, fun e => by omega, fun e => by omega, fun e => by omega, fun e => by omega, fun e => by omega, fun _ => ⟨by omega, (r.2.2 0 (by omega)).1 (by omega)⟩, fun e => by omega, fun e => by omega, fun e => by omega, fun e => by omega, fun e => by omega, fun e => by omega, fun e => by omega, fun e => by omega, fun e => by omega⟩
 ·obtain ⟨b, h, p⟩ := node_8 hT hx hk hK
  refine ⟨b, h, fun hb => ?_⟩
  obtain ⟨w, n, r⟩ := p hb
  exact ⟨by omega, by rw [hK, show wcount 8 = 2 from rfl]; omega, by rw [hK, show ncount 8 = 1 from rfl]; omega, fun e => by omega, fun e => by omega, fun e => by omega, fun e => by omega, fun e => by omega, fun e => by omega, fun _ => r, fun e => by omega, fun e => by omega, fun e => by omega, fun e => by omega, fun e => by omega, fun e => by omega, fun _ => num_in (by omega) n.2, fun e => by omega⟩
 ·obtain ⟨b, h, p⟩ := node_9 hT hx hk hK
  refine ⟨b, h, fun hb => ?_⟩
  obtain ⟨w, n, r⟩ := p hb
  exact ⟨by omega, by rw [hK, show wcount 9 = 0 from rfl]; omega, by rw [hK, show ncount 9 = 1 from rfl]; omega, fun e => by omega, fun e => by omega, fun e => by omega, fun e => by omega, fun e => by omega, fun _ => ⟨by omega, (r.2.2 0 (by omega)).1 (by omega)⟩, fun e => by omega, fun e => by omega, fun e => by omega, fun e => by omega, fun e => by omega, fun e => by omega, fun e => by omega, fun _ => num_in (by omega) n.2, fun e => by omega⟩
 ·obtain ⟨b, h, p⟩ := node_10 hT hx hk hK
  refine ⟨b, h, fun hb => ?_⟩
  obtain ⟨w, n, r⟩ := p hb
  exact ⟨by omega, by rw [hK, show wcount 10 = 0 from rfl]; omega, by rw [hK, show ncount 10 = 1 from rfl]; omega, fun e => by omega, fun e => by omega, fun e => by omega, fun e => by omega, fun e => by omega, fun e => by omega, fun e => by omega, fun _ => ⟨by omega, ks_16 fun i hi => (r.2.2 i hi).2 (by omega)⟩, fun e => by omega, fun e => by omega, fun e => by omega, fun e => by omega, fun e => by omega, fun _ => num_in (by omega) n.2, fun e => by omega⟩
 ·obtain ⟨b, h, p⟩ := node_11 hT hx hk hK
  refine ⟨b, h, fun hb => ?_⟩
  obtain ⟨w, n, r⟩ := p hb
  exact ⟨by omega, by rw [hK, show wcount 11 = 0 from rfl]; omega, by rw [hK, show ncount 11 = 0 from rfl]; omega, fun e => by omega, fun e => by omega, fun e => by omega, fun e => by omega, fun e => by omega, fun e => by omega, fun e => by omega, fun e => by omega, fun _ => ⟨by omega, (r.2.2 0 (by omega)).1 (by omega), (r.2.2 1 (by omega)).2 (by omega), fun h3 => (r.2.2 2 (by omega)).2 (by omega)⟩, fun e => by omega, fun e => by omega, fun e => by omega, fun e => by omega, fun e => by omega, fun e => by omega⟩
 ·obtain ⟨b, h, p⟩ := node_12 hT hx hk hK
  refine ⟨b, h, fun hb => ?_⟩
  obtain ⟨w, n, r⟩ := p hb
  exact ⟨by omega, by rw [hK, show wcount 12 = 0 from rfl]; omega, by rw [hK, show ncount 12 = 0 from rfl]; omega, fun e => by omega, fun e => by omega, fun e => by omega, fun e => by omega, fun e => by omega, fun e => by omega, fun e => by omega, fun e => by omega, fun e => by omega, fun _ => ⟨by omega, (r.2.2 0 (by omega)).1 (by omega), (r.2.2 1 (by omega)).2 (by omega)⟩, fun e => by omega, fun e => by omega, fun e => by omega, fun e => by omega, fun e => by omega⟩
 ·obtain ⟨b, h, p⟩ := node_13 hT hx hk hK
  refine ⟨b, h, fun hb => ?_⟩
  obtain ⟨w, n, r⟩ := p hb
  exact ⟨by omega, by rw [hK, show wcount 13 = 0 from rfl]; omega, by rw [hK, show ncount 13 = 0 from rfl]; omega, fun e => by omega, fun e => by omega, fun e => by omega, fun e => by omega, fun e => by omega, fun e => by omega, fun e => by omega, fun e => by omega, fun e => by omega, fun e => by omega, fun _ => ⟨by omega, (r.2.2 0 (by omega)).2 (by omega)⟩, fun e => by omega, fun e => by omega, fun e => by omega, fun e => by omega⟩
 ·obtain ⟨b, h, p⟩ := node_14 hT hx hk hK
  refine ⟨b, h, fun hb => ?_⟩
  obtain ⟨w, n, r⟩ := p hb
  exact ⟨by omega, by rw [hK, show wcount 14 = 0 from rfl]; omega, by rw [hK, show ncount 14 = 0 from rfl]; omega, fun e => by omega, fun e => by omega, fun e => by omega, fun e => by omega, fun e => by omega, fun e => by omega, fun _ => r, fun e => by omega, fun e => by omega, fun e => by omega, fun e => by omega, fun e => by omega, fun e => by omega, fun e => by omega, fun e => by omega⟩
 ·obtain ⟨b, h, p⟩ := node_15 hT hx hk hK
  refine ⟨b, h, fun hb => ?_⟩
  obtain ⟨w, n, r⟩ := p hb
  exact ⟨by omega, by rw [hK, show wcount 15 = 0 from rfl]; omega, by rw [hK, show ncount 15 = 0 from rfl]; omega, fun e => by omega, fun e => by omega, fun e => by omega, fun e => by omega, fun e => by omega, fun e => by omega, fun _ => r, fun e => by omega, fun e => by omega, fun e => by omega, fun e => by omega, fun e => by omega, fun e => by omega, fun e => by omega, fun e => by omega⟩
 ·obtain ⟨b, h, p⟩ := node_16 hT hx hk hK
  refine ⟨b, h, fun hb => ?_⟩
  obtain ⟨w, n, r⟩ := p hb
  exact ⟨by omega, by rw [hK, show wcount 16 = 0 from rfl]; omega, by rw [hK, show ncount 16 = 0 from rfl]; omega, fun e => by omega, fun e => by omega, fun e => by omega, fun e => by omega, fun e => by omega, fun e => by omega, fun e => by omega, fun e => by omega, fun e => by omega, fun e => by omega, fun e => by omega, fun _ => ks_all r, fun e => by omega, fun e => by omega, fun e => by omega⟩
 ·obtain ⟨b, h, p⟩ := node_17 hT hx hk hK
  refine ⟨b, h, fun hb => ?_⟩
  obtain ⟨w, n, r⟩ := p hb
  exact ⟨by omega, by rw [hK, show wcount 17 = 0 from rfl]; omega, by rw [hK, show ncount 17 = 1 from rfl]; omega, fun e => by omega, fun e => by omega, fun e => by omega, fun e => by omega, fun e => by omega, fun e => by omega, fun _ => r, fun e => by omega, fun e => by omega, fun e => by omega, fun e => by omega, fun e => by omega, fun e => by omega, fun e => by omega, fun _ => num_in (by omega) n.2⟩
 ·obtain ⟨b, h, p⟩ := node_18 hT hx hk hK
  refine ⟨b, h, fun hb => ?_⟩
  obtain ⟨w, n, r⟩ := p hb
  exact ⟨by omega, by rw [hK, show wcount 18 = 1 from rfl]; omega, by rw [hK, show ncount 18 = 0 from rfl]; omega, fun e => by omega, fun e => by omega, fun e => by omega, fun e => by omega, fun e => by omega, fun e => by omega, fun _ => r, fun e => by omega, fun e => by omega, fun e => by omega, fun e => by omega, fun e => by omega, fun e => by omega, fun e => by omega, fun e => by omega⟩
 ·obtain ⟨b, h, p⟩ := node_19 hT hx hk hK
  refine ⟨b, h, fun hb => ?_⟩
  obtain ⟨w, n, r⟩ := p hb
  exact ⟨by omega, by rw [hK, show wcount 19 = 1 from rfl]; omega, by rw [hK, show ncount 19 = 0 from rfl]; omega, fun e => by omega, fun e => by omega, fun e => by omega, fun e => by omega, fun e => by omega, fun e => by omega, fun _ => r, fun e => by omega, fun e => by omega, fun e => by omega, fun e => by omega, fun e => by omega, fun e => by omega, fun e => by omega, fun e => by omega⟩
 ·obtain ⟨b, h, p⟩ := node_20 hT hx hk hK
  refine ⟨b, h, fun hb => ?_⟩
  obtain ⟨w, n, r⟩ := p hb
  exact ⟨by omega, by rw [hK, show wcount 20 = 0 from rfl]; omega, by rw [hK, show ncount 20 = 0 from rfl]; omega, fun e => by omega, fun e => by omega, fun e => by omega, fun e => by omega, fun e => by omega, fun _ => ⟨by omega, (r.2.2 0 (by omega)).1 (by omega)⟩, fun e => by omega, fun e => by omega, fun e => by omega, fun e => by omega, fun e => by omega, fun e => by omega, fun e => by omega, fun e => by omega, fun e => by omega⟩
 ·obtain ⟨b, h, p⟩ := node_21 hT hx hk hK
  refine ⟨b, h, fun hb => ?_⟩
  obtain ⟨w, n, r⟩ := p hb
  exact ⟨by omega, by rw [hK, show wcount 21 = 0 from rfl]; omega, by rw [hK, show ncount 21 = 0 from rfl]; omega, fun e => by omega, fun e => by omega, fun e => by omega, fun e => by omega, fun e => by omega, fun _ => ⟨by omega, (r.2.2 0 (by omega)).1 (by omega)⟩, fun e => by omega, fun e => by omega, fun e => by omega, fun e => by omega, fun e => by omega, fun e => by omega, fun e => by omega, fun e => by omega, fun e => by omega⟩
 ·obtain ⟨b, h, p⟩ := node_22 hT hx hk hK
  refine ⟨b, h, fun hb => ?_⟩
  obtain ⟨w, n, r⟩ := p hb
  exact ⟨by omega, by rw [hK, show wcount 22 = 0 from rfl]; omega, by rw [hK, show ncount 22 = 1 from rfl]; omega, fun e => by omega, fun e => by omega, fun e => by omega, fun e => by omega, fun e => by omega, fun e => by omega, fun e => by omega, fun e => by omega, fun e => by omega, fun e => by omega, fun e => by omega, fun e => by omega, fun _ => ⟨by omega, (r.2.2 0 (by omega)).1 (by omega), (r.2.2 1 (by omega)).1 (by omega), (num_in (by omega) n.2).1, (num_in (by omega) n.2).2⟩, fun e => by omega, fun e => by omega⟩
theorem walk_walk {d : D} {t : List Nd} (hT : TreeAt d t) (hl : t.length <= 800) : ∀ (f i : Nat), f <= 20 -> i < t.length -> Iso 65 [d, .int .i64 (i : Int), .int .i64 ((21 - f : Nat) : Int)] (.tup [.int .i64 ((walkF t f i).1 : Int), .bool (walkF t f i).2])
 | 0, i, _, hi => by
   refine iso_of ?_
   have e : (((21 - 0 : Nat)) : Int) = 21 := rfl
   rw [e]
   refine evp_of (vf := vf65) rfl ?_
   unfold vf65; refine zE ?_
   try refine zW0 ?_
   exact ⟨.inr trivial, _, rR, rfl⟩
 | f + 1, i, hf, hi => by
   refine iso_of ?_
   have hidx := hT.at (z := (i : Int)) (by omega) (by omega) (k := .i64)
   rw [Int.toNat_natCast] at hidx
   have hx := hT.nd hi
   have o1 := FL.one hx.w
   have o2 := FL.one hx.n
   have o3 := FL.one hx.k
   have hlk := FI.len hx.k
   have hlen := hT.len
   have e1 : ((20 : Int) < ((21 - (f + 1) : Nat) : Int)) = False := eq_false (by omega)
   have e2 : IntKind.i64.wrap ((i : Int) + 1) = ((i + 1 : Nat) : Int) := by rw [i64_id (by omega) (by omega)]; omega
   have e3 : IntKind.i64.wrap (((21 - (f + 1) : Nat) : Int) + 1) = ((21 - f : Nat) : Int) := by rw [i64_id (by omega) (by omega)]; omega
   have key : ∀ (n : Nat) (P : Nat × Bool), walkF t (f + 1) i = P -> True := fun _ _ _ => trivial
   refine evp_of (vf := vf65) rfl ?_
   unfold vf65; refine zE ?_
   try refine zW (aN e1 e2) ?_
   refine vw_loop_inv (Q := Out' 0 _) (fun n env s => ∃ j next : Nat, j <= (nd t i).kids.length /\ n = (nd t i).kids.length - j /\ next <= t.length /\ walkF t (f + 1) i = kidsF (walkF t f) t.length ((nd t i).kids.drop j) next /\ (env.get 0 = d /\ env.get 1 = .int .i64 (i : Int) /\ env.get 2 = .int .i64 ((21 - (f + 1) : Nat) : Int) /\ env.get 8 = .int .i64 (next : Int) /\ env.get 9 = .int .i64 (j : Int))) ?_ (nd t i).kids.length _ _ ⟨0, i + 1, by omega, rfl, by omega, rfl, by simp [Env.get]⟩
   rintro n env s ⟨j, next, hj, rfl, hn, hw, hE⟩
   by_cases c1 : j < (nd t i).kids.length
   ·have c1' : ((j : Int) < ((nd t i).kids.length : Int)) = True := eq_true (by omega)
    have hki := FI.idx hx.k c1 (k := .i64)
    have hs := succ63 c1 hx.kl
    rw [List.drop_eq_getElem_cons c1] at hw
    unfold kidsF at hw
    by_cases c2 : (nd t i).kids[j] = (next : Int)
    ·have c2' : ((nd t i).kids[j] != (next : Int)) = false := by rw [c2]; simp
     by_cases c3 : next < t.length
     ·have c3' : ((t.length : Int) <= (next : Int)) = False := eq_false (by omega)
      rw [if_neg (by omega)] at hw
      have hrec := walk_walk hT hl f next (by omega) c3
      obtain ⟨s1, hrec⟩ := hrec
      have hwl := walk_le f c3
      cases hb : (walkF t f next).2
      ·rw [hb] at hrec hw
       rw [if_neg (by simp)] at hw
       repeat first
       |(refine vq_iso' (l := [d, .int .i64 (next : Int), .int .i64 ((21 - f : Nat) : Int)]) ?_ (fz3 hT.fz fz_int fz_int) hrec rfl rfl ?_; (focus (simp only [Env.evL, Env.ev, Env.get, Nat.reduceEqDiff, ↓reduceIte, hE])))
       |refine zW (aN hE (aN e1 (aN hidx (aN o1 (aN o2 (aN o3 (aN hlk (aN hlen (aN c1' (aN hki (aN c2' (aN c3' e3)))))))))))) ?_
       exact ⟨.inr trivial, _, rR, by rw [hw]⟩
      ·rw [hb] at hrec hw
       rw [if_pos rfl] at hw
       repeat first
       |(refine vq_iso' (l := [d, .int .i64 (next : Int), .int .i64 ((21 - f : Nat) : Int)]) ?_ (fz3 hT.fz fz_int fz_int) hrec rfl rfl ?_; (focus (simp only [Env.evL, Env.ev, Env.get, Nat.reduceEqDiff, ↓reduceIte, hE])))
       |refine zW (aN hE (aN e1 (aN hidx (aN o1 (aN o2 (aN o3 (aN hlk (aN hlen (aN c1' (aN hki (aN c2' (aN c3' (aN e3 hs))))))))))))) ?_
       exact ⟨(nd t i).kids.length - (j + 1), by omega, j + 1, (walkF t f next).1, by omega, rfl, hwl, hw, (rG hE)⟩
     ·have c3' : ((t.length : Int) <= (next : Int)) = True := eq_true (by omega)
      rw [if_pos (by omega)] at hw
      try refine zW (aN hE (aN e1 (aN hidx (aN o1 (aN o2 (aN o3 (aN hlk (aN hlen (aN c1' (aN hki (aN c2' c3'))))))))))) ?_
      exact ⟨.inr trivial, _, rR, by rw [hw]⟩
    ·have c2' : ((nd t i).kids[j] != (next : Int)) = true := by rw [bne_iff_ne]; exact c2
     rw [if_pos (by omega)] at hw
     try refine zW (aN hE (aN e1 (aN hidx (aN o1 (aN o2 (aN o3 (aN hlk (aN hlen (aN c1' (aN hki c2')))))))))) ?_
     exact ⟨.inr trivial, _, rR, by rw [hw]⟩
   ·have c1' : ((j : Int) < ((nd t i).kids.length : Int)) = False := eq_false (by omega)
    rw [List.drop_eq_nil_of_le (by omega)] at hw
    try refine zW (aN hE (aN e1 (aN hidx (aN o1 (aN o2 (aN o3 (aN hlk (aN hlen c1')))))))) ?_
    exact ⟨.inr trivial, _, rR, by rw [hw]; rfl⟩
theorem small_ok {d : D} {t : List Nd} (hT : TreeAt d t) : IsoB 36 [d] fun _ => True := by
 refine isoB_of ?_
 have hlen := hT.len
 refine evp_of (vf := vf36) rfl ?_
 unfold vf36; refine zE ?_
 try refine zW hlen ?_
 refine vw_loop_inv (Q := Out' 0 _) (fun n env s => ∃ (i : Nat) (m : Int), i <= t.length /\ n = t.length - i /\ (env.get 0 = d /\ env.get 3 = .int .i64 m /\ env.get 4 = .int .i64 (i : Int))) ?_ t.length _ _ ⟨0, _, by omega, rfl, by simp [Env.get]; rfl⟩
 rintro n env s ⟨i, m, hi, rfl, hE⟩
 by_cases c1 : i < t.length
 ·have c1' : ((i : Int) < (t.length : Int)) = True := eq_true (by omega)
  have hs := succ63 c1 hT.le
  have hidx := hT.at (z := (i : Int)) (by omega) (by omega) (k := .i64)
  rw [Int.toNat_natCast] at hidx
  have hx := hT.nd c1
  have o1 := FL.one hx.w
  have o2 := FL.one hx.n
  have o3 := FL.one hx.k
  have l1 := FS.len hx.w
  have l2 := FI.len hx.n
  have l3 := FI.len hx.k
  by_cases c2 : m <= 1500
  ·try refine zW (aN hE (aN hlen (aN c1' (aN c2 (aN hidx (aN o1 (aN o2 (aN o3 (aN l1 (aN l2 (aN l3 hs))))))))))) ?_
   exact ⟨t.length - (i + 1), by omega, i + 1, _, by omega, rfl, by simp only [Env.get, Nat.reduceEqDiff, ↓reduceIte, hE, and_self, true_and, and_true]; rfl⟩
  ·try refine zW (aN hE (aN hlen (aN c1' c2))) ?_
   exact ⟨.inr trivial, _, rR, _, rfl, trivial⟩
 ·have c1' : ((i : Int) < (t.length : Int)) = False := eq_false (by omega)
  try refine zW (aN hE (aN hlen c1')) ?_
  exact ⟨.inr trivial, _, rR, _, rfl, trivial⟩
theorem right_ok {d : D} {t : List Nd} (hT : TreeAt d t) : IsoB 37 [d] fun b => b = true -> RightT t := by
 refine isoB_of ?_
 have hlen := hT.len
 by_cases c1 : t.length = 0
 ·have c1' : ((t.length : Int) == 0) = true := by rw [c1]; rfl
  refine evp_of (vf := vf37) rfl ?_
  unfold vf37; refine zE ?_
  try refine zW (aN hlen c1') ?_
  exact ⟨.inr trivial, _, rR, _, rfl, by simp⟩
 have c1' : ((t.length : Int) == 0) = false := by rw [beq_eq_false_iff_ne]; omega
 by_cases c2 : 800 < t.length
 ·have c2' : ((800 : Int) < (t.length : Int)) = True := eq_true (by omega)
  refine evp_of (vf := vf37) rfl ?_
  unfold vf37; refine zE ?_
  try refine zW (aN hlen (aN c1' c2')) ?_
  exact ⟨.inr trivial, _, rR, _, rfl, by simp⟩
 have c2' : ((800 : Int) < (t.length : Int)) = False := eq_false (by omega)
 have h0 := hT.at (z := 0) (by omega) (by omega) (k := .i64)
 have x0 := hT.nd (i := 0) (by omega)
 have z0 : (0 : Int).toNat = 0 := rfl
 rw [z0] at h0
 have o1 := FL.one x0.w
 have o2 := FL.one x0.n
 have o3 := FL.one x0.k
 by_cases c3 : (nd t 0).kind = 0
 ·have c3' : ((nd t 0).kind != 0) = false := by rw [c3]; rfl
  obtain ⟨s1, hw⟩ := walk_walk hT (by omega) 20 0 (by omega) (by omega)
  have e21 : ((21 - 20 : Nat) : Int) = 1 := rfl
  have e00 : ((0 : Nat) : Int) = 0 := rfl
  rw [e21, e00] at hw
  cases hb : (walkF t 20 0).2
  ·rw [hb] at hw
   refine evp_of (vf := vf37) rfl ?_
   unfold vf37; refine zE ?_
   repeat first
   |(refine vq_iso' (l := [d, .int .i64 0, .int .i64 1]) rfl (fz3 hT.fz fz_int fz_int) hw rfl rfl ?_)
   |refine zW (aN hlen (aN c1' (aN c2' (aN h0 (aN o1 (aN o2 (aN o3 c3'))))))) ?_
   exact ⟨.inr trivial, _, rR, _, rfl, by simp⟩
  ·rw [hb] at hw
   by_cases c4 : (walkF t 20 0).1 = t.length
   ·have c4' : (((walkF t 20 0).1 : Int) != (t.length : Int)) = false := by rw [c4]; simp
    have hfull : walkF t 20 0 = (t.length, true) := by rw [<- c4, <- hb]
    obtain ⟨hsub, hsubs⟩ := walk_ok 20 (by omega) hfull
    have hbe : ∀ i, i < t.length -> ∀ k ∈ (nd t i).kids, (i : Int) < k /\ k < (t.length : Int) := fun i hi k hk => hsub.down i (by omega) hi k hk
    refine evp_of (vf := vf37) rfl ?_
    unfold vf37; refine zE ?_
    repeat first
    |(refine vq_iso' (l := [d, .int .i64 0, .int .i64 1]) rfl (fz3 hT.fz fz_int fz_int) hw rfl rfl ?_)
    |refine zW (aN hlen (aN c1' (aN c2' (aN h0 (aN o1 (aN o2 (aN o3 (aN c3' c4')))))))) ?_
    refine vw_loop_inv (Q := Out' 0 _) (fun n env s => ∃ i : Nat, i <= t.length /\ n = t.length - i /\ (∀ j, j < i -> NodeOk t (nd t j)) /\ (env.get 0 = d /\ env.get 5 = .int .i64 (i : Int))) ?_ t.length _ _ ⟨0, by omega, rfl, fun j h => by omega, by simp [Env.get]⟩
    rintro n env s ⟨i, hi, rfl, hall, hE⟩
    by_cases c5 : i < t.length
    ·have c5' : ((i : Int) < (t.length : Int)) = True := eq_true (by omega)
     have hs := succ63 c5 hT.le
     have hidx := hT.at (z := (i : Int)) (by omega) (by omega) (k := .i64)
     rw [Int.toNat_natCast] at hidx
     have hx := hT.nd c5
     have p1 := FL.one hx.w
     have p2 := FL.one hx.n
     have p3 := FL.one hx.k
     obtain ⟨b, hn, hp⟩ := node_ok hT hx (fun k hk => by have := hbe i c5 k hk; omega)
     have hz := hx.fz
     unfold Nd.row at hn hz
     cases b
     ·repeat first
      |(apply vq_isoI hn rfl; (focus (simp only [Env.evL, Env.ev, Env.get, Nat.reduceEqDiff, ↓reduceIte, hE])); (focus exact fz2 hT.fz hz))
      |refine zW (aN hE (aN hlen (aN c5' (aN hidx (aN p1 (aN p2 p3)))))) ?_
      exact ⟨.inr trivial, _, rR, _, rfl, by simp⟩
     ·repeat first
      |(apply vq_isoI hn rfl; (focus (simp only [Env.evL, Env.ev, Env.get, Nat.reduceEqDiff, ↓reduceIte, hE])); (focus exact fz2 hT.fz hz))
      |refine zW (aN hE (aN hlen (aN c5' (aN hidx (aN p1 (aN p2 (aN p3 hs))))))) ?_
      refine ⟨t.length - (i + 1), by omega, i + 1, by omega, rfl, fun j h => ?_, (rG hE)⟩
      by_cases e : j = i
      ·subst e; exact hp rfl
      ·exact hall j (by omega)
    ·have c5' : ((i : Int) < (t.length : Int)) = False := eq_false (by omega)
     try refine zW (aN hE (aN hlen c5')) ?_
     exact ⟨.inr trivial, _, rR, _, rfl, fun _ => ⟨⟨by omega, by omega, c3, hbe, fun j h => hall j (by omega)⟩, hsubs, hfull⟩⟩
   ·have c4' : (((walkF t 20 0).1 : Int) != (t.length : Int)) = true := by rw [bne_iff_ne]; omega
    refine evp_of (vf := vf37) rfl ?_
    unfold vf37; refine zE ?_
    repeat first
    |(refine vq_iso' (l := [d, .int .i64 0, .int .i64 1]) rfl (fz3 hT.fz fz_int fz_int) hw rfl rfl ?_)
    |refine zW (aN hlen (aN c1' (aN c2' (aN h0 (aN o1 (aN o2 (aN o3 (aN c3' c4')))))))) ?_
    exact ⟨.inr trivial, _, rR, _, rfl, by simp⟩
 ·have c3' : ((nd t 0).kind != 0) = true := by rw [bne_iff_ne]; exact c3
  refine evp_of (vf := vf37) rfl ?_
  unfold vf37; refine zE ?_
  try refine zW (aN hlen (aN c1' (aN c2' (aN h0 (aN o1 (aN o2 (aN o3 c3'))))))) ?_
  exact ⟨.inr trivial, _, rR, _, rfl, by simp⟩
end Go.Proofs.Ytlaeblilmppodaa
namespace Go.Proofs.Ytlaeblilmppodaa
open Go.V
set_option maxRecDepth 100000
set_option maxHeartbeats 4000000
theorem rd_fs {d : D} {l : List ByteArray} (h : Rd Store.empty d (l.map .str)) : FS d l := by
 rcases h with ⟨rfl, h⟩ | rfl | ⟨id, off, cs, rfl, h, _⟩
 ·left; exact ⟨rfl, by simpa using h⟩
 ·right; simp
 ·simp at h
theorem sl_fs {s : Store} {d : D} {l : List ByteArray} {ids : List Nat} (h : Sl s d (l.map .str) ids) : ∃ d', V.ice s.get 20 d = some d' /\ FS d' l := by
 obtain ⟨d', h1, h2⟩ := h.rd.ice (by simp [scal1])
 exact ⟨d', h1, rd_fs h2⟩
theorem take_inB {l : List ByteArray} {x : ByteArray} {i : Nat} (h : i < l.length) : inB (l.take (i + 1)) x = (inB (l.take i) x || decide (l[i] = x)) := by
 unfold inB
 rw [List.take_succ_eq_append_getElem h, List.any_append]; simp
theorem in11_ok {d : D} {l : List ByteArray} {x : ByteArray} (hd : FS d l) (hl : l.length <= maxLen) : Iso 120 [d, .str x] (.bool (inB l x)) := by
 refine iso_of ?_
 have hlen := FS.len hd
 refine evp_of (vf := vf120) rfl ?_
 unfold vf120; refine zE ?_
 try refine zW0 ?_
 refine vw_loop_inv (Q := Out' 0 _) (fun n env s => ∃ i : Nat, i <= l.length /\ n = l.length - i /\ inB (l.take i) x = false /\ (env.get 0 = d /\ env.get 1 = .str x /\ env.get 5 = .int .i64 (i : Int))) ?_ l.length _ _ ⟨0, by omega, rfl, by simp [inB], by simp [Env.get]⟩
 rintro n env s ⟨i, hi, rfl, hn, hE⟩
 by_cases c1 : i < l.length
 ·have c1' : ((i : Int) < (l.length : Int)) = True := eq_true (by omega)
  have hs := succ63 c1 hl
  have hidx := FS.idx hd c1 (k := .i64)
  have ht := take_inB (x := x) c1
  rw [hn] at ht
  by_cases c2 : l[i] = x
  ·try refine zW (aN hE (aN hlen (aN c1' (aN hidx c2)))) ?_
   refine ⟨.inr trivial, _, rR, ?_⟩
   have : inB l x = true := by rw [inB_iff]; exact c2 ▸ List.getElem_mem c1
   rw [this]
  ·rw [decide_eq_false c2] at ht
   try refine zW (aN hE (aN hlen (aN c1' (aN hidx (aN c2 hs))))) ?_
   exact ⟨l.length - (i + 1), by omega, i + 1, by omega, rfl, by rw [ht]; rfl, (rG hE)⟩
 ·have c1' : ((i : Int) < (l.length : Int)) = False := eq_false (by omega)
  rw [List.take_of_length_le (by omega)] at hn
  try refine zW (aN hE (aN hlen c1')) ?_
  exact ⟨.inr trivial, _, rR, by rw [hn]⟩
theorem item_ok {d : D} {t : List Nd} (hT : TreeAt d t) (hR : RightT t) {i : Nat} (hi : i < t.length) : Iso 124 [d, .int .i64 (i : Int)] (.int .i64 (item t i : Int)) := by
 refine iso_of ?_
 have hp := hR.ok.pos
 have h0 := hT.at (z := 0) (by omega) (by omega) (k := .i64)
 have x0 := hT.nd (i := 0) (by omega)
 have z0 : (0 : Int).toNat = 0 := rfl
 rw [z0] at h0
 have o1 := FL.one x0.w
 have o2 := FL.one x0.n
 have o3 := FL.one x0.k
 have hlk := FI.len x0.k
 refine evp_of (vf := vf124) rfl ?_
 unfold vf124; refine zE ?_
 try refine zW0 ?_
 refine vw_loop_inv (Q := Out' 0 _) (fun n env s => ∃ j out : Nat, j <= (nd t 0).kids.length /\ n = (nd t 0).kids.length - j /\ item t i = itemF ((nd t 0).kids.drop j) i out /\ (env.get 0 = d /\ env.get 1 = .int .i64 (i : Int) /\ env.get 5 = .int .i64 (out : Int) /\ env.get 6 = .int .i64 (j : Int))) ?_ (nd t 0).kids.length _ _ ⟨0, 0, by omega, rfl, rfl, by simp [Env.get]⟩
 rintro n env s ⟨j, out, hj, rfl, hw, hE⟩
 by_cases c1 : j < (nd t 0).kids.length
 ·have c1' : ((j : Int) < ((nd t 0).kids.length : Int)) = True := eq_true (by omega)
  have hki := FI.idx x0.k c1 (k := .i64)
  have hs := succ63 c1 x0.kl
  have hkr := hR.ok.kids 0 hp _ (List.getElem_mem c1)
  rw [List.drop_eq_getElem_cons c1] at hw
  unfold itemF at hw
  by_cases c2 : (nd t 0).kids[j] <= (i : Int)
  ·rw [if_pos c2] at hw
   have hk : (((nd t 0).kids[j].toNat : Nat) : Int) = (nd t 0).kids[j] := Int.toNat_of_nonneg (by omega)
   try refine zW (aN hE (aN h0 (aN o1 (aN o2 (aN o3 (aN hlk (aN c1' (aN hki (aN c2 hs))))))))) ?_
   exact ⟨(nd t 0).kids.length - (j + 1), by omega, j + 1, _, by omega, rfl, hw, by simp only [Env.get, Nat.reduceEqDiff, ↓reduceIte, hE, hk, and_self]⟩
  ·rw [if_neg c2] at hw
   try refine zW (aN hE (aN h0 (aN o1 (aN o2 (aN o3 (aN hlk (aN c1' (aN hki (aN c2 hs))))))))) ?_
   exact ⟨(nd t 0).kids.length - (j + 1), by omega, j + 1, _, by omega, rfl, hw, (rG hE)⟩
 ·have c1' : ((j : Int) < ((nd t 0).kids.length : Int)) = False := eq_false (by omega)
  rw [List.drop_eq_nil_of_le (by omega)] at hw
  try refine zW (aN hE (aN h0 (aN o1 (aN o2 (aN o3 (aN hlk c1')))))) ?_
  exact ⟨.inr trivial, _, rR, by rw [hw]; rfl⟩
theorem names_len (t : List Nd) (at' : Nat) (kind : Int) : ∀ n, (namesF t at' kind n).length <= n
 | 0 => Nat.le_refl _
 | n + 1 => by
   have := names_len t at' kind n
   rw [namesF]
   split
   ·simp; exact this
   ·omega
def IsoS (f : Nat) (l : List D) (x : List ByteArray) : Prop := ∃ s1 r d', Ev vfs f l Store.empty r s1 /\ V.ice s1.get 20 r = some d' /\ FS d' x
theorem vq_isoS {pairs i t f args rest s Q} {env : Env} {l : List D} {x : List ByteArray} (hr : IsoS f l x) (hl : env.evL args = l) (ha : mapO (V.ice s.get 20) l = some l) (hp : pureL l = true)
 (h : ∀ d, FS d x -> WQ vfs pairs rest ((t, d) :: env) s Q) : WQ vfs pairs ((i, ⟨some t, .m (.call .iso (.cst (.fn f [])) args), none⟩) :: rest) env s Q := by
 obtain ⟨s1, r, d', h1, h2, h3⟩ := hr
 exact vq_iso' hl ha h1 h2 (by rw [hp, Bool.or_true]) (h d' h3)
theorem names_ok {d : D} {t : List Nd} (hT : TreeAt d t) (hR : RightT t) {i : Nat} (hi : i < t.length) {kind : Int} (hk : kind = 1 ∨ kind = 2 ∨ kind = 3) : IsoS 119 [d, .int .i64 (i : Int), .int .i64 kind] (namesF t i kind i) := by
 have main : EvP vfs 119 [d, .int .i64 (i : Int), .int .i64 kind] Store.empty fun r s' => ∃ ids, Sl s' r ((namesF t i kind i).map .str) ids := by
  have hit := item_ok hT hR hi
  have hle := hR.ok.le
  refine evp_of (vf := vf119) rfl ?_
  unfold vf119; refine zE ?_
  repeat first
  |(apply vq_isoI hit rfl rfl (fz2 hT.fz fz_int))
  |refine zW0 ?_
  refine vw_loop_inv (Q := Out' 0 _) (fun n env s => ∃ (j : Nat) (dn : D) (ids : List Nat), j <= i /\ n = i - j /\ Sl s dn ((namesF t i kind j).map .str) ids /\ (env.get 0 = d /\ env.get 1 = .int .i64 (i : Int) /\ env.get 2 = .int .i64 kind /\ env.get 7 = dn /\ env.get 8 = .int .i64 (item t i : Int) /\ env.get 9 = .int .i64 (j : Int))) ?_ i _ _ ⟨0, .nils, [], by omega, rfl, .inl ⟨rfl, rfl, rfl⟩, by simp [Env.get]⟩
  rintro n env s ⟨j, dn, ids, hj, rfl, hS, hE⟩
  have hnl := names_len t i kind j
  by_cases c1 : j < i
  ·have c1' : ((j : Int) < (i : Int)) = True := eq_true (by omega)
   have hs : IntKind.i64.wrap ((j : Int) + 1) = ((j + 1 : Nat) : Int) := by rw [i64_id (by omega) (by omega)]; omega
   have hidx := hT.at (z := (j : Int)) (by omega) (by omega) (k := .i64)
   rw [Int.toNat_natCast] at hidx
   have hx := hT.nd (i := j) (by omega)
   have o1 := FL.one hx.w
   have o2 := FL.one hx.n
   have o3 := FL.one hx.k
   have hnode := hR.ok.node j (by omega)
   have hitj := item_ok hT hR (i := j) (by omega)
   by_cases c2 : (nd t j).kind = kind
   ·have c2' : ((nd t j).kind != kind) = false := by rw [c2]; simp
    have hwl : (nd t j).words.length = 1 := by
     rw [hnode.wl, c2]
     rcases hk with rfl | rfl | rfl <;> rfl
    have hw0 : idxAV 1 (nd t j).dw (.int .i64 0) = some (.fp [.str ((nd t j).word 0)] 0) := by
     rw [word_get (by omega)]; exact FS.idx hx.w (i := 0) (by omega)
    obtain ⟨dn', hi1, hi2⟩ := sl_fs hS
    obtain ⟨s1, hin⟩ := in11_ok (x := (nd t j).word 0) hi2 (by have : maxLen = 9223372036854775807 := rfl; omega)
    obtain ⟨s', d', e1, e2, e3, e4⟩ := hS.push1 (.str ((nd t j).word 0)) (bytes := 16) (by decide) (by rw [List.length_map]; omega)
    have hone := hS.one
    by_cases b1 : item t j = j
    ·have c3 : item t j = j ∨ item t j = item t i := .inl b1
     have b1' : (item t j = j) = True := eq_true b1
     cases hr : inB (namesF t i kind j) ((nd t j).word 0)
     ·rw [hr] at hin
      repeat first
      |(apply vq_isoI hitj rfl; (focus (simp only [Env.evL, Env.ev, Env.get, Nat.reduceEqDiff, ↓reduceIte, hE])); (focus exact fz2 hT.fz fz_int))
      |(refine vq_isoL (l := [dn, .str ((nd t j).word 0)]) hin rfl ?_ ?_ ?_; (focus (simp only [Env.evL, Env.ev, Env.get, Nat.reduceEqDiff, ↓reduceIte, hE])); (focus (simp only [mapO, hi1]; rfl)))
      |(apply vq_append'; (focus (simp only [Env.ev, Env.get, Nat.reduceEqDiff, ↓reduceIte, hE]; rfl)); (focus rfl); (focus exact e1))
      |refine zW (aN hE (aN c1' (aN hidx (aN o1 (aN o2 (aN o3 (aN c2' (aN b1' (aN hw0 (aN hs hone)))))))))) ?_
      refine ⟨i - (j + 1), by omega, j + 1, d', [s.next + 1], by omega, rfl, ?_, (rG hE)⟩
      rw [namesF, if_pos ⟨c2, c3, hr⟩, List.map_append]
      exact e2
     ·rw [hr] at hin
      repeat first
      |(apply vq_isoI hitj rfl; (focus (simp only [Env.evL, Env.ev, Env.get, Nat.reduceEqDiff, ↓reduceIte, hE])); (focus exact fz2 hT.fz fz_int))
      |(refine vq_isoL (l := [dn, .str ((nd t j).word 0)]) hin rfl ?_ ?_ ?_; (focus (simp only [Env.evL, Env.ev, Env.get, Nat.reduceEqDiff, ↓reduceIte, hE])); (focus (simp only [mapO, hi1]; rfl)))
      |refine zW (aN hE (aN c1' (aN hidx (aN o1 (aN o2 (aN o3 (aN c2' (aN b1' (aN hw0 (aN hs hone)))))))))) ?_
      refine ⟨i - (j + 1), by omega, j + 1, dn, ids, by omega, rfl, ?_, (rG hE)⟩
      rw [namesF, if_neg (by rw [hr]; simp)]
      exact hS
    ·have b1' : (item t j = j) = False := eq_false b1
     by_cases b2 : item t j = item t i
     ·have b2' : (item t j = item t i) = True := eq_true b2
      have c3 : item t j = j ∨ item t j = item t i := .inr b2
      cases hr : inB (namesF t i kind j) ((nd t j).word 0)
      ·rw [hr] at hin
       repeat first
       |(apply vq_isoI hitj rfl; (focus (simp only [Env.evL, Env.ev, Env.get, Nat.reduceEqDiff, ↓reduceIte, hE])); (focus exact fz2 hT.fz fz_int))
       |(refine vq_isoL (l := [dn, .str ((nd t j).word 0)]) hin rfl ?_ ?_ ?_; (focus (simp only [Env.evL, Env.ev, Env.get, Nat.reduceEqDiff, ↓reduceIte, hE])); (focus (simp only [mapO, hi1]; rfl)))
       |(apply vq_append'; (focus (simp only [Env.ev, Env.get, Nat.reduceEqDiff, ↓reduceIte, hE]; rfl)); (focus rfl); (focus exact e1))
       |refine zW (aN hE (aN c1' (aN hidx (aN o1 (aN o2 (aN o3 (aN c2' (aN b1' (aN b2' (aN hw0 (aN hs hone))))))))))) ?_
       refine ⟨i - (j + 1), by omega, j + 1, d', [s.next + 1], by omega, rfl, ?_, (rG hE)⟩
       rw [namesF, if_pos ⟨c2, c3, hr⟩, List.map_append]
       exact e2
      ·rw [hr] at hin
       repeat first
       |(apply vq_isoI hitj rfl; (focus (simp only [Env.evL, Env.ev, Env.get, Nat.reduceEqDiff, ↓reduceIte, hE])); (focus exact fz2 hT.fz fz_int))
       |(refine vq_isoL (l := [dn, .str ((nd t j).word 0)]) hin rfl ?_ ?_ ?_; (focus (simp only [Env.evL, Env.ev, Env.get, Nat.reduceEqDiff, ↓reduceIte, hE])); (focus (simp only [mapO, hi1]; rfl)))
       |refine zW (aN hE (aN c1' (aN hidx (aN o1 (aN o2 (aN o3 (aN c2' (aN b1' (aN b2' (aN hw0 (aN hs hone))))))))))) ?_
       refine ⟨i - (j + 1), by omega, j + 1, dn, ids, by omega, rfl, ?_, (rG hE)⟩
       rw [namesF, if_neg (by rw [hr]; simp)]
       exact hS
     ·have b2' : (item t j = item t i) = False := eq_false b2
      repeat first
      |(apply vq_isoI hitj rfl; (focus (simp only [Env.evL, Env.ev, Env.get, Nat.reduceEqDiff, ↓reduceIte, hE])); (focus exact fz2 hT.fz fz_int))
      |refine zW (aN hE (aN c1' (aN hidx (aN o1 (aN o2 (aN o3 (aN c2' (aN b1' (aN b2' hs))))))))) ?_
      refine ⟨i - (j + 1), by omega, j + 1, dn, ids, by omega, rfl, ?_, (rG hE)⟩
      rw [namesF, if_neg fun h => by rcases h.2.1 with h | h; exact b1 h; exact b2 h]
      exact hS
   ·have c2' : ((nd t j).kind != kind) = true := by rw [bne_iff_ne]; exact c2
    try refine zW (aN hE (aN c1' (aN hidx (aN o1 (aN o2 (aN o3 (aN c2' hs))))))) ?_
    refine ⟨i - (j + 1), by omega, j + 1, dn, ids, by omega, rfl, ?_, (rG hE)⟩
    rw [namesF, if_neg fun h => c2 h.1]
    exact hS
  ·have c1' : ((j : Int) < (i : Int)) = False := eq_false (by omega)
   obtain rfl : j = i := by omega
   try refine zW (aN hE c1') ?_
   exact ⟨.inr trivial, _, rR, ids, hS⟩
 obtain ⟨r, s', h, ids, hS⟩ := main
 obtain ⟨d', h1, h2⟩ := sl_fs hS
 exact ⟨s', r, d', h, h1, h2⟩
end Go.Proofs.Ytlaeblilmppodaa
namespace Go.Proofs.Ytlaeblilmppodaa
open Go.V
set_option maxRecDepth 100000
set_option maxHeartbeats 4000000
structure GoodAt (t : List Nd) (i : Nat) : Prop where
 use : (nd t i).kind = 6 ∨ (nd t i).kind = 18 -> Seen t 2 i ((nd t i).word 0)
 chan : (nd t i).kind = 7 ∨ (nd t i).kind = 19 ∨ (nd t i).kind = 8 -> Seen t 1 i ((nd t i).word 0)
 recv : (nd t i).kind = 8 -> Seen t 2 i ((nd t i).word 1)
 once : (nd t i).kind = 1 ∨ (nd t i).kind = 2 ∨ (nd t i).kind = 3 -> ¬ Seen t 1 i ((nd t i).word 0) /\ ¬ Seen t 2 i ((nd t i).word 0) /\ ¬ Seen t 3 i ((nd t i).word 0)
theorem seen_in {t : List Nd} {i : Nat} {k : Int} {s : ByteArray} : inB (namesF t i k i) s = true ↔ Seen t k i s := by rw [inB_iff, mem_names]; rfl
theorem seen_no {t : List Nd} {i : Nat} {k : Int} {s : ByteArray} : inB (namesF t i k i) s = false ↔ ¬ Seen t k i s := by rw [<- seen_in]; simp
theorem names_le {t : List Nd} (hR : RightT t) {i : Nat} {k : Int} (hi : i < t.length) : (namesF t i k i).length <= maxLen := by
 have h1 := names_len t i k i
 have h2 := hR.ok.le
 have : maxLen = 9223372036854775807 := rfl
 omega
theorem bad_1 {d : D} {t : List Nd} (hT : TreeAt d t) (hR : RightT t) {i : Nat} (hi : i < t.length) (hK : (nd t i).kind = 1) : IsoB 103 [d, .int .i64 (i : Int)] fun b => b = false -> GoodAt t i := by
 refine isoB_of ?_
 have hidx := hT.at (z := (i : Int)) (by omega) (by omega) (k := .i64)
 rw [Int.toNat_natCast] at hidx
 have hx := hT.nd hi
 have hnode := hR.ok.node i hi
 have o1 := FL.one hx.w
 have o2 := FL.one hx.n
 have o3 := FL.one hx.k
 have hpu : ∀ n m : Int, pureL [d, .int .i64 n, .int .i64 m] = true := fun n m => by simp [pureL, pureD, hT.fl.pure]
 have hwl : (nd t i).words.length = 1 := by rw [hnode.wl, hK]; rfl
 have w0 : idxAV 1 (nd t i).dw (.int .i64 0) = some (.fp [.str ((nd t i).word 0)] 0) := by
  rw [word_get (by omega)]; exact FS.idx hx.w (i := 0) (by omega)
 rw [hK] at hidx
 refine evp_of (vf := vf103) rfl ?_
 unfold vf103; refine zE ?_
 try refine zW (aN hidx (aN o1 (aN o2 o3))) ?_
 refine vq_isoS (names_ok hT hR hi (.inl rfl)) rfl (fz3 hT.fz fz_int fz_int) (hpu _ _) ?_
 intro dc hdc
 try refine zW0 ?_
 refine vq_isoS (names_ok hT hR hi (.inr (.inl rfl))) rfl (fz3 hT.fz fz_int fz_int) (hpu _ _) ?_
 intro dv hdv
 try refine zW0 ?_
 refine vq_isoS (names_ok hT hR hi (.inr (.inr rfl))) rfl (fz3 hT.fz fz_int fz_int) (hpu _ _) ?_
 intro dp hdp
 have fc := FL.fz hdc
 have fv := FL.fz hdv
 have fp := FL.fz hdp
 have hc := in11_ok (x := (nd t i).word 0) hdc (names_le hR hi)
 have hv := in11_ok (x := (nd t i).word 0) hdv (names_le hR hi)
 have hp := in11_ok (x := (nd t i).word 0) hdp (names_le hR hi)
 cases r1 : inB (namesF t i 1 i) ((nd t i).word 0)
 ·rw [r1] at hc
  cases r2 : inB (namesF t i 2 i) ((nd t i).word 0)
  ·rw [r2] at hv
   repeat first
   |(apply vq_isoI hc rfl rfl (fz2 fc fz_str))
   |(apply vq_isoI hv rfl rfl (fz2 fv fz_str))
   |(apply vq_isoI hp rfl rfl (fz2 fp fz_str))
   |refine zW (aN o1 (aN o2 (aN o3 w0))) ?_
   exact ⟨.inr trivial, _, rR, _, rfl, fun h => ⟨fun e => by omega, fun e => by omega, fun e => by omega, fun _ => ⟨seen_no.1 r1, seen_no.1 r2, seen_no.1 h⟩⟩⟩
  ·rw [r2] at hv
   repeat first
   |(apply vq_isoI hc rfl rfl (fz2 fc fz_str))
   |(apply vq_isoI hv rfl rfl (fz2 fv fz_str))
   |(apply vq_isoI hp rfl rfl (fz2 fp fz_str))
   |refine zW (aN o1 (aN o2 (aN o3 w0))) ?_
   exact ⟨.inr trivial, _, rR, _, rfl, by simp⟩
 ·rw [r1] at hc
  repeat first
  |(apply vq_isoI hc rfl rfl (fz2 fc fz_str))
  |(apply vq_isoI hv rfl rfl (fz2 fv fz_str))
  |(apply vq_isoI hp rfl rfl (fz2 fp fz_str))
  |refine zW (aN o1 (aN o2 (aN o3 w0))) ?_
  exact ⟨.inr trivial, _, rR, _, rfl, by simp⟩
theorem bad_2 {d : D} {t : List Nd} (hT : TreeAt d t) (hR : RightT t) {i : Nat} (hi : i < t.length) (hK : (nd t i).kind = 2) : IsoB 103 [d, .int .i64 (i : Int)] fun b => b = false -> GoodAt t i := by
 refine isoB_of ?_
 have hidx := hT.at (z := (i : Int)) (by omega) (by omega) (k := .i64)
 rw [Int.toNat_natCast] at hidx
 have hx := hT.nd hi
 have hnode := hR.ok.node i hi
 have o1 := FL.one hx.w
 have o2 := FL.one hx.n
 have o3 := FL.one hx.k
 have hpu : ∀ n m : Int, pureL [d, .int .i64 n, .int .i64 m] = true := fun n m => by simp [pureL, pureD, hT.fl.pure]
 have hwl : (nd t i).words.length = 1 := by rw [hnode.wl, hK]; rfl
 have w0 : idxAV 1 (nd t i).dw (.int .i64 0) = some (.fp [.str ((nd t i).word 0)] 0) := by
  rw [word_get (by omega)]; exact FS.idx hx.w (i := 0) (by omega)
 rw [hK] at hidx
 refine evp_of (vf := vf103) rfl ?_
 unfold vf103; refine zE ?_
 try refine zW (aN hidx (aN o1 (aN o2 o3))) ?_
 refine vq_isoS (names_ok hT hR hi (.inl rfl)) rfl (fz3 hT.fz fz_int fz_int) (hpu _ _) ?_
 intro dc hdc
 try refine zW0 ?_
 refine vq_isoS (names_ok hT hR hi (.inr (.inl rfl))) rfl (fz3 hT.fz fz_int fz_int) (hpu _ _) ?_
 intro dv hdv
 try refine zW0 ?_
 refine vq_isoS (names_ok hT hR hi (.inr (.inr rfl))) rfl (fz3 hT.fz fz_int fz_int) (hpu _ _) ?_
 intro dp hdp
 have fc := FL.fz hdc
 have fv := FL.fz hdv
 have fp := FL.fz hdp
 have hc := in11_ok (x := (nd t i).word 0) hdc (names_le hR hi)
 have hv := in11_ok (x := (nd t i).word 0) hdv (names_le hR hi)
 have hp := in11_ok (x := (nd t i).word 0) hdp (names_le hR hi)
 cases r1 : inB (namesF t i 1 i) ((nd t i).word 0)
 ·rw [r1] at hc
  cases r2 : inB (namesF t i 2 i) ((nd t i).word 0)
  ·rw [r2] at hv
   repeat first
   |(apply vq_isoI hc rfl rfl (fz2 fc fz_str))
   |(apply vq_isoI hv rfl rfl (fz2 fv fz_str))
   |(apply vq_isoI hp rfl rfl (fz2 fp fz_str))
   |refine zW (aN o1 (aN o2 (aN o3 w0))) ?_
   exact ⟨.inr trivial, _, rR, _, rfl, fun h => ⟨fun e => by omega, fun e => by omega, fun e => by omega, fun _ => ⟨seen_no.1 r1, seen_no.1 r2, seen_no.1 h⟩⟩⟩
  ·rw [r2] at hv
   repeat first
   |(apply vq_isoI hc rfl rfl (fz2 fc fz_str))
   |(apply vq_isoI hv rfl rfl (fz2 fv fz_str))
   |(apply vq_isoI hp rfl rfl (fz2 fp fz_str))
   |refine zW (aN o1 (aN o2 (aN o3 w0))) ?_
   exact ⟨.inr trivial, _, rR, _, rfl, by simp⟩
 ·rw [r1] at hc
  repeat first
  |(apply vq_isoI hc rfl rfl (fz2 fc fz_str))
  |(apply vq_isoI hv rfl rfl (fz2 fv fz_str))
  |(apply vq_isoI hp rfl rfl (fz2 fp fz_str))
  |refine zW (aN o1 (aN o2 (aN o3 w0))) ?_
  exact ⟨.inr trivial, _, rR, _, rfl, by simp⟩
theorem bad_3 {d : D} {t : List Nd} (hT : TreeAt d t) (hR : RightT t) {i : Nat} (hi : i < t.length) (hK : (nd t i).kind = 3) : IsoB 103 [d, .int .i64 (i : Int)] fun b => b = false -> GoodAt t i := by
 refine isoB_of ?_
 have hidx := hT.at (z := (i : Int)) (by omega) (by omega) (k := .i64)
 rw [Int.toNat_natCast] at hidx
 have hx := hT.nd hi
 have hnode := hR.ok.node i hi
 have o1 := FL.one hx.w
 have o2 := FL.one hx.n
 have o3 := FL.one hx.k
 have hpu : ∀ n m : Int, pureL [d, .int .i64 n, .int .i64 m] = true := fun n m => by simp [pureL, pureD, hT.fl.pure]
 have hwl : (nd t i).words.length = 1 := by rw [hnode.wl, hK]; rfl
 have w0 : idxAV 1 (nd t i).dw (.int .i64 0) = some (.fp [.str ((nd t i).word 0)] 0) := by
  rw [word_get (by omega)]; exact FS.idx hx.w (i := 0) (by omega)
 rw [hK] at hidx
 refine evp_of (vf := vf103) rfl ?_
 unfold vf103; refine zE ?_
 try refine zW (aN hidx (aN o1 (aN o2 o3))) ?_
 refine vq_isoS (names_ok hT hR hi (.inl rfl)) rfl (fz3 hT.fz fz_int fz_int) (hpu _ _) ?_
 intro dc hdc
 try refine zW0 ?_
 refine vq_isoS (names_ok hT hR hi (.inr (.inl rfl))) rfl (fz3 hT.fz fz_int fz_int) (hpu _ _) ?_
 intro dv hdv
 try refine zW0 ?_
 refine vq_isoS (names_ok hT hR hi (.inr (.inr rfl))) rfl (fz3 hT.fz fz_int fz_int) (hpu _ _) ?_
 intro dp hdp
 have fc := FL.fz hdc
 have fv := FL.fz hdv
 have fp := FL.fz hdp
 have hc := in11_ok (x := (nd t i).word 0) hdc (names_le hR hi)
 have hv := in11_ok (x := (nd t i).word 0) hdv (names_le hR hi)
 have hp := in11_ok (x := (nd t i).word 0) hdp (names_le hR hi)
 cases r1 : inB (namesF t i 1 i) ((nd t i).word 0)
 ·rw [r1] at hc
  cases r2 : inB (namesF t i 2 i) ((nd t i).word 0)
  ·rw [r2] at hv
   repeat first
   |(apply vq_isoI hc rfl rfl (fz2 fc fz_str))
   |(apply vq_isoI hv rfl rfl (fz2 fv fz_str))
   |(apply vq_isoI hp rfl rfl (fz2 fp fz_str))
   |refine zW (aN o1 (aN o2 (aN o3 w0))) ?_
   exact ⟨.inr trivial, _, rR, _, rfl, fun h => ⟨fun e => by omega, fun e => by omega, fun e => by omega, fun _ => ⟨seen_no.1 r1, seen_no.1 r2, seen_no.1 h⟩⟩⟩
  ·rw [r2] at hv
   repeat first
   |(apply vq_isoI hc rfl rfl (fz2 fc fz_str))
   |(apply vq_isoI hv rfl rfl (fz2 fv fz_str))
   |(apply vq_isoI hp rfl rfl (fz2 fp fz_str))
   |refine zW (aN o1 (aN o2 (aN o3 w0))) ?_
   exact ⟨.inr trivial, _, rR, _, rfl, by simp⟩
 ·rw [r1] at hc
  repeat first
  |(apply vq_isoI hc rfl rfl (fz2 fc fz_str))
  |(apply vq_isoI hv rfl rfl (fz2 fv fz_str))
  |(apply vq_isoI hp rfl rfl (fz2 fp fz_str))
  |refine zW (aN o1 (aN o2 (aN o3 w0))) ?_
  exact ⟨.inr trivial, _, rR, _, rfl, by simp⟩
theorem bad_6 {d : D} {t : List Nd} (hT : TreeAt d t) (hR : RightT t) {i : Nat} (hi : i < t.length) (hK : (nd t i).kind = 6) : IsoB 103 [d, .int .i64 (i : Int)] fun b => b = false -> GoodAt t i := by
 refine isoB_of ?_
 have hidx := hT.at (z := (i : Int)) (by omega) (by omega) (k := .i64)
 rw [Int.toNat_natCast] at hidx
 have hx := hT.nd hi
 have hnode := hR.ok.node i hi
 have o1 := FL.one hx.w
 have o2 := FL.one hx.n
 have o3 := FL.one hx.k
 have hpu : ∀ n m : Int, pureL [d, .int .i64 n, .int .i64 m] = true := fun n m => by simp [pureL, pureD, hT.fl.pure]
 have hwl : (nd t i).words.length = 1 := by rw [hnode.wl, hK]; rfl
 have w0 : idxAV 1 (nd t i).dw (.int .i64 0) = some (.fp [.str ((nd t i).word 0)] 0) := by
  rw [word_get (by omega)]; exact FS.idx hx.w (i := 0) (by omega)
 rw [hK] at hidx
 refine evp_of (vf := vf103) rfl ?_
 unfold vf103; refine zE ?_
 try refine zW (aN hidx (aN o1 (aN o2 o3))) ?_
 refine vq_isoS (names_ok hT hR hi (.inl rfl)) rfl (fz3 hT.fz fz_int fz_int) (hpu _ _) ?_
 intro dc hdc
 try refine zW0 ?_
 refine vq_isoS (names_ok hT hR hi (.inr (.inl rfl))) rfl (fz3 hT.fz fz_int fz_int) (hpu _ _) ?_
 intro dv hdv
 try refine zW0 ?_
 refine vq_isoS (names_ok hT hR hi (.inr (.inr rfl))) rfl (fz3 hT.fz fz_int fz_int) (hpu _ _) ?_
 intro dp hdp
 have fc := FL.fz hdc
 have fv := FL.fz hdv
 have fp := FL.fz hdp
 have hc := in11_ok (x := (nd t i).word 0) hdv (names_le hR hi)
 repeat first
 |(apply vq_isoI hc rfl rfl (fz2 fv fz_str))
 |refine zW (aN o1 (aN o2 (aN o3 w0))) ?_
 exact ⟨.inr trivial, _, rR, _, rfl, fun h => ⟨fun _ => seen_in.1 (by simpa using h), fun e => by omega, fun e => by omega, fun e => by omega⟩⟩
theorem bad_18 {d : D} {t : List Nd} (hT : TreeAt d t) (hR : RightT t) {i : Nat} (hi : i < t.length) (hK : (nd t i).kind = 18) : IsoB 103 [d, .int .i64 (i : Int)] fun b => b = false -> GoodAt t i := by
 refine isoB_of ?_
 have hidx := hT.at (z := (i : Int)) (by omega) (by omega) (k := .i64)
 rw [Int.toNat_natCast] at hidx
 have hx := hT.nd hi
 have hnode := hR.ok.node i hi
 have o1 := FL.one hx.w
 have o2 := FL.one hx.n
 have o3 := FL.one hx.k
 have hpu : ∀ n m : Int, pureL [d, .int .i64 n, .int .i64 m] = true := fun n m => by simp [pureL, pureD, hT.fl.pure]
 have hwl : (nd t i).words.length = 1 := by rw [hnode.wl, hK]; rfl
 have w0 : idxAV 1 (nd t i).dw (.int .i64 0) = some (.fp [.str ((nd t i).word 0)] 0) := by
  rw [word_get (by omega)]; exact FS.idx hx.w (i := 0) (by omega)
 rw [hK] at hidx
 refine evp_of (vf := vf103) rfl ?_
 unfold vf103; refine zE ?_
 try refine zW (aN hidx (aN o1 (aN o2 o3))) ?_
 refine vq_isoS (names_ok hT hR hi (.inl rfl)) rfl (fz3 hT.fz fz_int fz_int) (hpu _ _) ?_
 intro dc hdc
 try refine zW0 ?_
 refine vq_isoS (names_ok hT hR hi (.inr (.inl rfl))) rfl (fz3 hT.fz fz_int fz_int) (hpu _ _) ?_
 intro dv hdv
 try refine zW0 ?_
 refine vq_isoS (names_ok hT hR hi (.inr (.inr rfl))) rfl (fz3 hT.fz fz_int fz_int) (hpu _ _) ?_
 intro dp hdp
 have fc := FL.fz hdc
 have fv := FL.fz hdv
 have fp := FL.fz hdp
 have hc := in11_ok (x := (nd t i).word 0) hdv (names_le hR hi)
 repeat first
 |(apply vq_isoI hc rfl rfl (fz2 fv fz_str))
 |refine zW (aN o1 (aN o2 (aN o3 w0))) ?_
 exact ⟨.inr trivial, _, rR, _, rfl, fun h => ⟨fun _ => seen_in.1 (by simpa using h), fun e => by omega, fun e => by omega, fun e => by omega⟩⟩
theorem bad_7 {d : D} {t : List Nd} (hT : TreeAt d t) (hR : RightT t) {i : Nat} (hi : i < t.length) (hK : (nd t i).kind = 7) : IsoB 103 [d, .int .i64 (i : Int)] fun b => b = false -> GoodAt t i := by
 refine isoB_of ?_
 have hidx := hT.at (z := (i : Int)) (by omega) (by omega) (k := .i64)
 rw [Int.toNat_natCast] at hidx
 have hx := hT.nd hi
 have hnode := hR.ok.node i hi
 have o1 := FL.one hx.w
 have o2 := FL.one hx.n
 have o3 := FL.one hx.k
 have hpu : ∀ n m : Int, pureL [d, .int .i64 n, .int .i64 m] = true := fun n m => by simp [pureL, pureD, hT.fl.pure]
 have hwl : (nd t i).words.length = 1 := by rw [hnode.wl, hK]; rfl
 have w0 : idxAV 1 (nd t i).dw (.int .i64 0) = some (.fp [.str ((nd t i).word 0)] 0) := by
  rw [word_get (by omega)]; exact FS.idx hx.w (i := 0) (by omega)
 rw [hK] at hidx
 refine evp_of (vf := vf103) rfl ?_
 unfold vf103; refine zE ?_
 try refine zW (aN hidx (aN o1 (aN o2 o3))) ?_
 refine vq_isoS (names_ok hT hR hi (.inl rfl)) rfl (fz3 hT.fz fz_int fz_int) (hpu _ _) ?_
 intro dc hdc
 try refine zW0 ?_
 refine vq_isoS (names_ok hT hR hi (.inr (.inl rfl))) rfl (fz3 hT.fz fz_int fz_int) (hpu _ _) ?_
 intro dv hdv
 try refine zW0 ?_
 refine vq_isoS (names_ok hT hR hi (.inr (.inr rfl))) rfl (fz3 hT.fz fz_int fz_int) (hpu _ _) ?_
 intro dp hdp
 have fc := FL.fz hdc
 have fv := FL.fz hdv
 have fp := FL.fz hdp
 have hc := in11_ok (x := (nd t i).word 0) hdc (names_le hR hi)
 repeat first
 |(apply vq_isoI hc rfl rfl (fz2 fc fz_str))
 |refine zW (aN o1 (aN o2 (aN o3 w0))) ?_
 exact ⟨.inr trivial, _, rR, _, rfl, fun h => ⟨fun e => by omega, fun _ => seen_in.1 (by simpa using h), fun e => by omega, fun e => by omega⟩⟩
theorem bad_19 {d : D} {t : List Nd} (hT : TreeAt d t) (hR : RightT t) {i : Nat} (hi : i < t.length) (hK : (nd t i).kind = 19) : IsoB 103 [d, .int .i64 (i : Int)] fun b => b = false -> GoodAt t i := by
 refine isoB_of ?_
 have hidx := hT.at (z := (i : Int)) (by omega) (by omega) (k := .i64)
 rw [Int.toNat_natCast] at hidx
 have hx := hT.nd hi
 have hnode := hR.ok.node i hi
 have o1 := FL.one hx.w
 have o2 := FL.one hx.n
 have o3 := FL.one hx.k
 have hpu : ∀ n m : Int, pureL [d, .int .i64 n, .int .i64 m] = true := fun n m => by simp [pureL, pureD, hT.fl.pure]
 have hwl : (nd t i).words.length = 1 := by rw [hnode.wl, hK]; rfl
 have w0 : idxAV 1 (nd t i).dw (.int .i64 0) = some (.fp [.str ((nd t i).word 0)] 0) := by
  rw [word_get (by omega)]; exact FS.idx hx.w (i := 0) (by omega)
 rw [hK] at hidx
 refine evp_of (vf := vf103) rfl ?_
 unfold vf103; refine zE ?_
 try refine zW (aN hidx (aN o1 (aN o2 o3))) ?_
 refine vq_isoS (names_ok hT hR hi (.inl rfl)) rfl (fz3 hT.fz fz_int fz_int) (hpu _ _) ?_
 intro dc hdc
 try refine zW0 ?_
 refine vq_isoS (names_ok hT hR hi (.inr (.inl rfl))) rfl (fz3 hT.fz fz_int fz_int) (hpu _ _) ?_
 intro dv hdv
 try refine zW0 ?_
 refine vq_isoS (names_ok hT hR hi (.inr (.inr rfl))) rfl (fz3 hT.fz fz_int fz_int) (hpu _ _) ?_
 intro dp hdp
 have fc := FL.fz hdc
 have fv := FL.fz hdv
 have fp := FL.fz hdp
 have hc := in11_ok (x := (nd t i).word 0) hdc (names_le hR hi)
 repeat first
 |(apply vq_isoI hc rfl rfl (fz2 fc fz_str))
 |refine zW (aN o1 (aN o2 (aN o3 w0))) ?_
 exact ⟨.inr trivial, _, rR, _, rfl, fun h => ⟨fun e => by omega, fun _ => seen_in.1 (by simpa using h), fun e => by omega, fun e => by omega⟩⟩
theorem bad_8 {d : D} {t : List Nd} (hT : TreeAt d t) (hR : RightT t) {i : Nat} (hi : i < t.length) (hK : (nd t i).kind = 8) : IsoB 103 [d, .int .i64 (i : Int)] fun b => b = false -> GoodAt t i := by
 refine isoB_of ?_
 have hidx := hT.at (z := (i : Int)) (by omega) (by omega) (k := .i64)
 rw [Int.toNat_natCast] at hidx
 have hx := hT.nd hi
 have hnode := hR.ok.node i hi
 have o1 := FL.one hx.w
 have o2 := FL.one hx.n
 have o3 := FL.one hx.k
 have hpu : ∀ n m : Int, pureL [d, .int .i64 n, .int .i64 m] = true := fun n m => by simp [pureL, pureD, hT.fl.pure]
 have hwl : (nd t i).words.length = 2 := by rw [hnode.wl, hK]; rfl
 have w0 : idxAV 1 (nd t i).dw (.int .i64 0) = some (.fp [.str ((nd t i).word 0)] 0) := by
  rw [word_get (by omega)]; exact FS.idx hx.w (i := 0) (by omega)
 have w1 : idxAV 1 (nd t i).dw (.int .i64 1) = some (.fp [.str ((nd t i).word 1)] 0) := by
  rw [word_get (by omega)]; exact FS.idx hx.w (i := 1) (by omega)
 rw [hK] at hidx
 refine evp_of (vf := vf103) rfl ?_
 unfold vf103; refine zE ?_
 try refine zW (aN hidx (aN o1 (aN o2 o3))) ?_
 refine vq_isoS (names_ok hT hR hi (.inl rfl)) rfl (fz3 hT.fz fz_int fz_int) (hpu _ _) ?_
 intro dc hdc
 try refine zW0 ?_
 refine vq_isoS (names_ok hT hR hi (.inr (.inl rfl))) rfl (fz3 hT.fz fz_int fz_int) (hpu _ _) ?_
 intro dv hdv
 try refine zW0 ?_
 refine vq_isoS (names_ok hT hR hi (.inr (.inr rfl))) rfl (fz3 hT.fz fz_int fz_int) (hpu _ _) ?_
 intro dp hdp
 have fc := FL.fz hdc
 have fv := FL.fz hdv
 have fp := FL.fz hdp
 have hc := in11_ok (x := (nd t i).word 0) hdc (names_le hR hi)
 have hv := in11_ok (x := (nd t i).word 1) hdv (names_le hR hi)
 cases r1 : inB (namesF t i 1 i) ((nd t i).word 0)
 ·rw [r1] at hc
  repeat first
  |(apply vq_isoI hc rfl rfl (fz2 fc fz_str))
  |(apply vq_isoI hv rfl rfl (fz2 fv fz_str))
  |refine zW (aN o1 (aN o2 (aN o3 (aN w0 w1)))) ?_
  exact ⟨.inr trivial, _, rR, _, rfl, by simp⟩
 ·rw [r1] at hc
  repeat first
  |(apply vq_isoI hc rfl rfl (fz2 fc fz_str))
  |(apply vq_isoI hv rfl rfl (fz2 fv fz_str))
  |refine zW (aN o1 (aN o2 (aN o3 (aN w0 w1)))) ?_
  exact ⟨.inr trivial, _, rR, _, rfl, fun h => ⟨fun e => by omega, fun _ => seen_in.1 r1, fun _ => seen_in.1 (by simpa using h), fun e => by omega⟩⟩
theorem bad_x {d : D} {t : List Nd} (hT : TreeAt d t) (hR : RightT t) {i : Nat} (hi : i < t.length) (hK : (nd t i).kind ≠ 1 /\ (nd t i).kind ≠ 2 /\ (nd t i).kind ≠ 3 /\ (nd t i).kind ≠ 6 /\ (nd t i).kind ≠ 18 /\ (nd t i).kind ≠ 7 /\ (nd t i).kind ≠ 19 /\ (nd t i).kind ≠ 8) : IsoB 103 [d, .int .i64 (i : Int)] fun b => b = false -> GoodAt t i := by
 refine isoB_of ?_
 have hidx := hT.at (z := (i : Int)) (by omega) (by omega) (k := .i64)
 rw [Int.toNat_natCast] at hidx
 have hx := hT.nd hi
 have hnode := hR.ok.node i hi
 have o1 := FL.one hx.w
 have o2 := FL.one hx.n
 have o3 := FL.one hx.k
 have hpu : ∀ n m : Int, pureL [d, .int .i64 n, .int .i64 m] = true := fun n m => by simp [pureL, pureD, hT.fl.pure]
 have n1 : ((nd t i).kind == 1) = false := by rw [beq_eq_false_iff_ne]; omega
 have n2 : ((nd t i).kind == 2) = false := by rw [beq_eq_false_iff_ne]; omega
 have n3 : ((nd t i).kind == 3) = false := by rw [beq_eq_false_iff_ne]; omega
 have n6 : ((nd t i).kind == 6) = false := by rw [beq_eq_false_iff_ne]; omega
 have n18 : ((nd t i).kind == 18) = false := by rw [beq_eq_false_iff_ne]; omega
 have n7 : ((nd t i).kind == 7) = false := by rw [beq_eq_false_iff_ne]; omega
 have n19 : ((nd t i).kind == 19) = false := by rw [beq_eq_false_iff_ne]; omega
 have n8 : ((nd t i).kind == 8) = false := by rw [beq_eq_false_iff_ne]; omega
 refine evp_of (vf := vf103) rfl ?_
 unfold vf103; refine zE ?_
 try refine zW (aN hidx (aN o1 (aN o2 o3))) ?_
 refine vq_isoS (names_ok hT hR hi (.inl rfl)) rfl (fz3 hT.fz fz_int fz_int) (hpu _ _) ?_
 intro dc hdc
 try refine zW0 ?_
 refine vq_isoS (names_ok hT hR hi (.inr (.inl rfl))) rfl (fz3 hT.fz fz_int fz_int) (hpu _ _) ?_
 intro dv hdv
 try refine zW0 ?_
 refine vq_isoS (names_ok hT hR hi (.inr (.inr rfl))) rfl (fz3 hT.fz fz_int fz_int) (hpu _ _) ?_
 intro dp hdp
 have fc := FL.fz hdc
 have fv := FL.fz hdv
 have fp := FL.fz hdp
 try refine zW (aN o1 (aN o2 (aN o3 (aN n1 (aN n2 (aN n3 (aN n6 (aN n18 (aN n7 (aN n19 n8)))))))))) ?_
 exact ⟨.inr trivial, _, rR, _, rfl, fun _ => ⟨fun e => by omega, fun e => by omega, fun e => by omega, fun e => by omega⟩⟩
theorem bad_ok {d : D} {t : List Nd} (hT : TreeAt d t) (hR : RightT t) {i : Nat} (hi : i < t.length) : IsoB 103 [d, .int .i64 (i : Int)] fun b => b = false -> GoodAt t i := by
 by_cases k1 : (nd t i).kind = 1
 ·exact bad_1 hT hR hi k1
 by_cases k2 : (nd t i).kind = 2
 ·exact bad_2 hT hR hi k2
 by_cases k3 : (nd t i).kind = 3
 ·exact bad_3 hT hR hi k3
 by_cases k6 : (nd t i).kind = 6
 ·exact bad_6 hT hR hi k6
 by_cases k18 : (nd t i).kind = 18
 ·exact bad_18 hT hR hi k18
 by_cases k7 : (nd t i).kind = 7
 ·exact bad_7 hT hR hi k7
 by_cases k19 : (nd t i).kind = 19
 ·exact bad_19 hT hR hi k19
 by_cases k8 : (nd t i).kind = 8
 ·exact bad_8 hT hR hi k8
 exact bad_x hT hR hi ⟨k1, k2, k3, k6, k18, k7, k19, k8⟩
def IsoF (f : Nat) (l : List D) (P : Prop) : Prop := ∃ (e a : Int), Iso f l (.agg [.int .i64 e, .int .i64 a]) /\ (e = 0 -> P)
theorem isoF_of {f : Nat} {l : List D} {P : Prop} (h : EvP vfs f l Store.empty fun d _ => ∃ (e a : Int), d = .agg [.int .i64 e, .int .i64 a] /\ (e = 0 -> P)) : IsoF f l P := by
 obtain ⟨d, s', h, e, a, rfl, hp⟩ := h
 exact ⟨e, a, ⟨s', h⟩, hp⟩
theorem check11_ok {d : D} {t : List Nd} (hT : TreeAt d t) (hR : RightT t) : IsoF 79 [d] (Scoped t) := by
 refine isoF_of ?_
 have hlen := hT.len
 have hle := hR.ok.le
 refine evp_of (vf := vf79) rfl ?_
 unfold vf79; refine zE ?_
 try refine zW0 ?_
 refine vw_loop_inv (Q := Out' 0 _) (fun n env s => ∃ i : Nat, i <= t.length /\ n = t.length - i /\ (∀ j, j < i -> GoodAt t j) /\ s.get 0 = some (.cells [.int .i64 0, .int .i64 0]) /\ (env.get 0 = d /\ env.get 2 = .ptr 0 0 /\ env.get 3 = .int .i64 (i : Int))) ?_ t.length _ _ ⟨0, by omega, rfl, fun j h => by omega, get_push_new rfl, by simp [Env.get, Made.at]; rfl⟩
 rintro n env s ⟨i, hi, rfl, hall, hg, hE⟩
 have hgl := get_lts hg
 by_cases c1 : i < t.length
 ·have c1' : ((i : Int) < (t.length : Int)) = True := eq_true (by omega)
  have hs : IntKind.i64.wrap ((i : Int) + 1) = ((i + 1 : Nat) : Int) := by rw [i64_id (by omega) (by omega)]; omega
  have hidx := hT.at (z := (i : Int)) (by omega) (by omega) (k := .i64)
  rw [Int.toNat_natCast] at hidx
  have hx := hT.nd c1
  have o1 := FL.one hx.w
  have o2 := FL.one hx.n
  have o3 := FL.one hx.k
  obtain ⟨b, hb, hp⟩ := bad_ok hT hR c1
  cases b
  ·repeat first
   |(apply vq_isoI hb rfl; (focus (simp only [Env.evL, Env.ev, Env.get, Nat.reduceEqDiff, ↓reduceIte, hE])); (focus exact fz2 hT.fz fz_int))
   |refine zW (aN hE (aN hlen (aN c1' hs))) ?_
   refine ⟨t.length - (i + 1), by omega, i + 1, by omega, rfl, fun j h => ?_, hg, (rG hE)⟩
   by_cases e : j = i
   ·subst e; exact hp rfl
   ·exact hall j (by omega)
  ·repeat first
   |(apply vq_isoI hb rfl; (focus (simp only [Env.evL, Env.ev, Env.get, Nat.reduceEqDiff, ↓reduceIte, hE])); (focus exact fz2 hT.fz fz_int))
   |refine zW (aN hE (aN hlen (aN c1' (aN hidx (aN o1 (aN o2 (aN o3 hg))))))) ?_
   refine ⟨.inr trivial, _, ?_, 20, (nd t i).pos, rfl, by simp⟩
   simp only [resOf, resAll, resOne, Env.get, Nat.reduceEqDiff, ↓reduceIte, hE, get_set_eq hgl]
   rfl
 ·have c1' : ((i : Int) < (t.length : Int)) = False := eq_false (by omega)
  try refine zW (aN hE (aN hlen (aN c1' hg))) ?_
  refine ⟨.inr trivial, _, ?_, 0, 0, rfl, fun _ => ?_⟩
  ·simp only [resOf, resAll, resOne, Env.get, Nat.reduceEqDiff, ↓reduceIte, hE, get_set_eq hgl]
   rfl
  ·exact ⟨fun j h => (hall j (by omega)).use, fun j h => (hall j (by omega)).chan, fun j h => (hall j (by omega)).recv, fun j h => (hall j (by omega)).once⟩
end Go.Proofs.Ytlaeblilmppodaa
namespace Go.V
def b2n (b : Bool) : Nat := if b then 1 else 0
@[simp] theorem b2n_t : b2n true = 1 := rfl
@[simp] theorem b2n_f : b2n false = 0 := rfl
theorem b2n_le (b : Bool) : b2n b <= 1 := by cases b <;> simp
def num (f : Nat -> Bool) : Nat -> Nat
 | 0 => 0
 | n + 1 => num f n + b2n (f n) * 2 ^ n
theorem num_lt (f : Nat -> Bool) : ∀ n, num f n < 2 ^ n
 | 0 => by simp [num]
 | n + 1 => by
   have := num_lt f n
   have h := b2n_le (f n)
   simp only [num, Nat.pow_succ]
   have : b2n (f n) * 2 ^ n <= 1 * 2 ^ n := Nat.mul_le_mul_right _ h
   omega
theorem num_cong {f g : Nat -> Bool} : ∀ {n : Nat}, (∀ i, i < n -> f i = g i) -> num f n = num g n
 | 0, _ => rfl
 | n + 1, h => by rw [num, num, num_cong fun i hi => h i (by omega), h n (by omega)]
theorem num_inj {f g : Nat -> Bool} : ∀ {n : Nat}, num f n = num g n -> ∀ i, i < n -> f i = g i
 | 0, _, i, hi => by omega
 | n + 1, h, i, hi => by
   simp only [num] at h
   have h1 := num_lt f n
   have h2 := num_lt g n
   have hp : 0 < 2 ^ n := Nat.pos_of_ne_zero (by simp)
   have e : f n = g n /\ num f n = num g n := by
    cases hf : f n <;> cases hg : g n <;> simp [hf, hg] at h ⊢ <;> omega
   rcases Nat.lt_or_ge i n with hi' | hi'
   ·exact num_inj e.2 i hi'
   ·have : i = n := by omega
    subst this
    exact e.1
def carryAt (A B : Nat -> Bool) (c : Bool) : Nat -> Bool
 | 0 => c
 | i + 1 => (A i && B i) || ((A i != B i) && carryAt A B c i)
def sumAt (A B : Nat -> Bool) (c : Bool) (i : Nat) : Bool := (A i != B i) != carryAt A B c i
def underAt (A B : Nat -> Bool) : Nat -> Bool
 | 0 => false
 | i + 1 => if A i != B i then B i else underAt A B i
def trimZ (n : Int) (w : Nat) : Int := (n + 2 ^ (w - 1)) % 2 ^ w - 2 ^ (w - 1)
def valZ (f : Nat -> Bool) (w : Nat) : Int := (num f w : Int) - (b2n (f (w - 1)) : Int) * 2 ^ w
theorem pow_pos' (w : Nat) : (0 : Int) < 2 ^ w := by
 have : (0 : Int) < ((2 ^ w : Nat) : Int) := by exact_mod_cast Nat.pos_of_ne_zero (by simp)
 simpa using this
theorem pow_half {w : Nat} (h : 0 < w) : (2 : Int) ^ w = 2 * 2 ^ (w - 1) := by
 obtain ⟨k, rfl⟩ : ∃ k, w = k + 1 := ⟨w - 1, by omega⟩
 rw [Int.pow_succ, Nat.add_sub_cancel]; omega
theorem trimZ_mod {a b : Int} {w : Nat} (h : a % 2 ^ w = b % 2 ^ w) : trimZ a w = trimZ b w := by
 unfold trimZ
 rw [Int.add_emod, h, <- Int.add_emod]
theorem trimZ_id {n : Int} {w : Nat} (h : 0 < w) (h1 : -2 ^ (w - 1) <= n) (h2 : n < 2 ^ (w - 1)) : trimZ n w = n := by
 unfold trimZ
 rw [Int.emod_eq_of_lt (by omega) (by have := pow_half h; omega)]; omega
theorem trimZ_lo {n : Int} {w : Nat} (h : 0 < w) : -2 ^ (w - 1) <= trimZ n w /\ trimZ n w < 2 ^ (w - 1) := by
 unfold trimZ
 have hp := pow_pos' w
 have h1 := Int.emod_nonneg (n + 2 ^ (w - 1)) (b := 2 ^ w) (by omega)
 have h2 := Int.emod_lt_of_pos (n + 2 ^ (w - 1)) hp
 have := pow_half h
 omega
theorem trimZ_emod {n : Int} {w : Nat} : trimZ n w % 2 ^ w = n % 2 ^ w := by
 unfold trimZ
 rw [Int.sub_emod, Int.emod_emod_of_dvd _ (Int.dvd_refl _), <- Int.sub_emod]
 congr 1; omega
theorem num_top {f : Nat -> Bool} {w : Nat} (h : 0 < w) : f (w - 1) = decide (2 ^ (w - 1) <= num f w) := by
 obtain ⟨k, rfl⟩ : ∃ k, w = k + 1 := ⟨w - 1, by omega⟩
 have h1 := num_lt f k
 simp only [Nat.add_sub_cancel, num]
 cases f k <;> simp <;> omega
theorem valZ_trim {f : Nat -> Bool} {w : Nat} (h : 0 < w) : valZ f w = trimZ (num f w) w := by
 have ht := num_top (f := f) h
 have hl := num_lt f w
 have hp := pow_half h
 have hl' : (num f w : Int) < 2 ^ w := by exact_mod_cast hl
 unfold valZ
 have hnn : (0 : Int) <= num f w := Int.natCast_nonneg _
 by_cases hc : 2 ^ (w - 1) <= num f w
 ·rw [ht, decide_eq_true hc]
  have hc' : (2 : Int) ^ (w - 1) <= num f w := by exact_mod_cast hc
  rw [<- trimZ_mod (a := (num f w : Int) - 2 ^ w) (b := num f w) (by rw [Int.sub_emod, Int.emod_self]; simp), trimZ_id h (by omega) (by omega)]
  simp
 ·rw [ht, decide_eq_false hc]
  have hc' : (num f w : Int) < 2 ^ (w - 1) := by
   have : num f w < 2 ^ (w - 1) := by omega
   exact_mod_cast this
  rw [trimZ_id h (by omega) (by omega)]
  simp
theorem valZ_cong {f g : Nat -> Bool} {w : Nat} (hw : 0 < w) (h : ∀ i, i < w -> f i = g i) : valZ f w = valZ g w := by
 unfold valZ
 rw [num_cong h, h (w - 1) (by omega)]
def shiftAt (r : Nat -> Bool) (d : Bool) (j : Nat) : Bool := if j = 0 then d else r (j - 1)
def ifAt (c : Bool) (A B : Nat -> Bool) (j : Nat) : Bool := if c then A j else B j
mutual
def restAt (X Y : Nat -> Bool) (w : Nat) : Nat -> (Nat -> Bool)
 | 0 => fun _ => false
 | k + 1 => ifAt (!underAt (shiftAt (restAt X Y w k) (X (w - 1 - k))) Y w) (sumAt (shiftAt (restAt X Y w k) (X (w - 1 - k))) (fun j => !Y j) true) (shiftAt (restAt X Y w k) (X (w - 1 - k)))
end
end Go.V
namespace Go.Proofs.Ytlaeblilmppodaa
open Go.V
set_option maxRecDepth 100000
set_option maxHeartbeats 4000000
theorem pow_le' {v w : Nat} (h : w <= v) : (2 : Int) ^ w <= 2 ^ v := by
 have : (2 : Nat) ^ w <= 2 ^ v := Nat.pow_le_pow_right (by omega) h
 exact_mod_cast this
theorem trimZ_if {n : Int} {w : Nat} (h : 0 < w) : trimZ n w = if 2 ^ (w - 1) <= n % 2 ^ w then n % 2 ^ w - 2 ^ w else n % 2 ^ w := by
 have hp := pow_half h
 have p := pow_pos' w
 have h1 := Int.emod_nonneg n (b := 2 ^ w) (by omega)
 have h2 := Int.emod_lt_of_pos n p
 have e : trimZ n w = trimZ (n % 2 ^ w) w := (trimZ_mod (by rw [Int.emod_emod_of_dvd _ (Int.dvd_refl _)])).symm
 rw [e]
 generalize n % 2 ^ w = r at *
 split
 ·rw [<- trimZ_mod (a := r - 2 ^ w) (b := r) (by rw [Int.sub_emod, Int.emod_self]; simp), trimZ_id h (by omega) (by omega)]
 ·rw [trimZ_id h (by omega) (by omega)]
theorem tmod_emod {n m : Int} (h : 0 < m) : (if n.tmod m < 0 then n.tmod m + m else n.tmod m) = n % m := by
 have h1 := Int.mul_tdiv_add_tmod n m
 have h2 := Int.tmod_lt_of_pos n h
 have h3 : -m < n.tmod m := by
  have := Int.tmod_lt_of_pos (-n) h
  rw [Int.neg_tmod] at this
  omega
 have e : n % m = n.tmod m % m := by
  conv => lhs; rw [<- h1]
  rw [Int.add_comm, Int.add_mul_emod_self_left]
 rw [e]
 generalize n.tmod m = r at *
 split
 ·rw [<- Int.add_emod_right, Int.emod_eq_of_lt (by omega) (by omega)]
 ·rw [Int.emod_eq_of_lt (by omega) (by omega)]
theorem two16 {w : Nat} (h : w <= 16) : (2 : Int) ^ w <= 65536 := by
 have := pow_le' (w := w) (v := 16) h
 omega
theorem trimR {s : Store} {x n : Int} {w : Nat} (hn : (w : Int) = min (max n 1) 16) (hx : in64 x) :
 Ev vfs 45 [.int .i64 x, .int .i64 n] s (.int .i64 (trimZ x w)) s := by
 obtain ⟨hx1, hx2⟩ := hx
 have hw1 : 1 <= w := by omega
 have hwl : w <= 16 := by omega
 have hp := two16 hwl
 have hp0 := pow_pos' w
 rw [trimZ_if hw1]
 refine ev_of (vf := vf45) rfl ?_
 unfold vf45; refine zE ?_
 try refine zW0 ?_
 refine WP.mono (Q := fun e env s' => e = .normal /\ s' = s /\ (env.get 0 = .int .i64 x /\ env.get 1 = .int .i64 (max n 1))) ?_ ?_
 ·by_cases h : n < 1
  ·have b1 : (n < 1) = True := eq_true h
   try refine zW b1 ?_
   exact ⟨trivial, trivial, by simp [Env.get]; omega⟩
  ·have b1 : (n < 1) = False := eq_false h
   try refine zW b1 ?_
   exact ⟨trivial, trivial, by simp [Env.get]; omega⟩
 rintro e env s' ⟨rfl, rfl, hE⟩
 simp only [Then]
 try refine zW hE ?_
 refine WP.mono (Q := fun e env s1 => e = .normal /\ s1 = s' /\ (env.get 0 = .int .i64 x /\ env.get 1 = .int .i64 (w : Int))) ?_ ?_
 ·by_cases h : 16 < max n 1
  ·have b1 : (16 < max n 1) = True := eq_true h
   try refine zW (aN hE b1) ?_
   exact ⟨trivial, trivial, by simp [Env.get, hE]; omega⟩
  ·have b1 : (16 < max n 1) = False := eq_false h
   try refine zW (aN hE b1) ?_
   exact ⟨trivial, trivial, by simp [Env.get, hE]; omega⟩
 clear hE
 rintro e env s1 ⟨rfl, rfl, hE⟩
 simp only [Then]
 try refine zW hE ?_
 refine vw_loop_inv (fun k env s2 => ∃ (i : Nat), i <= w /\ k = w - i /\ s2 = s1 /\ (env.get 0 = .int .i64 x /\ env.get 1 = .int .i64 (w : Int) /\ env.get 5 = .int .i64 (2 ^ i) /\ env.get 6 = .int .i64 (i : Int))) ?_ w _ _
  ⟨0, Nat.zero_le _, by omega, rfl, by simp [Env.get, hE]⟩
 clear hE
 rintro k env s2 ⟨i, hi, rfl, rfl, hE⟩
 by_cases hci : i < w
 ·have hci' : (i : Int) < (w : Int) := by omega
  have hs := (by rw [i64_id (by omega) (by omega)]; omega : IntKind.i64.wrap ((i : Int) + 1) = ((i + 1 : Nat) : Int))
  have hpi := two16 (w := i) (by omega)
  have hpi0 := pow_pos' i
  have hmul : IntKind.i64.wrap ((2 : Int) ^ i * 2) = 2 ^ (i + 1) := by rw [i64_id (by omega) (by omega), Int.pow_succ]
  try refine zW (aN hE (aN hci' (aN hs hmul))) ?_
  exact ⟨w - (i + 1), by omega, i + 1, by omega, rfl, trivial, (rG hE)⟩
 ·have hci' : ¬ (i : Int) < (w : Int) := by omega
  obtain rfl : i = w := by omega
  have hne : ((2 : Int) ^ i = 0) = False := eq_false (by omega)
  have hm := tmod_emod (n := x) hp0
  have h1 := Int.emod_nonneg x (b := 2 ^ i) (by omega)
  have h2 := Int.emod_lt_of_pos x hp0
  have hh := pow_half (w := i) (by omega)
  have hdiv : ((2 : Int) ^ i).tdiv 2 = 2 ^ (i - 1) := by
   rw [Int.tdiv_eq_ediv_of_nonneg (by omega)]; omega
  have hwd : IntKind.i64.wrap ((2 : Int) ^ (i - 1)) = 2 ^ (i - 1) := i64_id (by omega) (by omega)
  have hs2 : IntKind.i64.wrap (x % 2 ^ i - 2 ^ i) = x % 2 ^ i - 2 ^ i := i64_id (by omega) (by omega)
  by_cases hneg : x.tmod (2 ^ i) < 0
  ·rw [if_pos hneg] at hm
   have hadd : IntKind.i64.wrap (x.tmod (2 ^ i) + 2 ^ i) = x % 2 ^ i := by rw [hm]; exact i64_id (by omega) (by omega)
   by_cases hc : 2 ^ (i - 1) <= x % 2 ^ i
   ·try refine zW (aN hE (aN hci' (aN hne (aN hneg (aN hadd (aN hdiv (aN hwd (aN hc hs2)))))))) ?_
    exact ⟨.inr trivial, trivial, (by simp only [resOf, resAll, resOne, Env.get, Nat.reduceEqDiff, ↓reduceIte, hc] <;> rfl)⟩
   ·try refine zW (aN hE (aN hci' (aN hne (aN hneg (aN hadd (aN hdiv (aN hwd (aN hc hs2)))))))) ?_
    exact ⟨.inr trivial, trivial, (by simp only [resOf, resAll, resOne, Env.get, Nat.reduceEqDiff, ↓reduceIte, hc] <;> rfl)⟩
  ·rw [if_neg hneg] at hm
   have hneg : (x % 2 ^ i < 0) = False := eq_false (by omega)
   by_cases hc : 2 ^ (i - 1) <= x % 2 ^ i
   ·try refine zW (aN hE (aN hci' (aN hne (aN hneg (aN hm (aN hdiv (aN hwd (aN hc hs2)))))))) ?_
    exact ⟨.inr trivial, trivial, (by simp only [resOf, resAll, resOne, Env.get, Nat.reduceEqDiff, ↓reduceIte, hc] <;> rfl)⟩
   ·try refine zW (aN hE (aN hci' (aN hne (aN hneg (aN hm (aN hdiv (aN hwd (aN hc hs2)))))))) ?_
    exact ⟨.inr trivial, trivial, (by simp only [resOf, resAll, resOne, Env.get, Nat.reduceEqDiff, ↓reduceIte, hc] <;> rfl)⟩
theorem trim_iso {x n : Int} {w : Nat} (hn : (w : Int) = min (max n 1) 16) (hx : in64 x) : Iso 45 [.int .i64 x, .int .i64 n] (.int .i64 (trimZ x w)) := ⟨_, trimR hn hx⟩
end Go.Proofs.Ytlaeblilmppodaa
namespace Go.V
def copiesF (t : List Nd) (i : Nat) : Int := if (nd t (item t i)).kind = 3 then (nd t (item t i)).num 0 else 1
def stepF (t : List Nd) (kind : Int) (i : Nat) : Int := if kind = 1 then 1 else min (copiesF t i) 100
def sumF (t : List Nd) (kind : Int) : Nat -> Int
 | 0 => 0
 | i + 1 => if sumF t kind i < 100 /\ (nd t i).kind = kind then sumF t kind i + stepF t kind i else sumF t kind i
theorem sum_big {t : List Nd} {kind : Int} {i : Nat} (h : 100 <= sumF t kind i) : ∀ {j : Nat}, i <= j -> sumF t kind j = sumF t kind i
 | 0, hj => by
   obtain rfl : i = 0 := by omega
   rfl
 | j + 1, hj => by
   by_cases e : i = j + 1
   ·subst e; rfl
   ·have ih := sum_big h (j := j) (by omega)
    rw [sumF, if_neg (by omega), ih]
structure FineAt (t : List Nd) (i : Nat) : Prop where
 chan : (nd t i).kind = 1 -> 1 <= (nd t i).num 0 /\ (nd t i).num 0 <= 3 /\ 1 <= (nd t i).num 1 /\ (nd t i).num 1 <= 8 /\ sumF t 1 (i + 1) <= 3
 var : (nd t i).kind = 2 -> 1 <= (nd t i).num 0 /\ (nd t i).num 0 <= 8 /\ trimZ ((nd t i).num 1) ((nd t i).num 0).toNat = (nd t i).num 1 /\ sumF t 2 (i + 1) <= 8
 proc : (nd t i).kind = 3 -> 1 <= (nd t i).num 0 /\ sumF t 3 (i + 1) <= 4
 lit : (nd t i).kind = 17 -> (nd t i).num 0 <= 127
structure Typed (t : List Nd) : Prop where
 fine : ∀ i, i < t.length -> FineAt t i
theorem item_le {t : List Nd} (h : RightT t) {i : Nat} (hi : i < t.length) : item t i <= i := by
 by_cases h0 : i = 0
 ·subst h0
  have : item t 0 = 0 := itemF_late fun k hk => by have := h.subs.mem k hk; omega
  omega
 ·obtain ⟨b, _, _, h3, _⟩ := item_in h (by omega) hi
  exact h3
theorem copies_in {t : List Nd} (h : RightT t) {i : Nat} (hi : i < t.length) : 0 <= copiesF t i /\ copiesF t i <= 999999 := by
 have := item_le h hi
 unfold copiesF
 split
 ·rename_i h3
  exact (h.ok.node _ (by omega)).copies h3
 ·omega
theorem step_in {t : List Nd} (h : RightT t) {kind : Int} {i : Nat} (hi : i < t.length) : 0 <= stepF t kind i /\ stepF t kind i <= 100 := by
 have := copies_in h hi
 unfold stepF
 split <;> omega
theorem sum_in {t : List Nd} (h : RightT t) {kind : Int} : ∀ {i : Nat}, i <= t.length -> 0 <= sumF t kind i /\ sumF t kind i < 200
 | 0, _ => by simp [sumF]
 | i + 1, hi => by
   have ih := sum_in h (kind := kind) (i := i) (by omega)
   have := step_in h (kind := kind) (i := i) (by omega)
   rw [sumF]
   split <;> omega
end Go.V
namespace Go.Proofs.Ytlaeblilmppodaa
open Go.V
set_option maxRecDepth 100000
set_option maxHeartbeats 4000000
theorem num_idx {x : Nd} (hx : x.Ok) {i : Nat} (h : i < x.nums.length) : idxAV 1 x.dn (.int .i64 (i : Int)) = some (.fp [.int .i64 (x.num i)] 0) := by rw [num_get h]; exact FI.idx hx.n h
theorem copies_ok {d : D} {t : List Nd} (hT : TreeAt d t) (hR : RightT t) {i : Nat} (hi : i < t.length) : Iso 121 [d, .int .i64 (i : Int)] (.int .i64 (copiesF t i)) := by
 refine iso_of ?_
 have hit := item_ok hT hR hi
 have hle := item_le hR hi
 have hidx := hT.at (z := (item t i : Int)) (by omega) (by omega) (k := .i64)
 rw [Int.toNat_natCast] at hidx
 have hx := hT.nd (i := item t i) (by omega)
 have o1 := FL.one hx.w
 have o2 := FL.one hx.n
 have o3 := FL.one hx.k
 unfold copiesF
 by_cases c : (nd t (item t i)).kind = 3
 ·have c' : ((nd t (item t i)).kind == 3) = true := by rw [c]; rfl
  have hnl : (nd t (item t i)).nums.length = 1 := by rw [(hR.ok.node _ (by omega)).nl, c]; rfl
  have n0 := num_idx hx (i := 0) (by omega)
  have z0 : ((0 : Nat) : Int) = 0 := rfl
  rw [z0] at n0
  rw [if_pos c]
  refine evp_of (vf := vf121) rfl ?_
  unfold vf121; refine zE ?_
  repeat first
  |(apply vq_isoI hit rfl rfl (fz2 hT.fz fz_int))
  |refine zW (aN hidx (aN o1 (aN o2 (aN o3 (aN c' n0))))) ?_
  exact ⟨.inr trivial, _, rR, rfl⟩
 ·have c' : ((nd t (item t i)).kind == 3) = false := by rw [beq_eq_false_iff_ne]; exact c
  rw [if_neg c]
  refine evp_of (vf := vf121) rfl ?_
  unfold vf121; refine zE ?_
  repeat first
  |(apply vq_isoI hit rfl rfl (fz2 hT.fz fz_int))
  |refine zW (aN hidx (aN o1 (aN o2 (aN o3 c')))) ?_
  exact ⟨.inr trivial, _, rR, rfl⟩
theorem sum_ok {d : D} {t : List Nd} (hT : TreeAt d t) (hR : RightT t) {i : Nat} (hi : i < t.length) {kind : Int} : Iso 104 [d, .int .i64 (i : Int), .int .i64 kind] (.int .i64 (sumF t kind (i + 1))) := by
 refine iso_of ?_
 have hle := hR.ok.le
 refine evp_of (vf := vf104) rfl ?_
 unfold vf104; refine zE ?_
 try refine zW0 ?_
 refine vw_loop_inv (Q := Out' 0 _) (fun n env s => ∃ j : Nat, j <= i + 1 /\ n = i + 1 - j /\ (env.get 0 = d /\ env.get 1 = .int .i64 (i : Int) /\ env.get 2 = .int .i64 kind /\ env.get 7 = .int .i64 (sumF t kind j) /\ env.get 8 = .int .i64 (j : Int))) ?_ (i + 1) _ _ ⟨0, by omega, rfl, by simp [Env.get, sumF]⟩
 rintro n env s ⟨j, hj, rfl, hE⟩
 have hsi := sum_in hR (kind := kind) (i := j) (by omega)
 by_cases c1 : j <= i
 ·have c1' : ((j : Int) <= (i : Int)) = True := eq_true (by omega)
  have hs : IntKind.i64.wrap ((j : Int) + 1) = ((j + 1 : Nat) : Int) := by rw [i64_id (by omega) (by omega)]; omega
  by_cases c2 : sumF t kind j < 100
  ·have hidx := hT.at (z := (j : Int)) (by omega) (by omega) (k := .i64)
   rw [Int.toNat_natCast] at hidx
   have hx := hT.nd (i := j) (by omega)
   have o1 := FL.one hx.w
   have o2 := FL.one hx.n
   have o3 := FL.one hx.k
   by_cases c3 : (nd t j).kind = kind
   ·have c3' : ((nd t j).kind != kind) = false := by rw [c3]; simp
    have hst : sumF t kind (j + 1) = sumF t kind j + stepF t kind j := by rw [sumF, if_pos ⟨c2, c3⟩]
    have hsr := step_in hR (kind := kind) (i := j) (by omega)
    by_cases c4 : kind = 1
    ·have c4' : (kind == 1) = true := by rw [c4]; rfl
     have hw : IntKind.i64.wrap (sumF t kind j + 1) = sumF t kind (j + 1) := by rw [i64_id (by omega) (by omega), hst, stepF, if_pos c4]
     try refine zW (aN hE (aN c1' (aN c2 (aN hidx (aN o1 (aN o2 (aN o3 (aN c3' (aN c4' (aN hw hs)))))))))) ?_
     exact ⟨i + 1 - (j + 1), by omega, j + 1, by omega, rfl, (rG hE)⟩
    ·have c4' : (kind == 1) = false := by rw [beq_eq_false_iff_ne]; exact c4
     have hc := copies_ok hT hR (i := j) (by omega)
     have hcr := copies_in hR (i := j) (by omega)
     have hw : IntKind.i64.wrap (sumF t kind j + min (copiesF t j) 100) = sumF t kind (j + 1) := by rw [i64_id (by omega) (by omega), hst, stepF, if_neg c4]
     repeat first
     |(apply vq_isoI hc rfl; (focus (simp only [Env.evL, Env.ev, Env.get, Nat.reduceEqDiff, ↓reduceIte, hE])); (focus exact fz2 hT.fz fz_int))
     |refine zW (aN hE (aN c1' (aN c2 (aN hidx (aN o1 (aN o2 (aN o3 (aN c3' (aN c4' (aN hw hs)))))))))) ?_
     exact ⟨i + 1 - (j + 1), by omega, j + 1, by omega, rfl, (rG hE)⟩
   ·have c3' : ((nd t j).kind != kind) = true := by rw [bne_iff_ne]; exact c3
    have hst : sumF t kind (j + 1) = sumF t kind j := by rw [sumF, if_neg fun h => c3 h.2]
    try refine zW (aN hE (aN c1' (aN c2 (aN hidx (aN o1 (aN o2 (aN o3 (aN c3' hs)))))))) ?_
    exact ⟨i + 1 - (j + 1), by omega, j + 1, by omega, rfl, by simp only [Env.get, Nat.reduceEqDiff, ↓reduceIte, hE, hst, and_self]⟩
  ·have hb := sum_big (t := t) (kind := kind) (i := j) (by omega) (j := i + 1) (by omega)
   try refine zW (aN hE (aN c1' c2)) ?_
   exact ⟨.inr trivial, _, rR, by rw [hb]⟩
 ·have c1' : ((j : Int) <= (i : Int)) = False := eq_false (by omega)
  obtain rfl : j = i + 1 := by omega
  try refine zW (aN hE c1') ?_
  exact ⟨.inr trivial, _, rR, rfl⟩
theorem inside_ok {d : D} {t : List Nd} (hT : TreeAt d t) (hR : RightT t) {z : Int} : ∀ (f a : Nat), a < t.length -> t.length - a < f -> IsoB 105 [d, .int .i64 z, .int .i64 (a : Int)] fun _ => True
 | 0, a, _, h => by omega
 | f + 1, a, ha, hf => by
   refine isoB_of ?_
   have hidx := hT.at (z := (a : Int)) (by omega) (by omega) (k := .i64)
   rw [Int.toNat_natCast] at hidx
   have hx := hT.nd ha
   have o1 := FL.one hx.w
   have o2 := FL.one hx.n
   have o3 := FL.one hx.k
   have hlk := FI.len hx.k
   refine evp_of (vf := vf105) rfl ?_
   unfold vf105; refine zE ?_
   try refine zW0 ?_
   refine vw_loop_inv (Q := Out' 0 _) (fun n env s => ∃ j : Nat, j <= (nd t a).kids.length /\ n = (nd t a).kids.length - j /\ (env.get 0 = d /\ env.get 1 = .int .i64 z /\ env.get 2 = .int .i64 (a : Int) /\ env.get 7 = .int .i64 (j : Int))) ?_ (nd t a).kids.length _ _ ⟨0, by omega, rfl, by simp [Env.get]⟩
   rintro n env s ⟨j, hj, rfl, hE⟩
   by_cases c1 : j < (nd t a).kids.length
   ·have c1' : ((j : Int) < ((nd t a).kids.length : Int)) = True := eq_true (by omega)
    have hki := FI.idx hx.k c1 (k := .i64)
    have hs := succ63 c1 hx.kl
    have hkr := hR.ok.kids a ha _ (List.getElem_mem c1)
    obtain ⟨k, hk⟩ : ∃ k : Nat, (nd t a).kids[j] = (k : Int) := ⟨(nd t a).kids[j].toNat, by omega⟩
    rw [hk] at hki hkr
    obtain ⟨b, hb, _⟩ := inside_ok hT hR (z := z) f k (by omega) (by omega)
    cases c2 : ((k : Int) == z)
    ·cases b
     ·repeat first
      |(apply vq_isoI hb rfl; (focus (simp only [Env.evL, Env.ev, Env.get, Nat.reduceEqDiff, ↓reduceIte, hE])); (focus exact fz3 hT.fz fz_int fz_int))
      |refine zW (aN hE (aN hidx (aN o1 (aN o2 (aN o3 (aN hlk (aN c1' (aN hki (aN c2 hs))))))))) ?_
      exact ⟨(nd t a).kids.length - (j + 1), by omega, j + 1, by omega, rfl, (rG hE)⟩
     ·repeat first
      |(apply vq_isoI hb rfl; (focus (simp only [Env.evL, Env.ev, Env.get, Nat.reduceEqDiff, ↓reduceIte, hE])); (focus exact fz3 hT.fz fz_int fz_int))
      |refine zW (aN hE (aN hidx (aN o1 (aN o2 (aN o3 (aN hlk (aN c1' (aN hki c2)))))))) ?_
      exact ⟨.inr trivial, _, rR, _, rfl, trivial⟩
    ·try refine zW (aN hE (aN hidx (aN o1 (aN o2 (aN o3 (aN hlk (aN c1' (aN hki c2)))))))) ?_
     exact ⟨.inr trivial, _, rR, _, rfl, trivial⟩
   ·have c1' : ((j : Int) < ((nd t a).kids.length : Int)) = False := eq_false (by omega)
    try refine zW (aN hE (aN hidx (aN o1 (aN o2 (aN o3 (aN hlk c1')))))) ?_
    exact ⟨.inr trivial, _, rR, _, rfl, trivial⟩
end Go.Proofs.Ytlaeblilmppodaa
namespace Go.Proofs.Ytlaeblilmppodaa
open Go.V
set_option maxRecDepth 100000
set_option maxHeartbeats 4000000
def IsoE (f : Nat) (l : List D) (P : Prop) : Prop := ∃ e : Int, Iso f l (.int .i64 e) /\ (e = 0 -> P)
theorem isoE_of {f : Nat} {l : List D} {P : Prop} (h : EvP vfs f l Store.empty fun d _ => ∃ e : Int, d = .int .i64 e /\ (e = 0 -> P)) : IsoE f l P := by
 obtain ⟨d, s', h, e, rfl, hp⟩ := h
 exact ⟨e, ⟨s', h⟩, hp⟩
theorem wrong_1 {d : D} {t : List Nd} (hT : TreeAt d t) (hR : RightT t) {i : Nat} (hi : i < t.length) (hK : (nd t i).kind = 1) : IsoE 80 [d, .int .i64 (i : Int)] (FineAt t i) := by
 refine isoE_of ?_
 have hidx := hT.at (z := (i : Int)) (by omega) (by omega) (k := .i64)
 rw [Int.toNat_natCast] at hidx
 have hx := hT.nd hi
 have hnode := hR.ok.node i hi
 have hle := hR.ok.le
 have o1 := FL.one hx.w
 have o2 := FL.one hx.n
 have o3 := FL.one hx.k
 have hnl : (nd t i).nums.length = 4 := by rw [hnode.nl, hK]; rfl
 have n0 : idxAV 1 (nd t i).dn (.int .i64 0) = some (.fp [.int .i64 ((nd t i).num 0)] 0) := num_idx hx (i := 0) (by omega)
 have n1 : idxAV 1 (nd t i).dn (.int .i64 1) = some (.fp [.int .i64 ((nd t i).num 1)] 0) := num_idx hx (i := 1) (by omega)
 rw [hK] at hidx
 have hs := sum_ok hT hR hi (kind := 1)
 by_cases e0 : (nd t i).num 0 < 1
 ·have d0 : ((nd t i).num 0 < 1) = True := eq_true e0
  refine evp_of (vf := vf80) rfl ?_
  unfold vf80; refine zE ?_
  repeat first
  |(apply vq_isoI hs rfl rfl (fz3 hT.fz fz_int fz_int))
  |refine zW (aN hidx (aN o1 (aN o2 (aN o3 (aN n0 (aN n1 d0)))))) ?_
  exact ⟨.inr trivial, _, rR, _, rfl, by simp⟩
 have d0 : ((nd t i).num 0 < 1) = False := eq_false e0
 by_cases e1 : 3 < (nd t i).num 0
 ·have d1 : (3 < (nd t i).num 0) = True := eq_true e1
  refine evp_of (vf := vf80) rfl ?_
  unfold vf80; refine zE ?_
  repeat first
  |(apply vq_isoI hs rfl rfl (fz3 hT.fz fz_int fz_int))
  |refine zW (aN hidx (aN o1 (aN o2 (aN o3 (aN n0 (aN n1 (aN d0 d1))))))) ?_
  exact ⟨.inr trivial, _, rR, _, rfl, by simp⟩
 have d1 : (3 < (nd t i).num 0) = False := eq_false e1
 by_cases e2 : (nd t i).num 1 < 1
 ·have d2 : ((nd t i).num 1 < 1) = True := eq_true e2
  refine evp_of (vf := vf80) rfl ?_
  unfold vf80; refine zE ?_
  repeat first
  |(apply vq_isoI hs rfl rfl (fz3 hT.fz fz_int fz_int))
  |refine zW (aN hidx (aN o1 (aN o2 (aN o3 (aN n0 (aN n1 (aN d0 (aN d1 d2)))))))) ?_
  exact ⟨.inr trivial, _, rR, _, rfl, by simp⟩
 have d2 : ((nd t i).num 1 < 1) = False := eq_false e2
 by_cases e3 : 8 < (nd t i).num 1
 ·have d3 : (8 < (nd t i).num 1) = True := eq_true e3
  refine evp_of (vf := vf80) rfl ?_
  unfold vf80; refine zE ?_
  repeat first
  |(apply vq_isoI hs rfl rfl (fz3 hT.fz fz_int fz_int))
  |refine zW (aN hidx (aN o1 (aN o2 (aN o3 (aN n0 (aN n1 (aN d0 (aN d1 (aN d2 d3))))))))) ?_
  exact ⟨.inr trivial, _, rR, _, rfl, by simp⟩
 have d3 : (8 < (nd t i).num 1) = False := eq_false e3
 by_cases e4 : 3 < sumF t 1 (i + 1)
 ·have d4 : (3 < sumF t 1 (i + 1)) = True := eq_true e4
  refine evp_of (vf := vf80) rfl ?_
  unfold vf80; refine zE ?_
  repeat first
  |(apply vq_isoI hs rfl rfl (fz3 hT.fz fz_int fz_int))
  |refine zW (aN hidx (aN o1 (aN o2 (aN o3 (aN n0 (aN n1 (aN d0 (aN d1 (aN d2 (aN d3 d4)))))))))) ?_
  exact ⟨.inr trivial, _, rR, _, rfl, by simp⟩
 have d4 : (3 < sumF t 1 (i + 1)) = False := eq_false e4
 refine evp_of (vf := vf80) rfl ?_
 unfold vf80; refine zE ?_
 repeat first
 |(apply vq_isoI hs rfl rfl (fz3 hT.fz fz_int fz_int))
 |refine zW (aN hidx (aN o1 (aN o2 (aN o3 (aN n0 (aN n1 (aN d0 (aN d1 (aN d2 (aN d3 d4)))))))))) ?_
 exact ⟨.inr trivial, _, rR, _, rfl, fun _ => ⟨fun _ => by omega, fun h => by omega, fun h => by omega, fun h => by omega⟩⟩
theorem wrong_2 {d : D} {t : List Nd} (hT : TreeAt d t) (hR : RightT t) {i : Nat} (hi : i < t.length) (hK : (nd t i).kind = 2) : IsoE 80 [d, .int .i64 (i : Int)] (FineAt t i) := by
 refine isoE_of ?_
 have hidx := hT.at (z := (i : Int)) (by omega) (by omega) (k := .i64)
 rw [Int.toNat_natCast] at hidx
 have hx := hT.nd hi
 have hnode := hR.ok.node i hi
 have hle := hR.ok.le
 have o1 := FL.one hx.w
 have o2 := FL.one hx.n
 have o3 := FL.one hx.k
 have hnl : (nd t i).nums.length = 2 := by rw [hnode.nl, hK]; rfl
 have n0 : idxAV 1 (nd t i).dn (.int .i64 0) = some (.fp [.int .i64 ((nd t i).num 0)] 0) := num_idx hx (i := 0) (by omega)
 have n1 : idxAV 1 (nd t i).dn (.int .i64 1) = some (.fp [.int .i64 ((nd t i).num 1)] 0) := num_idx hx (i := 1) (by omega)
 rw [hK] at hidx
 have hs := sum_ok hT hR hi (kind := 2)
 have hv := hnode.var hK
 by_cases e0 : (nd t i).num 0 < 1
 ·have d0 : ((nd t i).num 0 < 1) = True := eq_true e0
  refine evp_of (vf := vf80) rfl ?_
  unfold vf80; refine zE ?_
  repeat first
  |(apply vq_isoI hs rfl rfl (fz3 hT.fz fz_int fz_int))
  |refine zW (aN hidx (aN o1 (aN o2 (aN o3 (aN n0 (aN n1 d0)))))) ?_
  exact ⟨.inr trivial, _, rR, _, rfl, by simp⟩
 have d0 : ((nd t i).num 0 < 1) = False := eq_false e0
 by_cases e1 : 8 < (nd t i).num 0
 ·have d1 : (8 < (nd t i).num 0) = True := eq_true e1
  refine evp_of (vf := vf80) rfl ?_
  unfold vf80; refine zE ?_
  repeat first
  |(apply vq_isoI hs rfl rfl (fz3 hT.fz fz_int fz_int))
  |refine zW (aN hidx (aN o1 (aN o2 (aN o3 (aN n0 (aN n1 (aN d0 d1))))))) ?_
  exact ⟨.inr trivial, _, rR, _, rfl, by simp⟩
 have d1 : (8 < (nd t i).num 0) = False := eq_false e1
 have ht := trim_iso (x := (nd t i).num 1) (n := (nd t i).num 0) (w := ((nd t i).num 0).toNat) (by omega) ⟨by omega, by omega⟩
 by_cases e2 : trimZ ((nd t i).num 1) ((nd t i).num 0).toNat = (nd t i).num 1
 ·have d2 : (trimZ ((nd t i).num 1) ((nd t i).num 0).toNat != (nd t i).num 1) = false := by rw [e2]; simp
  by_cases e3 : 8 < sumF t 2 (i + 1)
  ·have d3 : (8 < sumF t 2 (i + 1)) = True := eq_true e3
   refine evp_of (vf := vf80) rfl ?_
   unfold vf80; refine zE ?_
   repeat first
   |(apply vq_isoI hs rfl rfl (fz3 hT.fz fz_int fz_int))
   |(apply vq_isoI ht rfl rfl (fz2 fz_int fz_int))
   |refine zW (aN hidx (aN o1 (aN o2 (aN o3 (aN n0 (aN n1 (aN d0 (aN d1 (aN d2 d3))))))))) ?_
   exact ⟨.inr trivial, _, rR, _, rfl, by simp⟩
  ·have d3 : (8 < sumF t 2 (i + 1)) = False := eq_false e3
   refine evp_of (vf := vf80) rfl ?_
   unfold vf80; refine zE ?_
   repeat first
   |(apply vq_isoI hs rfl rfl (fz3 hT.fz fz_int fz_int))
   |(apply vq_isoI ht rfl rfl (fz2 fz_int fz_int))
   |refine zW (aN hidx (aN o1 (aN o2 (aN o3 (aN n0 (aN n1 (aN d0 (aN d1 (aN d2 d3))))))))) ?_
   exact ⟨.inr trivial, _, rR, _, rfl, fun _ => ⟨fun h => by omega, fun _ => ⟨by omega, by omega, e2, by omega⟩, fun h => by omega, fun h => by omega⟩⟩
 ·have d2 : (trimZ ((nd t i).num 1) ((nd t i).num 0).toNat != (nd t i).num 1) = true := by rw [bne_iff_ne]; exact e2
  refine evp_of (vf := vf80) rfl ?_
  unfold vf80; refine zE ?_
  repeat first
  |(apply vq_isoI hs rfl rfl (fz3 hT.fz fz_int fz_int))
  |(apply vq_isoI ht rfl rfl (fz2 fz_int fz_int))
  |refine zW (aN hidx (aN o1 (aN o2 (aN o3 (aN n0 (aN n1 (aN d0 (aN d1 d2)))))))) ?_
  exact ⟨.inr trivial, _, rR, _, rfl, by simp⟩
theorem wrong_3 {d : D} {t : List Nd} (hT : TreeAt d t) (hR : RightT t) {i : Nat} (hi : i < t.length) (hK : (nd t i).kind = 3) : IsoE 80 [d, .int .i64 (i : Int)] (FineAt t i) := by
 refine isoE_of ?_
 have hidx := hT.at (z := (i : Int)) (by omega) (by omega) (k := .i64)
 rw [Int.toNat_natCast] at hidx
 have hx := hT.nd hi
 have hnode := hR.ok.node i hi
 have hle := hR.ok.le
 have o1 := FL.one hx.w
 have o2 := FL.one hx.n
 have o3 := FL.one hx.k
 have hnl : (nd t i).nums.length = 1 := by rw [hnode.nl, hK]; rfl
 have n0 : idxAV 1 (nd t i).dn (.int .i64 0) = some (.fp [.int .i64 ((nd t i).num 0)] 0) := num_idx hx (i := 0) (by omega)
 rw [hK] at hidx
 have hs := sum_ok hT hR hi (kind := 3)
 by_cases e0 : (nd t i).num 0 < 1
 ·have d0 : ((nd t i).num 0 < 1) = True := eq_true e0
  refine evp_of (vf := vf80) rfl ?_
  unfold vf80; refine zE ?_
  repeat first
  |(apply vq_isoI hs rfl rfl (fz3 hT.fz fz_int fz_int))
  |refine zW (aN hidx (aN o1 (aN o2 (aN o3 (aN n0 d0))))) ?_
  exact ⟨.inr trivial, _, rR, _, rfl, by simp⟩
 have d0 : ((nd t i).num 0 < 1) = False := eq_false e0
 by_cases e1 : 4 < sumF t 3 (i + 1)
 ·have d1 : (4 < sumF t 3 (i + 1)) = True := eq_true e1
  refine evp_of (vf := vf80) rfl ?_
  unfold vf80; refine zE ?_
  repeat first
  |(apply vq_isoI hs rfl rfl (fz3 hT.fz fz_int fz_int))
  |refine zW (aN hidx (aN o1 (aN o2 (aN o3 (aN n0 (aN d0 d1)))))) ?_
  exact ⟨.inr trivial, _, rR, _, rfl, by simp⟩
 have d1 : (4 < sumF t 3 (i + 1)) = False := eq_false e1
 refine evp_of (vf := vf80) rfl ?_
 unfold vf80; refine zE ?_
 repeat first
 |(apply vq_isoI hs rfl rfl (fz3 hT.fz fz_int fz_int))
 |refine zW (aN hidx (aN o1 (aN o2 (aN o3 (aN n0 (aN d0 d1)))))) ?_
 exact ⟨.inr trivial, _, rR, _, rfl, fun _ => ⟨fun h => by omega, fun h => by omega, fun _ => by omega, fun h => by omega⟩⟩
theorem wrong_17 {d : D} {t : List Nd} (hT : TreeAt d t) (hR : RightT t) {i : Nat} (hi : i < t.length) (hK : (nd t i).kind = 17) : IsoE 80 [d, .int .i64 (i : Int)] (FineAt t i) := by
 refine isoE_of ?_
 have hidx := hT.at (z := (i : Int)) (by omega) (by omega) (k := .i64)
 rw [Int.toNat_natCast] at hidx
 have hx := hT.nd hi
 have hnode := hR.ok.node i hi
 have hle := hR.ok.le
 have o1 := FL.one hx.w
 have o2 := FL.one hx.n
 have o3 := FL.one hx.k
 have hnl : (nd t i).nums.length = 1 := by rw [hnode.nl, hK]; rfl
 have n0 : idxAV 1 (nd t i).dn (.int .i64 0) = some (.fp [.int .i64 ((nd t i).num 0)] 0) := num_idx hx (i := 0) (by omega)
 rw [hK] at hidx
 by_cases e0 : 127 < (nd t i).num 0
 ·have d0 : (127 < (nd t i).num 0) = True := eq_true e0
  refine evp_of (vf := vf80) rfl ?_
  unfold vf80; refine zE ?_
  try refine zW (aN hidx (aN o1 (aN o2 (aN o3 (aN n0 d0))))) ?_
  exact ⟨.inr trivial, _, rR, _, rfl, by simp⟩
 have d0 : (127 < (nd t i).num 0) = False := eq_false e0
 refine evp_of (vf := vf80) rfl ?_
 unfold vf80; refine zE ?_
 try refine zW (aN hidx (aN o1 (aN o2 (aN o3 (aN n0 d0))))) ?_
 exact ⟨.inr trivial, _, rR, _, rfl, fun _ => ⟨fun h => by omega, fun h => by omega, fun h => by omega, fun _ => by omega⟩⟩
theorem wrong_13 {d : D} {t : List Nd} (hT : TreeAt d t) (hR : RightT t) {i : Nat} (hi : i < t.length) (hK : (nd t i).kind = 13) : IsoE 80 [d, .int .i64 (i : Int)] (FineAt t i) := by
 refine isoE_of ?_
 have hidx := hT.at (z := (i : Int)) (by omega) (by omega) (k := .i64)
 rw [Int.toNat_natCast] at hidx
 have hx := hT.nd hi
 have hnode := hR.ok.node i hi
 have hle := hR.ok.le
 have o1 := FL.one hx.w
 have o2 := FL.one hx.n
 have o3 := FL.one hx.k
 rw [hK] at hidx
 refine evp_of (vf := vf80) rfl ?_
 unfold vf80; refine zE ?_
 try refine zW (aN hidx (aN o1 (aN o2 o3))) ?_
 refine vw_loop_inv (Q := Out' 1 _) (fun n env s => ∃ j : Nat, j <= i /\ n = i - j /\ (env.get 0 = d /\ env.get 1 = .int .i64 (i : Int) /\ env.get 6 = .bool false /\ env.get 7 = .int .i64 (j : Int))) ?_ i _ _ ⟨0, by omega, rfl, by simp [Env.get]⟩
 rintro n env s ⟨j, hj, rfl, hE⟩
 by_cases c1 : j < i
 ·have c1' : ((j : Int) < (i : Int)) = True := eq_true (by omega)
  have hs : IntKind.i64.wrap ((j : Int) + 1) = ((j + 1 : Nat) : Int) := by rw [i64_id (by omega) (by omega)]; omega
  have hjdx := hT.at (z := (j : Int)) (by omega) (by omega) (k := .i64)
  rw [Int.toNat_natCast] at hjdx
  have hy := hT.nd (i := j) (by omega)
  have q1 := FL.one hy.w
  have q2 := FL.one hy.n
  have q3 := FL.one hy.k
  obtain ⟨b, hb, _⟩ := inside_ok hT hR (z := (i : Int)) (t.length + 1) j (by omega) (by omega)
  by_cases c2 : (nd t j).kind = 13
  ·have c2' : ((nd t j).kind == 13) = true := by rw [c2]; rfl
   cases b
   ·repeat first
    |(apply vq_isoI hb rfl; (focus (simp only [Env.evL, Env.ev, Env.get, Nat.reduceEqDiff, ↓reduceIte, hE])); (focus exact fz3 hT.fz fz_int fz_int))
    |refine zW (aN hE (aN hjdx (aN q1 (aN q2 (aN q3 (aN c1' (aN c2' hs))))))) ?_
    exact ⟨i - (j + 1), by omega, j + 1, by omega, rfl, (rG hE)⟩
   ·repeat first
    |(apply vq_isoI hb rfl; (focus (simp only [Env.evL, Env.ev, Env.get, Nat.reduceEqDiff, ↓reduceIte, hE])); (focus exact fz3 hT.fz fz_int fz_int))
    |refine zW (aN hE (aN hjdx (aN q1 (aN q2 (aN q3 (aN c1' c2')))))) ?_
    exact ⟨.inr trivial, _, rR, _, rfl, by simp⟩
  ·have c2' : ((nd t j).kind == 13) = false := by rw [beq_eq_false_iff_ne]; exact c2
   try refine zW (aN hE (aN hjdx (aN q1 (aN q2 (aN q3 (aN c1' (aN c2' hs))))))) ?_
   exact ⟨i - (j + 1), by omega, j + 1, by omega, rfl, (rG hE)⟩
 ·have c1' : ((j : Int) < (i : Int)) = False := eq_false (by omega)
  try refine zW (aN hE c1') ?_
  exact ⟨.inr trivial, _, rR, _, rfl, fun _ => ⟨fun h => by omega, fun h => by omega, fun h => by omega, fun h => by omega⟩⟩
theorem wrong_x {d : D} {t : List Nd} (hT : TreeAt d t) (hR : RightT t) {i : Nat} (hi : i < t.length) (hK : (nd t i).kind ≠ 1 /\ (nd t i).kind ≠ 2 /\ (nd t i).kind ≠ 3 /\ (nd t i).kind ≠ 13 /\ (nd t i).kind ≠ 17) : IsoE 80 [d, .int .i64 (i : Int)] (FineAt t i) := by
 refine isoE_of ?_
 have hidx := hT.at (z := (i : Int)) (by omega) (by omega) (k := .i64)
 rw [Int.toNat_natCast] at hidx
 have hx := hT.nd hi
 have hnode := hR.ok.node i hi
 have hle := hR.ok.le
 have o1 := FL.one hx.w
 have o2 := FL.one hx.n
 have o3 := FL.one hx.k
 have n1 : ((nd t i).kind == 1) = false := by rw [beq_eq_false_iff_ne]; omega
 have n2 : ((nd t i).kind == 2) = false := by rw [beq_eq_false_iff_ne]; omega
 have n3 : ((nd t i).kind == 3) = false := by rw [beq_eq_false_iff_ne]; omega
 have n13 : ((nd t i).kind == 13) = false := by rw [beq_eq_false_iff_ne]; omega
 have n17 : ((nd t i).kind == 17) = false := by rw [beq_eq_false_iff_ne]; omega
 refine evp_of (vf := vf80) rfl ?_
 unfold vf80; refine zE ?_
 try refine zW (aN hidx (aN o1 (aN o2 (aN o3 (aN n1 (aN n2 (aN n3 (aN n13 n17)))))))) ?_
 exact ⟨.inr trivial, _, rR, _, rfl, fun _ => ⟨fun h => by omega, fun h => by omega, fun h => by omega, fun h => by omega⟩⟩
theorem wrong_ok {d : D} {t : List Nd} (hT : TreeAt d t) (hR : RightT t) {i : Nat} (hi : i < t.length) : IsoE 80 [d, .int .i64 (i : Int)] (FineAt t i) := by
 by_cases k1 : (nd t i).kind = 1
 ·exact wrong_1 hT hR hi k1
 by_cases k2 : (nd t i).kind = 2
 ·exact wrong_2 hT hR hi k2
 by_cases k3 : (nd t i).kind = 3
 ·exact wrong_3 hT hR hi k3
 by_cases k13 : (nd t i).kind = 13
 ·exact wrong_13 hT hR hi k13
 by_cases k17 : (nd t i).kind = 17
 ·exact wrong_17 hT hR hi k17
 exact wrong_x hT hR hi ⟨k1, k2, k3, k13, k17⟩
theorem check12_ok {d : D} {t : List Nd} (hT : TreeAt d t) (hR : RightT t) : IsoF 54 [d] (Scoped t /\ Typed t) := by
 refine isoF_of ?_
 have hlen := hT.len
 have hle := hR.ok.le
 obtain ⟨e, a, hc, hp⟩ := check11_ok hT hR
 obtain ⟨sc, hc⟩ := hc
 by_cases c0 : e = 0
 ·subst c0
  refine evp_of (vf := vf54) rfl ?_
  unfold vf54; refine zE ?_
  repeat first
  |(refine vq_iso' rfl (fz1 hT.fz) hc rfl rfl ?_)
  |refine zW0 ?_
  refine vw_loop_inv (Q := Out' 0 _) (fun n env s => ∃ i : Nat, i <= t.length /\ n = t.length - i /\ (∀ j, j < i -> FineAt t j) /\ s.get 0 = some (.cells [.int .i64 0, .int .i64 0]) /\ (env.get 0 = d /\ env.get 2 = .ptr 0 0 /\ env.get 4 = .int .i64 (i : Int))) ?_ t.length _ _ ⟨0, by omega, rfl, fun j h => by omega, rfl, by simp [Env.get, Made.at]; rfl⟩
  rintro n env s ⟨i, hi, rfl, hall, hg, hE⟩
  have hgl := get_lts hg
  by_cases c1 : i < t.length
  ·have c1' : ((i : Int) < (t.length : Int)) = True := eq_true (by omega)
   have hs : IntKind.i64.wrap ((i : Int) + 1) = ((i + 1 : Nat) : Int) := by rw [i64_id (by omega) (by omega)]; omega
   have hidx := hT.at (z := (i : Int)) (by omega) (by omega) (k := .i64)
   rw [Int.toNat_natCast] at hidx
   have hx := hT.nd c1
   have o1 := FL.one hx.w
   have o2 := FL.one hx.n
   have o3 := FL.one hx.k
   obtain ⟨e, hb, hq⟩ := wrong_ok hT hR c1
   by_cases c2 : e = 0
   ·subst c2
    repeat first
    |(apply vq_isoI hb rfl; (focus (simp only [Env.evL, Env.ev, Env.get, Nat.reduceEqDiff, ↓reduceIte, hE])); (focus exact fz2 hT.fz fz_int))
    |refine zW (aN hE (aN hlen (aN c1' hs))) ?_
    refine ⟨t.length - (i + 1), by omega, i + 1, by omega, rfl, fun j h => ?_, hg, (rG hE)⟩
    by_cases e : j = i
    ·subst e; exact hq rfl
    ·exact hall j (by omega)
   ·have c2' : (e != 0) = true := by rw [bne_iff_ne]; exact c2
    repeat first
    |(apply vq_isoI hb rfl; (focus (simp only [Env.evL, Env.ev, Env.get, Nat.reduceEqDiff, ↓reduceIte, hE])); (focus exact fz2 hT.fz fz_int))
    |refine zW (aN hE (aN hlen (aN c1' (aN c2' (aN hidx (aN o1 (aN o2 (aN o3 hg)))))))) ?_
    refine ⟨.inr trivial, _, ?_, e, (nd t i).pos, rfl, fun h => (c2 h).elim⟩
    simp only [resOf, resAll, resOne, Env.get, Nat.reduceEqDiff, ↓reduceIte, hE, get_set_eq hgl]
    rfl
  ·have c1' : ((i : Int) < (t.length : Int)) = False := eq_false (by omega)
   try refine zW (aN hE (aN hlen (aN c1' hg))) ?_
   refine ⟨.inr trivial, _, ?_, 0, 0, rfl, fun _ => ⟨hp rfl, ⟨fun j h => hall j (by omega)⟩⟩⟩
   simp only [resOf, resAll, resOne, Env.get, Nat.reduceEqDiff, ↓reduceIte, hE, get_set_eq hgl]
   rfl
 ·have c0' : (e != 0) = true := by rw [bne_iff_ne]; exact c0
  refine evp_of (vf := vf54) rfl ?_
  unfold vf54; refine zE ?_
  repeat first
  |(refine vq_iso' rfl (fz1 hT.fz) hc rfl rfl ?_)
  |refine zW c0' ?_
  exact ⟨.inr trivial, _, rR, e, a, rfl, fun h => (c0 h).elim⟩
end Go.Proofs.Ytlaeblilmppodaa
namespace Go.V
def SN (s : Store) (sz : Nat) (d : D) (rows : List (List D)) : Prop := (d = .nils /\ rows = []) ∨ (∃ id, d = .arr id 0 rows.length sz /\ s.get id = some (.cells rows.flatten)) ∨ d = .lst sz rows
theorem SN.one {s : Store} {sz : Nat} {d : D} {rows : List (List D)} (h : SN s sz d rows) : oneCell d = true := by
 rcases h with ⟨rfl, _⟩ | ⟨id, rfl, _⟩ | rfl <;> rfl
theorem SN.stay {s s' : Store} {sz : Nat} {d : D} {rows : List (List D)} (h : SN s sz d rows) (hf : Fr [] s s') : SN s' sz d rows := by
 rcases h with h | ⟨id, rfl, h⟩ | h
 ·exact .inl h
 ·exact .inr (.inl ⟨id, rfl, by rw [hf.2 id (get_lts h) (by simp), h]⟩)
 ·exact .inr (.inr h)
theorem SN.len {s : Store} {sz : Nat} {d : D} {rows : List (List D)} (h : SN s sz d rows) : lenV false d = some (.int .i64 (rows.length : Int)) := by
 rcases h with ⟨rfl, rfl⟩ | ⟨id, rfl, _⟩ | rfl <;> rfl
theorem SN.row {s : Store} {sz : Nat} {d : D} {rows : List (List D)} (h : SN s sz d rows) (hr : ∀ r ∈ rows, r.length = sz) : rowOf s.get d = some rows.flatten /\ srcLen d = some rows.length /\ srcSz sz d = true := by
 rcases h with ⟨rfl, rfl⟩ | ⟨id, rfl, h⟩ | rfl
 ·exact ⟨rfl, rfl, rfl⟩
 rotate_left
 ·exact ⟨rfl, rfl, by simp [srcSz]⟩
 ·refine ⟨?_, rfl, by simp [srcSz]⟩
  have hl : rows.flatten.length = rows.length * sz := by
   clear h
   induction rows with
   | nil => simp
   | cons a r ih =>
     rw [List.flatten_cons, List.length_append, ih fun x hx => hr x (by simp [hx]), hr a (by simp), List.length_cons, Nat.succ_mul]
     omega
  simp only [rowOf, h]
  rw [if_pos (by omega), List.drop_zero, List.take_of_length_le (by omega)]
theorem flat_len {sz : Nat} {rows : List (List D)} (hr : ∀ r ∈ rows, r.length = sz) : rows.flatten.length = rows.length * sz := by
 induction rows with
 | nil => simp
 | cons a r ih =>
   rw [List.flatten_cons, List.length_append, ih fun x hx => hr x (by simp [hx]), hr a (by simp), List.length_cons, Nat.succ_mul]
   omega
theorem app_SN {s : Store} {sz bytes id : Nat} {d : D} {old rows : List (List D)} (h : s.get id = some (.cells old.flatten)) (ho : ∀ r ∈ old, r.length = sz) (hd : SN s sz d rows) (hr : ∀ r ∈ rows, r.length = sz) (hb : bytes <= 128) (hl : old.length + rows.length <= 2 ^ 30) :
 ∃ d' s', appendV sz bytes (.arr id 0 old.length sz) d s = some (d', s') /\ ∃ id', d' = .arr id' 0 (old ++ rows).length sz /\ s'.get id' = some (.cells (old ++ rows).flatten) /\ Fr [id] s s' /\ (id' = id ∨ s.next <= id') := by
 have b1 : (old.length + rows.length) * bytes <= 2 ^ 45 := Nat.le_trans (Nat.mul_le_mul hl hb) (by decide)
 have b2 : old.length + rows.length <= 2 ^ 45 := Nat.le_trans hl (by decide)
 have b3 : bytes <= 2 ^ 20 := Nat.le_trans hb (by decide)
 obtain ⟨r1, r2, r3⟩ := hd.row hr
 have hf := flat_len ho
 by_cases hn : rows.length = 0
 ·obtain rfl := List.length_eq_zero_iff.1 hn
  refine ⟨.arr id 0 old.length sz, s, ?_, id, by simp, by simpa using h, Fr.refl _ _, .inl rfl⟩
  unfold appendV
  simp only [r1, r2, r3, b3, decide_true, Bool.and_self, if_true, h, Nat.zero_add, hf, and_self, List.length_nil]
 ·refine ⟨.arr s.next 0 (old.length + rows.length) sz, (s.set id none).push (.cells (old.flatten ++ rows.flatten)), ?_, s.next, by simp, ?_, (Fr.set _ (by simp)).thenPush _, .inr (Nat.le_refl _)⟩
  ·unfold appendV
   simp only [r1, r2, r3, b3, decide_true, Bool.and_self, if_true, h, Nat.zero_add, hf, and_self, hn, if_false, b1, b2, List.drop_zero]
  ·rw [get_push_new (by simp), List.flatten_append]
theorem vq_app {fs : FuncId -> Option VFunc} {i t sz bytes a x rest s Q} {env : Env} {da dx : D} {Φ : D -> Store -> Prop} (hr : ∃ d s', appendV sz bytes da dx s = some (d, s') /\ Φ d s') (ha : env.ev a = da) (hx : env.ev x = dx)
 (h : ∀ d s', Φ d s' -> WQ fs [] rest ((t, d) :: env) s' Q) : WQ fs [] ((i, ⟨some t, .m (.append sz bytes a x), none⟩) :: rest) env s Q := by
 obtain ⟨d, s', h1, h2⟩ := hr
 exact vq_append' ha hx h1 (h d s' h2)
theorem SN.of {s : Store} {sz id n : Nat} {rows : List (List D)} (h : s.get id = some (.cells rows.flatten)) (hn : rows.length = n) : SN s sz (.arr id 0 n sz) rows := .inr (.inl ⟨id, by rw [hn], h⟩)
theorem flat_get : ∀ {sz : Nat} {rows : List (List D)}, (∀ r ∈ rows, r.length = sz) -> ∀ {i f : Nat} (hi : i < rows.length), f < sz -> rows.flatten[i * sz + f]? = rows[i][f]?
 | sz, [], _, i, f, hi, _ => by simp at hi
 | sz, a :: r, hr, 0, f, _, hf => by
   rw [Nat.zero_mul, Nat.zero_add, List.flatten_cons, List.getElem?_append_left (by rw [hr a (by simp)]; exact hf)]
   rfl
 | sz, a :: r, hr, i + 1, f, hi, hf => by
   have ha := hr a (by simp)
   rw [List.flatten_cons, List.getElem?_append_right (by rw [ha, Nat.succ_mul]; omega), ha, show (i + 1) * sz + f - sz = i * sz + f by rw [Nat.succ_mul]; omega]
   exact flat_get (fun x hx => hr x (by simp [hx])) (by simpa using hi) hf
theorem SN.get1 {s : Store} {sz : Nat} {d : D} {rows : List (List D)} (h : SN s sz d rows) (hr : ∀ r ∈ rows, r.length = sz) {i : Nat} (hi : i < rows.length) {c : D} (hc : (rows[i])[0]? = some c) (ho : oneCell c = true) (hz : 0 < sz) : ∃ p, idxAV sz d (.int .i64 (i : Int)) = some p /\ ldV s.get none p = some c /\ ∀ id off, p = .ptr id off -> id < s.next := by
 rcases h with ⟨_, rfl⟩ | ⟨id, rfl, hg⟩ | rfl
 ·simp at hi
 ·refine ⟨.ptr id (i * sz), ?_, ?_, ?_⟩
  ·simp only [idxAV]
   rw [if_pos ⟨trivial, by omega, by omega⟩]
   simp
  ·simp only [ldV, hg, pull]
   have := flat_get hr hi (f := 0) hz
   rw [Nat.add_zero] at this
   rw [this, hc]
   simp [ho]
  ·rintro a b e
   cases e
   exact get_lts hg
 ·refine ⟨.fp rows[i] 0, by simp [idxAV, hi], ?_, by simp⟩
  simp only [ldV, pull, hc, ho, if_true]
def rowsN (l : List Nat) : List (List D) := l.map fun (n : Nat) => [.int .i64 (n : Int)]
def rowsB (l : List Bool) : List (List D) := l.map fun b => [.bool b]
def rowsS (l : List ByteArray) : List (List D) := l.map fun x => [.str x]
def rowsE (l : List Ed) : List (List D) := l.map Ed.row
theorem rowsB_len (l : List Bool) : ∀ r ∈ rowsB l, r.length = 1 := by intro r h; obtain ⟨b, _, rfl⟩ := List.mem_map.1 h; rfl
theorem rowsE_len (l : List Ed) : ∀ r ∈ rowsE l, r.length = 8 := by intro r h; obtain ⟨b, _, rfl⟩ := List.mem_map.1 h; rfl
@[simp] theorem rowsB_length (l : List Bool) : (rowsB l).length = l.length := by simp [rowsB]
@[simp] theorem rowsE_length (l : List Ed) : (rowsE l).length = l.length := by simp [rowsE]
theorem rowsB_append (a b : List Bool) : rowsB (a ++ b) = rowsB a ++ rowsB b := by simp [rowsB]
theorem rowsE_append (a b : List Ed) : rowsE (a ++ b) = rowsE a ++ rowsE b := by simp [rowsE]
structure PrD where
 dl : D
 dr : D
 de : D
 dn : D
 dv : D
def prRow (p : Pr) (x : PrD) : List D := [.str p.name, .int .i64 (p.copy : Int), x.dl, .int .i64 (p.places : Int), x.dr, x.de, x.dn, x.dv]
structure PrAt (s : Store) (p : Pr) (x : PrD) : Prop where
 l : SN s 1 x.dl (rowsN p.locals)
 r : SN s 1 x.dr (rowsB p.rest)
 e : SN s 8 x.de (rowsE p.edges)
 n : SN s 1 x.dn (rowsS p.names)
 v : SN s 1 x.dv (rowsN p.vars)
theorem PrAt.stay {s s' : Store} {p : Pr} {x : PrD} (h : PrAt s p x) (hf : Fr [] s s') : PrAt s' p x := ⟨h.l.stay hf, h.r.stay hf, h.e.stay hf, h.n.stay hf, h.v.stay hf⟩
theorem rowsN_len (l : List Nat) : ∀ r ∈ rowsN l, r.length = 1 := by intro r h; obtain ⟨b, _, rfl⟩ := List.mem_map.1 h; rfl
theorem rowsS_len (l : List ByteArray) : ∀ r ∈ rowsS l, r.length = 1 := by intro r h; obtain ⟨b, _, rfl⟩ := List.mem_map.1 h; rfl
@[simp] theorem rowsN_length (l : List Nat) : (rowsN l).length = l.length := by simp [rowsN]
@[simp] theorem rowsS_length (l : List ByteArray) : (rowsS l).length = l.length := by simp [rowsS]
def rowsC (l : List Ch) : List (List D) := l.map Ch.row
theorem rowsC_len (l : List Ch) : ∀ r ∈ rowsC l, r.length = 5 := by intro r h; obtain ⟨b, _, rfl⟩ := List.mem_map.1 h; rfl
@[simp] theorem rowsC_length (l : List Ch) : (rowsC l).length = l.length := by simp [rowsC]
structure MdX where
 dt : D
 dc : D
 dv : D
 dp : D
 ds : D
 g : Int
 b : Bool
def mdRow (m : MdX) : List D := [m.dt, .int .i64 m.g, m.dc, m.dv, m.dp, m.ds, .bool m.b]
structure MdAt (s : Store) (m : MdX) (t : List Nd) (ch : List Ch) : Prop where
 tr : TreeAt m.dt t
 c : SN s 5 m.dc (rowsC ch)
 ov : oneCell m.dv = true
 op : oneCell m.dp = true
 os : oneCell m.ds = true
theorem MdAt.stay {s s' : Store} {m : MdX} {t : List Nd} {ch : List Ch} (h : MdAt s m t ch) (hf : Fr [] s s') : MdAt s' m t ch := ⟨h.tr, h.c.stay hf, h.ov, h.op, h.os⟩
structure PrLe (p : Pr) (n : Nat) : Prop where
 pl : p.places <= n
 rl : p.rest.length <= n
 el : p.edges.length <= n
end Go.V
namespace Go.V
variable {fs : FuncId -> Option VFunc}
def WQT (fs : FuncId -> Option VFunc) (pairs : List (Nat × Nat)) (R : List Nat) (ops : List (Nat × VOper)) (env : Env) (s : Store) (Q : Env -> Store -> Prop) : Prop :=
 ∀ tr : List Tr, (∀ x ∈ tr, x.pre = x.post /\ ∀ id, x.rd = some id -> id ∈ R) -> WO fs pairs ops tr env s Q
theorem vw_rgt {vars ops p pairs dr env s Q} (h : WQT fs (p :: pairs) [] ops env s fun env' s' => Q .normal (env'.keep vars) s') : WP fs vars (.region ⟨ops, p :: pairs, dr⟩) env s Q := vw_region (h [] (by simp))
theorem wt_tr {R : List Nat} {pairs : List (Nat × Nat)} {tr : List Tr} {t : Tr} (h : ∀ x ∈ tr, x.pre = x.post /\ ∀ id, x.rd = some id -> id ∈ R) (ht : t.pre = t.post /\ ∀ id, t.rd = some id -> id ∈ R) : ∀ x ∈ (if pairs.isEmpty then tr else t :: tr), x.pre = x.post /\ ∀ id, x.rd = some id -> id ∈ R := by
 split
 ·exact h
 ·intro x hx
  rcases List.mem_cons.1 hx with rfl | hx
  ·exact ht
  ·exact h x hx
theorem wt_p {pairs R i t o rest s Q} {env : Env} {d : D} (hr : evP env o = some d) (h : WQT fs pairs R rest ((t, d) :: env) s Q) : WQT fs pairs R ((i, ⟨some t, .p o, none⟩) :: rest) env s Q := by
 intro tr ht
 exact vo_op rfl 0 (d := d) (s' := s) (by simp only [runOp, hr, Option.map_some]) (pairsOk_quiet rfl fun t hm => (ht t hm).1) (h _ (wt_tr ht ⟨rfl, by simp [rdOf]⟩))
theorem wt_ld {pairs R i t n x rest s Q} {env : Env} {d : D} {id off : Nat} (hx : env.ev x = .ptr id off) (hr : evR env s.get (.load n x) = some d) (h : WQT fs pairs (id :: R) rest ((t, d) :: env) s Q) : WQT fs pairs R ((i, ⟨some t, .r (.load n x), none⟩) :: rest) env s Q := by
 intro tr ht
 refine vo_op rfl 0 (d := d) (s' := s) (by simp only [runOp, hr, Option.map_some]) (pairsOk_quiet rfl fun t hm => (ht t hm).1) (h _ (wt_tr (fun y hy => ⟨(ht y hy).1, fun id h => List.mem_cons_of_mem _ ((ht y hy).2 id h)⟩) ⟨rfl, fun j hj => ?_⟩))
 simp only [rdOf, rdR, hx, Option.some.injEq] at hj
 simp [hj]
theorem wt_w {pairs R i n a v rest s Q} {env : Env} {id : Nat} {ob : VObj} (hr : evW env s.get n a v = some (id, ob)) (hid : id ∉ R) (hp : (rest.all fun o => pairs.all fun p => p.2 != o.1) = true) (h : WQ fs [] rest env (s.set id (some ob)) Q) : WQT fs pairs R ((i, ⟨none, .w n a v, none⟩) :: rest) env s Q := by
 intro tr ht
 refine vo_op rfl 0 (d := .tup []) (s' := s.set id (some ob)) (by simp only [runOp, hr]) ?_ ?_
 ·have key : ∀ {l : List Tr}, (∀ x ∈ l, x.pre = x.post /\ ∀ j, x.rd = some j -> j ∈ R) -> pairsOk pairs ⟨i, rdOf env (.w n a v), s, s.set id (some ob)⟩ l = true := by
   intro l
   induction l with
   | nil => intro _; rfl
   | cons t r ih =>
     intro hl
     have h1 := hl t (by simp)
     have st1 : stable s (s.set id (some ob)) t.rd = true := by
      cases hrd : t.rd with
      | none => rfl
      | some j =>
        have hj := h1.2 j hrd
        have hne : j ≠ id := fun e => hid (e ▸ hj)
        simp only [stable]
        rw [get_set_ne hne]
        exact beqO_self _
     have st2 : stable t.pre t.post (rdOf env (.w n a v)) = true := by rw [h1.1]; exact stable_refl _ _
     simp only [pairsOk, st1, st2, Bool.and_self, ite_self, Bool.true_and]
     exact ih fun x hx => hl x (by simp [hx])
  exact key ht
 ·obtain ⟨m, env', s', h1, h2⟩ := h [] quiet_nil
  exact ⟨m, env', s', runOps_free hp h1, h2⟩
theorem wt_ld0 {pairs R i t n x rest s Q} {env : Env} {d : D} {cs : List D} {off : Nat} (hx : env.ev x = .fp cs off) (hr : evR env s.get (.load n x) = some d) (h : WQT fs pairs R rest ((t, d) :: env) s Q) : WQT fs pairs R ((i, ⟨some t, .r (.load n x), none⟩) :: rest) env s Q := by
 intro tr ht
 refine vo_op rfl 0 (d := d) (s' := s) (by simp only [runOp, hr, Option.map_some]) (pairsOk_quiet rfl fun t hm => (ht t hm).1) (h _ (wt_tr ht ⟨rfl, fun j hj => ?_⟩))
 simp only [rdOf, rdR, hx] at hj
 cases hj
def idsOf : D -> List Nat
 | .ptr id _ => [id]
 | _ => []
theorem mem_idsOf {p : D} {id : Nat} (h : id ∈ idsOf p) : ∃ off, p = .ptr id off := by
 cases p <;> simp [idsOf] at h
 subst h
 exact ⟨_, rfl⟩
theorem wt_ldv {pairs R i t n x rest s Q} {env : Env} {d p : D} (hl : ldV s.get n p = some d) (hx : env.ev x = p) (h : WQT fs pairs (idsOf p ++ R) rest ((t, d) :: env) s Q) : WQT fs pairs R ((i, ⟨some t, .r (.load n x), none⟩) :: rest) env s Q := by
 intro tr ht
 refine vo_op rfl 0 (d := d) (s' := s) (by simp only [runOp, evR_load, hx, hl, Option.map_some]) (pairsOk_quiet rfl fun t hm => (ht t hm).1) (h _ (wt_tr (fun y hy => ⟨(ht y hy).1, fun id h => List.mem_append_right _ ((ht y hy).2 id h)⟩) ⟨rfl, fun j hj => ?_⟩))
 simp only [rdOf, rdR, hx] at hj
 refine List.mem_append_left _ ?_
 cases p <;> simp_all [idsOf]
theorem wt_call {pairs R i t f args rest s Q} {env : Env} {l : List D} {d : D} (hr : Ev fs f l s d s) (ha : env.evL args = l) (h : WQT fs pairs R rest ((t, d) :: env) s Q) : WQT fs pairs R ((i, ⟨some t, .m (.call .raw (.cst (.fn f [])) args), none⟩) :: rest) env s Q := by
 subst ha
 obtain ⟨n, hn⟩ := hr
 intro tr ht
 exact vo_op rfl n (d := d) (s' := s) (by simp only [runOp, evM, callV, Env.ev, List.append_nil]; exact hn) (pairsOk_quiet rfl fun t hm => (ht t hm).1) (h _ (wt_tr ht ⟨rfl, by simp [rdOf]⟩))
theorem wt_evpf {pairs R i t f args rest s Q} {env : Env} {l : List D} {P : D -> Store -> Prop} (hr : EvP fs f l s P) (hP : ∀ d s', P d s' -> Fr [] s s') (hR : ∀ id ∈ R, id < s.next) (hp : (rest.all fun o => pairs.all fun p => p.2 != o.1) = true) (ha : env.evL args = l)
 (h : ∀ d s', P d s' -> WQ fs [] rest ((t, d) :: env) s' Q) : WQT fs pairs R ((i, ⟨some t, .m (.call .raw (.cst (.fn f [])) args), none⟩) :: rest) env s Q := by
 subst ha
 obtain ⟨d, s', ⟨n, hn⟩, hd⟩ := hr
 have hF := hP d s' hd
 intro tr ht
 refine vo_op rfl n (d := d) (s' := s') (by simp only [runOp, evM, callV, Env.ev, List.append_nil]; exact hn) ?_ ?_
 ·have key : ∀ {l : List Tr}, (∀ x ∈ l, x.pre = x.post /\ ∀ j, x.rd = some j -> j ∈ R) -> pairsOk pairs ⟨i, none, s, s'⟩ l = true := by
   intro l
   induction l with
   | nil => intro _; rfl
   | cons t r ih =>
     intro hl
     have h1 := hl t (by simp)
     have st1 : stable s s' t.rd = true := by
      cases hrd : t.rd with
      | none => rfl
      | some j =>
        have hj := hR j (h1.2 j hrd)
        simp only [stable]
        rw [hF.2 j hj (by simp)]
        exact beqO_self _
     have st2 : stable t.pre t.post none = true := rfl
     simp only [pairsOk, st1, st2, Bool.and_self, ite_self, Bool.true_and]
     exact ih fun x hx => hl x (by simp [hx])
  exact key ht
 ·obtain ⟨m, env', s2, h1, h2⟩ := h d s' hd [] quiet_nil
  exact ⟨m, env', s2, runOps_free hp h1, h2⟩
theorem wq_gen {pairs ops env s Q} {Φ : Store -> Prop} (h : Φ s) (k : ∀ s', Φ s' -> WQ fs pairs ops env s' Q) : WQ fs pairs ops env s Q := k s h
theorem wt_gen {pairs R ops env s Q} {Φ : Store -> Prop} (h : Φ s) (k : ∀ s', Φ s' -> WQT fs pairs R ops env s' Q) : WQT fs pairs R ops env s Q := k s h
theorem zT {F P Q : Prop} (f : F) (k : Q) (h : F -> Q -> P := by
 intro f k
 (first|(with_reducible refine vw_rgt ?_)|((with_reducible apply wt_p); (focus (simp (disch := (first|with_reducible assumption|omega|((repeat (first|rw [nP]|rw [nS]))<;>omega)|fail)) only [go_sem, Env.ev, Env.get, ↓reduceIte, f] <;> rfl)))|((with_reducible apply wt_ld); (focus (simp only [Env.ev, Env.get, Nat.reduceEqDiff, ↓reduceIte, Made.at, Nat.add_zero, Nat.zero_add, f] <;> rfl)); (focus (simp (disch := (first|with_reducible assumption|omega|((repeat (first|rw [nP]|rw [nS]))<;>omega)|fail)) only [go_sem, Env.ev, Env.get, ↓reduceIte, f] <;> rfl)))|((with_reducible apply wt_ld0); (focus (simp only [Env.ev, Env.get, Nat.reduceEqDiff, ↓reduceIte, Made.at, Nat.add_zero, Nat.zero_add, f] <;> rfl)); (focus (simp (disch := (first|with_reducible assumption|omega|((repeat (first|rw [nP]|rw [nS]))<;>omega)|fail)) only [go_sem, Env.ev, Env.get, ↓reduceIte, f] <;> rfl)))|(with_reducible first|apply vA|apply vB|apply vC)|((with_reducible apply vD); (focus rfl))|((with_reducible first|apply vE|apply vF|apply vG|apply vH); simp only [Env.keep, Env.get, Env.ev, List.map, Nat.reduceEqDiff, ↓reduceIte, Then, Out'])|((with_reducible first|apply vI|apply vJ|apply vK|apply vL|apply vM|apply vN); (focus (simp (disch := (first|with_reducible assumption|omega|((repeat (first|rw [nP]|rw [nS]))<;>omega)|fail)) only [go_sem, Env.ev, Env.get, ↓reduceIte, f] <;> rfl)); (first|(with_reducible (first|apply vO|apply vP|apply vQ|apply vR|apply vS|apply vT|apply vU); try simp only [Env.put])|with_reducible refine (?_ : WQ _ _ _ _ _ _))))
 repeat (first|(with_reducible refine vw_rgt ?_)|((with_reducible apply wt_p); (focus (simp (disch := (first|with_reducible assumption|omega|((repeat (first|rw [nP]|rw [nS]))<;>omega)|fail)) only [go_sem, Env.ev, Env.get, ↓reduceIte, f] <;> rfl)))|((with_reducible apply wt_ld); (focus (simp only [Env.ev, Env.get, Nat.reduceEqDiff, ↓reduceIte, Made.at, Nat.add_zero, Nat.zero_add, f] <;> rfl)); (focus (simp (disch := (first|with_reducible assumption|omega|((repeat (first|rw [nP]|rw [nS]))<;>omega)|fail)) only [go_sem, Env.ev, Env.get, ↓reduceIte, f] <;> rfl)))|((with_reducible apply wt_ld0); (focus (simp only [Env.ev, Env.get, Nat.reduceEqDiff, ↓reduceIte, Made.at, Nat.add_zero, Nat.zero_add, f] <;> rfl)); (focus (simp (disch := (first|with_reducible assumption|omega|((repeat (first|rw [nP]|rw [nS]))<;>omega)|fail)) only [go_sem, Env.ev, Env.get, ↓reduceIte, f] <;> rfl)))|(with_reducible first|apply vA|apply vB|apply vC)|((with_reducible apply vD); (focus rfl))|((with_reducible first|apply vE|apply vF|apply vG|apply vH); simp only [Env.keep, Env.get, Env.ev, List.map, Nat.reduceEqDiff, ↓reduceIte, Then, Out'])|((with_reducible first|apply vI|apply vJ|apply vK|apply vL|apply vM|apply vN); (focus (simp (disch := (first|with_reducible assumption|omega|((repeat (first|rw [nP]|rw [nS]))<;>omega)|fail)) only [go_sem, Env.ev, Env.get, ↓reduceIte, f] <;> rfl)); (first|(with_reducible (first|apply vO|apply vP|apply vQ|apply vR|apply vS|apply vT|apply vU); try simp only [Env.put])|with_reducible refine (?_ : WQ _ _ _ _ _ _))))
 exact k) : P := h f k
end Go.V
