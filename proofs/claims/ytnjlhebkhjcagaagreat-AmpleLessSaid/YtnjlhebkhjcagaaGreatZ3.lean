/- Texts one behind the other. -/
import Derived.Test.YtnjlhebkhjcagaaGreatZ1
import Derived.Laws.Strings
import Derived.Test.YtnjlhebkhjcagaaGreatVt
set_option linter.unusedSimpArgs false
set_option linter.unusedVariables false
namespace Go.V
theorem O4 {n : Int} (h1 : -9223372036854775808 <= n) (h2 : n < 9223372036854775808) : IntKind.i64.wrap n = n := IntWalk.i64_in n ⟨by omega, by omega⟩
def Fr (ids : List Nat) (s s' : M1) : Prop := s.next <= s'.next /\ ∀ i, i < s.next -> i ∉ ids -> s'.get i = s.get i
theorem Fr.refl (ids : List Nat) (s : M1) : Fr ids s s := ⟨Nat.le_refl _, fun _ _ _ => rfl⟩
theorem Fr.trans {ids : List Nat} {ids' : List Nat} {a b c : M1} (h : Fr ids a b) (k : Fr ids' b c) (hi : ∀ i ∈ ids', i ∈ ids ∨ a.next <= i) : Fr ids a c := by
 refine ⟨Nat.le_trans h.1 k.1, fun i hl hn => ?_⟩
 rw [k.2 i (Nat.lt_of_lt_of_le hl h.1) ?_, h.2 i hl hn]
 intro hc
 rcases hi i hc with h1 | h1
 ·exact hn h1
 ·omega
theorem Fr.push {ids : List Nat} {s : M1} (o : N9) : Fr ids s (s.push o) := ⟨by rw [M1.next_push]; omega, fun i hl _ => by rw [M1.get_push, if_neg (by omega)]⟩
theorem Fr.set {ids : List Nat} {s : M1} {id : Nat} (o : Option N9) (h : id ∈ ids) : Fr ids s (s.set id o) := ⟨by rw [M1.next_set]; omega, fun i hl hn => by
 rw [M1.get_set, if_neg]; rintro ⟨rfl, _⟩; exact hn h⟩
theorem Fr.thenPush {ids : List Nat} {a b : M1} (h : Fr ids a b) (o : N9) : Fr ids a (b.push o) := h.trans (Fr.push (ids := []) o) (by simp)
theorem Fr.thenSet {ids : List Nat} {a b : M1} {id : Nat} (h : Fr ids a b) (o : Option N9) (hi : id ∈ ids ∨ a.next <= id) : Fr ids a (b.set id o) :=
 h.trans (Fr.set (ids := [id]) o (by simp)) (by simpa using hi)
theorem Fr.weaken {ids ids' : List Nat} {a b : M1} (h : Fr ids a b) (hi : ∀ i ∈ ids, i ∈ ids') : Fr ids' a b := ⟨h.1, fun i hl hn => h.2 i hl fun hc => hn (hi i hc)⟩
theorem M7 {s : M1} {i : Nat} {o : N9} (h : s.get i = some o) : i < s.next := by
 unfold M1.get at h
 split at h
 ·assumption
 ·cases h
theorem R7 {s : M1} {o : N9} {i : Nat} (h : i < s.next) : (s.push o).get i = s.get i := by rw [M1.get_push, if_neg (by omega)]
theorem O5 {s : M1} {o : N9} {i : Nat} (h : i = s.next) : (s.push o).get i = some o := by rw [M1.get_push, if_pos h]
theorem O9 {s : M1} {o : Option N9} {i id : Nat} (h : i ≠ id) : (s.set id o).get i = s.get i := by rw [M1.get_set, if_neg (by rintro ⟨rfl, _⟩; exact h rfl)]
theorem P6 {s : M1} {o : Option N9} {i : Nat} (h : i < s.next) : (s.set i o).get i = o := by rw [M1.get_set, if_pos ⟨rfl, h⟩]
def a0k (l : List Nat) : List D := l.map fun (n : Nat) => .int .i64 (n : Int)
def a2Y (l : List Bool) : List D := l.map fun b => .bool b
def b1j : List (Nat × Nat) -> List D
 | [] => []
 | p :: r => .int .i64 (p.1 : Int) :: .int .i64 (p.2 : Int) :: b1j r
def kvs (l : List ((Nat × Nat) × Nat)) : List (D × D) := l.map fun x => (.agg [.int .i64 (x.1.1 : Int), .int .i64 (x.1.2 : Int)], .int .i64 (x.2 : Int))
@[simp] theorem b16 (l : List Nat) : (a0k l).length = l.length := by simp [a0k]
@[simp] theorem b7w (l : List Bool) : (a2Y l).length = l.length := by simp [a2Y]
def Rd (s : M1) (d : D) (l : List D) : Prop :=
 (d = .nils /\ l = []) ∨ d = .lst 1 (l.map fun x => [x]) ∨ ∃ id off cs, d = .arr id off l.length 1 /\ s.get id = some (.cells cs) /\ off + l.length <= cs.length /\ (cs.drop off).take l.length = l
theorem Rd.len {s : M1} {d : D} {l : List D} (h : Rd s d l) : S6 false d = some (.int .i64 (l.length : Int)) := by
 rcases h with ⟨rfl, rfl⟩ | rfl | ⟨id, off, cs, rfl, _⟩ <;> simp [S6]
theorem Rd.one {s : M1} {d : D} {l : List D} (h : Rd s d l) : M9 d = true := by
 rcases h with ⟨rfl, rfl⟩ | rfl | ⟨id, off, cs, rfl, _⟩ <;> rfl
theorem Rd.idx {s : M1} {d : D} {l : List D} (h : Rd s d l) (ho : l.all M9 = true) {i : Nat} (hi : i < l.length) {k : IntKind} {z : Int} (hz : z = (i : Int)) : ∃ p, N3 1 d (.int k z) = some p /\ ldV s.get none p = some l[i] := by
 subst hz
 have ho' : M9 l[i] = true := by rw [List.all_eq_true] at ho; exact ho _ (List.getElem_mem hi)
 rcases h with ⟨rfl, rfl⟩ | rfl | ⟨id, off, cs, rfl, h1, h2, h3⟩
 ·simp at hi
 ·refine ⟨.fp [l[i]] 0, ?_, ?_⟩
  ·simp [N3, hi]
  ·simp [ldV, Y9, ho']
 ·refine ⟨.ptr id (off + i), ?_, ?_⟩
  ·simp only [N3]
   rw [if_pos (by refine ⟨trivial, ?_, ?_⟩ <;> omega)]
   simp
  ·simp only [ldV, h1, Y9]
   have : cs[off + i]? = some l[i] := by
    have e : l[i]? = some l[i] := List.getElem?_eq_getElem hi
    rw [<- e]
    conv => rhs; rw [<- h3]
    rw [List.getElem?_take_of_lt hi, List.getElem?_drop]
   rw [this]
   simp [ho']
theorem Rd.row {s : M1} {d : D} {l : List D} (h : Rd s d l) : X0 s.get d = some l /\ a1h d = some l.length /\ a0l 1 d = true := by
 rcases h with ⟨rfl, rfl⟩ | rfl | ⟨id, off, cs, rfl, h1, h2, h3⟩
 ·simp [X0, a1h, a0l]
 ·refine ⟨?_, by simp [a1h], by simp [a0l]⟩
  simp only [X0]
  congr 1
  induction l with
  | nil => rfl
  | cons a l ih => simp [ih]
 ·refine ⟨?_, by simp [a1h], by simp [a0l]⟩
  simp only [X0, h1, Nat.mul_one]
  rw [if_pos h2, h3]
theorem Rd.arr {s : M1} {id : Nat} {l : List D} (h : s.get id = some (.cells l)) : Rd s (.arr id 0 l.length 1) l := .inr (.inr ⟨id, 0, l, rfl, h, by simp, by simp⟩)
theorem Rd.stay {s s' : M1} {d : D} {l : List D} (h : Rd s d l) (hs : ∀ id off len, d = .arr id off len 1 -> s'.get id = s.get id) : Rd s' d l := by
 rcases h with h | h | ⟨id, off, cs, rfl, h1, h2, h3⟩
 ·exact .inl h
 ·exact .inr (.inl h)
 ·exact .inr (.inr ⟨id, off, cs, rfl, by rw [hs id off _ rfl, h1], h2, h3⟩)
theorem b8h (l : List Bool) : (a2Y l).all M9 = true := by simp [a2Y, M9]
theorem Rd.idxB {s : M1} {d : D} {l : List Bool} (h : Rd s d (a2Y l)) {i : Nat} (hi : i < l.length) : ∃ p, N3 1 d (.int .i64 (i : Int)) = some p /\ ldV s.get none p = some (.bool l[i]) := by
 obtain ⟨p, h1, h2⟩ := h.idx (b8h l) (i := i) (by simpa using hi) (k := .i64) rfl
 exact ⟨p, h1, by rw [h2]; simp [a2Y]⟩
def Y0 : D -> Bool
 | .int _ _ => true
 | .bool _ => true
 | .str _ => true
 | _ => false
theorem a7j {g : P4} {d : D} (h : Y0 d = true) : ∀ n, ice g (n + 1) d = some d := by
 intro n
 cases d <;> first | rfl | (simp [Y0] at h)
theorem b7v {d : D} (h : Y0 d = true) : Y5 d = true := by cases d <;> first | rfl | (simp [Y0] at h)
theorem a5F {g : P4} {n : Nat} : ∀ {l : List D}, l.all Y0 = true -> N2 (ice g (n + 1)) l = some l
 | [], _ => rfl
 | d :: r, h => by
   simp only [List.all_cons, Bool.and_eq_true] at h
   simp only [N2, a7j h.1, a5F h.2]
theorem a9I : ∀ (l : List D), a1V 1 l.length l = l.map fun x => [x]
 | [] => rfl
 | d :: r => by simp [a1V, a9I r]
theorem Rd.ice {s : M1} {d : D} {l : List D} (h : Rd s d l) (hl : l.all Y0 = true) : ∃ d', ice s.get 20 d = some d' /\ Rd M1.empty d' l := by
 have hrow := h.row.1
 rcases h with ⟨rfl, rfl⟩ | rfl | ⟨id, off, cs, rfl, h1, h2, h3⟩
 ·exact ⟨.nils, rfl, .inl ⟨rfl, rfl⟩⟩
 ·exact ⟨_, rfl, .inr (.inl rfl)⟩
 ·refine ⟨.lst 1 (l.map fun x => [x]), ?_, .inr (.inl rfl)⟩
  simp only [V.ice, hrow]
  rw [a5F hl]
  simp only [Option.map_some, a9I]
theorem a1A {fs : FuncId -> Option M6} {pairs i t f args rest s Q} {env : Env} {l l' : List D} {r : D} {s1 : M1} (hr : Ev fs f l' M1.empty r s1) (hs : Y0 r = true) (hl : env.evL args = l) (ha : N2 (V.ice s.get 20) l = some l')
 (h : WQ fs pairs rest ((t, r) :: env) s Q) : WQ fs pairs ((i, ⟨some t, .m (.call .iso (.cst (.fn f [])) args), none⟩) :: rest) env s Q :=
 a1I hl ha hr (a7j hs 19) (by rw [b7v hs]; rfl) h
theorem b7u {fs : FuncId -> Option M6} {n : Nat} {f : FuncId} {args : List D} {s : M1} {d : D} (h : (a4d fs n f args s).map Prod.fst = some d) : ∃ s', Ev fs f args s d s' := by
 cases hv : a4d fs n f args s with
 | none => rw [hv] at h; cases h
 | some r =>
   rw [hv] at h
   obtain ⟨d', s'⟩ := r
   simp at h
   subst h
   exact ⟨s', n, hv⟩
def Sl (s : M1) (d : D) (l : List D) (ids : List Nat) : Prop :=
 (d = .nils /\ l = [] /\ ids = []) ∨ ∃ id, d = .arr id 0 l.length 1 /\ s.get id = some (.cells l) /\ ids = [id]
theorem Sl.rd {s : M1} {d : D} {l : List D} {ids : List Nat} (h : Sl s d l ids) : Rd s d l := by
 rcases h with ⟨rfl, rfl, _⟩ | ⟨id, rfl, h, _⟩
 ·exact .inl ⟨rfl, rfl⟩
 ·exact Rd.arr h
theorem Sl.one {s : M1} {d : D} {l : List D} {ids : List Nat} (h : Sl s d l ids) : M9 d = true := h.rd.one
theorem Sl.lt {s : M1} {d : D} {l : List D} {ids : List Nat} (h : Sl s d l ids) : ∀ i ∈ ids, i < s.next := by
 rcases h with ⟨_, _, rfl⟩ | ⟨id, _, h, rfl⟩
 ·simp
 ·simpa using M7 h
theorem Sl.push {s : M1} {d : D} {l : List D} {ids : List Nat} {new : List D} {id2 bytes : Nat} (h : Sl s d l ids) (h3 : s.get id2 = some (.cells new)) (hne : new ≠ []) (hb : bytes <= 16) (hl : l.length + new.length <= 2 ^ 40) :
 ∃ s' d', S7 1 bytes d (.arr id2 0 new.length 1) s = some (d', s') /\ Sl s' d' (l ++ new) [s.next] /\ s'.next = s.next + 1 /\ ∀ i, i ∉ ids -> i < s.next -> s'.get i = s.get i := by
 have hn : new.length ≠ 0 := by simpa using hne
 have b1 : (l.length + new.length) * bytes <= 2 ^ 45 := Nat.le_trans (Nat.mul_le_mul hl hb) (by decide)
 have b2 : l.length + new.length <= 2 ^ 45 := Nat.le_trans hl (by decide)
 have b3 : bytes <= 2 ^ 20 := Nat.le_trans hb (by decide)
 rcases h with ⟨rfl, rfl, rfl⟩ | ⟨id, rfl, h1, rfl⟩
 ·refine ⟨s.push (.cells new), .arr s.next 0 new.length 1, ?_, .inr ⟨s.next, by simp, by simp [M1.get_push], rfl⟩, rfl, fun i _ hi => by rw [M1.get_push, if_neg (by omega)]⟩
  unfold S7
  simp only [List.length_nil, Nat.zero_add] at b1 b2
  simp only [X0, h3, a1h, a0l, Nat.zero_add, Nat.mul_one, Nat.le_refl, if_true, List.drop_zero, beq_self_eq_true, b3, decide_true, Bool.and_self, and_self, hn, if_false, b1, b2, List.take_length]
 ·refine ⟨(s.set id none).push (.cells (l ++ new)), .arr s.next 0 (l.length + new.length) 1, ?_, .inr ⟨s.next, by simp, by rw [M1.get_push, if_pos (by simp only [M1.next_set])], rfl⟩, rfl, fun i hi hl => ?_⟩
  ·unfold S7
   simp only [X0, h3, a1h, a0l, Nat.zero_add, Nat.mul_one, Nat.le_refl, if_true, List.drop_zero, beq_self_eq_true, b3, decide_true, Bool.and_self, h1, and_self, hn, if_false, b1, b2, List.take_length]
  ·simp only [List.mem_singleton] at hi
   rw [M1.get_push, if_neg (by simp only [M1.next_set]; omega), M1.get_set, if_neg (by rintro ⟨rfl, _⟩; exact hi rfl)]
structure Gr where
 nodes : List (Nat × Nat)
 ins : List Nat
 known : List ((Nat × Nat) × Nat)
structure b79 (s : M1) (g : Nat) (G : Gr) (nid mid : Nat) (dins : D) (iids : List Nat) : Prop where
 obj : s.get g = some (.cells [.arr nid 0 G.nodes.length 2, dins, .map mid])
 nodes : s.get nid = some (.cells (b1j G.nodes))
 ins : Sl s dins (a0k G.ins) iids
 known : s.get mid = some (.map (kvs G.known))
 nd : (g :: nid :: mid :: iids).Nodup
def GA (s : M1) (g : Nat) (G : Gr) (ids : List Nat) : Prop := ∃ nid mid dins iids, b79 s g G nid mid dins iids /\ ids = g :: nid :: mid :: iids
def a01 (s : M1) (g : Nat) (ids : List Nat) (s' : M1) (G' : Gr) (ids' : List Nat) : Prop := GA s' g G' ids' /\ Fr ids s s' /\ ∀ i ∈ ids', i ∈ ids ∨ s.next <= i
theorem a01.trans {s s' s'' : M1} {g : Nat} {ids ids' ids'' : List Nat} {G' G'' : Gr} (h : a01 s g ids s' G' ids') (k : a01 s' g ids' s'' G'' ids'') : a01 s g ids s'' G'' ids'' := by
 refine ⟨k.1, h.2.1.trans k.2.1 h.2.2, fun i hi => ?_⟩
 rcases k.2.2 i hi with h1 | h1
 ·exact h.2.2 i h1
 ·exact .inr (Nat.le_trans h.2.1.1 h1)
theorem a01.refl {s : M1} {g : Nat} {G : Gr} {ids : List Nat} (h : GA s g G ids) : a01 s g ids s G ids := ⟨h, Fr.refl _ _, fun _ hi => .inl hi⟩
theorem GA.stay' {s s' : M1} {g : Nat} {G : Gr} {ids : List Nat} (h : GA s g G ids) (hs : ∀ i ∈ ids, i < s.next -> s'.get i = s.get i) : GA s' g G ids := by
 obtain ⟨nid, mid, dins, iids, hg, rfl⟩ := h
 have k : ∀ i o, i ∈ g :: nid :: mid :: iids -> s.get i = some o -> s'.get i = some o := fun i o hi ho => by rw [hs i hi (M7 ho), ho]
 refine ⟨nid, mid, dins, iids, ⟨k _ _ (by simp) hg.obj, k _ _ (by simp) hg.nodes, ?_, k _ _ (by simp) hg.known, hg.nd⟩, rfl⟩
 rcases hg.ins with h1 | ⟨id, h1, h2, rfl⟩
 ·exact .inl h1
 ·exact .inr ⟨id, h1, k _ _ (by simp) h2, rfl⟩
theorem GA.stay {s s' : M1} {g : Nat} {G : Gr} {ids ids2 : List Nat} (h : GA s g G ids) (hf : Fr ids2 s s') (hd : ∀ i ∈ ids, i ∉ ids2) : GA s' g G ids := h.stay' fun i hi hl => hf.2 i hl (hd i hi)
theorem Sl.stay {s s' : M1} {d : D} {l : List D} {ids ids2 : List Nat} (h : Sl s d l ids) (hf : Fr ids2 s s') (hd : ∀ i ∈ ids, i ∉ ids2) : Sl s' d l ids := by
 rcases h with h1 | ⟨id, h1, h2, rfl⟩
 ·exact .inl h1
 ·exact .inr ⟨id, h1, by rw [hf.2 id (M7 h2) (hd id (by simp)), h2], rfl⟩
theorem GA.lt {s : M1} {g : Nat} {G : Gr} {ids : List Nat} (h : GA s g G ids) : ∀ i ∈ ids, i < s.next := by
 obtain ⟨nid, mid, dins, iids, hg, rfl⟩ := h
 intro i hi
 simp only [List.mem_cons] at hi
 rcases hi with rfl | rfl | rfl | hi
 ·exact M7 hg.obj
 ·exact M7 hg.nodes
 ·exact M7 hg.known
 ·exact hg.ins.lt i hi
theorem GA.pos {s : M1} {g : Nat} {G : Gr} {ids : List Nat} (h : GA s g G ids) : ∃ nid dins mid, s.get g = some (.cells [.arr nid 0 G.nodes.length 2, dins, .map mid]) := by
 obtain ⟨nid, mid, dins, iids, hg, rfl⟩ := h
 exact ⟨nid, dins, mid, hg.obj⟩
theorem GA.push {s : M1} {g : Nat} {G : Gr} {ids : List Nat} (hG : GA s g G ids) (o : N9) : GA (s.push o) g G ids := hG.stay (ids2 := []) (Fr.push _) (by simp)
theorem GA.newer {s s' : M1} {g : Nat} {G : Gr} {ids : List Nat} (hG : GA s g G ids) (h : Fr [] s s') : a01 s g ids s' G ids := ⟨hG.stay h (by simp), h.weaken (by simp), fun _ h => .inl h⟩
def b35 (e : Nat) : Nat := if e % 2 = 0 then e + 1 else e - 1
def Gr.own (G : Gr) (e : Int) : Nat := if e < 0 ∨ (G.nodes.length : Int) <= e.tdiv 2 then 0 else e.toNat
def Gr.add (G : Gr) (p : Nat × Nat) : Gr := { G with nodes := G.nodes ++ [p] }
def find (k : Nat × Nat) : List ((Nat × Nat) × Nat) -> Option Nat
 | [] => none
 | (p, n) :: r => if k = p then some n else find k r
def Gr.and (G : Gr) (a b : Nat) : Nat × Gr :=
 if min a b = 0 ∨ min a b = b35 (max a b) then (0, G)
 else if min a b = 1 ∨ min a b = max a b then (max a b, G)
 else match find (min a b, max a b) G.known with
  | some n => (2 * n, G)
  | none => (2 * G.nodes.length, { nodes := G.nodes ++ [(min a b, max a b)], ins := G.ins, known := G.known ++ [((min a b, max a b), G.nodes.length)] })
attribute [go_sem] R7 O5 O9 P6 O4
end Go.V
namespace Go.V
def FL (sz : Nat) (d : D) (rows : List (List D)) : Prop := (d = .nils /\ rows = []) ∨ d = .lst sz rows
theorem FL.len {sz : Nat} {d : D} {rows : List (List D)} (h : FL sz d rows) : S6 false d = some (.int .i64 (rows.length : Int)) := by
 rcases h with ⟨rfl, rfl⟩ | rfl <;> rfl
theorem FL.one {sz : Nat} {d : D} {rows : List (List D)} (h : FL sz d rows) : M9 d = true := by
 rcases h with ⟨rfl, rfl⟩ | rfl <;> rfl
theorem FL.pure {sz : Nat} {d : D} {rows : List (List D)} (h : FL sz d rows) : S8 d = true := by
 rcases h with ⟨rfl, rfl⟩ | rfl <;> rfl
theorem FL.ice {sz : Nat} {d : D} {rows : List (List D)} (h : FL sz d rows) {g : P4} {n : Nat} : ice g (n + 1) d = some d := by
 rcases h with ⟨rfl, rfl⟩ | rfl <;> rfl
theorem FL.idx {sz : Nat} {d : D} {rows : List (List D)} (h : FL sz d rows) {i : Nat} (hi : i < rows.length) {k : IntKind} : N3 sz d (.int k (i : Int)) = some (.fp rows[i] 0) := by
 rcases h with ⟨rfl, rfl⟩ | rfl
 ·simp at hi
 ·simp [N3, hi]
theorem FL.cells {sz : Nat} {d : D} {rows : List (List D)} (h : FL sz d rows) : cellsOf d = [d] := by
 rcases h with ⟨rfl, rfl⟩ | rfl <;> rfl
def FS (d : D) (l : List ByteArray) : Prop := FL 1 d (l.map fun x => [.str x])
def FI (d : D) (l : List Int) : Prop := FL 1 d (l.map fun n => [.int .i64 n])
def FB (d : D) (l : List Bool) : Prop := FL 1 d (l.map fun b => [.bool b])
theorem FS.len {d : D} {l : List ByteArray} (h : FS d l) : S6 false d = some (.int .i64 (l.length : Int)) := by rw [FL.len h, List.length_map]
theorem FI.len {d : D} {l : List Int} (h : FI d l) : S6 false d = some (.int .i64 (l.length : Int)) := by rw [FL.len h, List.length_map]
theorem FB.len {d : D} {l : List Bool} (h : FB d l) : S6 false d = some (.int .i64 (l.length : Int)) := by rw [FL.len h, List.length_map]
theorem FS.idx {d : D} {l : List ByteArray} (h : FS d l) {i : Nat} (hi : i < l.length) {k : IntKind} : N3 1 d (.int k (i : Int)) = some (.fp [.str l[i]] 0) := by
 rw [FL.idx h (by simpa using hi)]; simp
theorem FI.idx {d : D} {l : List Int} (h : FI d l) {i : Nat} (hi : i < l.length) {k : IntKind} : N3 1 d (.int k (i : Int)) = some (.fp [.int .i64 l[i]] 0) := by
 rw [FL.idx h (by simpa using hi)]; simp
theorem FB.idx {d : D} {l : List Bool} (h : FB d l) {i : Nat} (hi : i < l.length) {k : IntKind} : N3 1 d (.int k (i : Int)) = some (.fp [.bool l[i]] 0) := by
 rw [FL.idx h (by simpa using hi)]; simp
theorem FL.drop {sz : Nat} {d : D} {rows : List (List D)} (h : FL sz d rows) {n : Nat} (hn : n <= rows.length) {k : IntKind} : ∃ d', a1s (some sz) d (some (.int k (n : Int))) none = some d' /\ FL sz d' (rows.drop n) := by
 rcases h with ⟨rfl, rfl⟩ | rfl
 ·obtain rfl : n = 0 := by simpa using hn
  exact ⟨.nils, by simp [a1s, a0B], .inl ⟨rfl, rfl⟩⟩
 ·exact ⟨_, by simp [a1s, a0B, hn], .inr rfl⟩
theorem FL.take {sz : Nat} {d : D} {rows : List (List D)} (h : FL sz d rows) {n : Nat} (hn : n <= rows.length) {k : IntKind} : ∃ d', a1s (some sz) d none (some (.int k (n : Int))) = some d' /\ FL sz d' (rows.take n) := by
 rcases h with ⟨rfl, rfl⟩ | rfl
 ·obtain rfl : n = 0 := by simpa using hn
  exact ⟨.nils, by simp [a1s, a0B], .inl ⟨rfl, rfl⟩⟩
 ·exact ⟨_, by simp [a1s, a0B, hn], .inr rfl⟩
theorem c3X {a b : ByteArray} : (a.toList == b.toList) = decide (a = b) := by
 rw [Bool.eq_iff_iff, beq_iff_eq, decide_eq_true_eq]
 constructor
 ·intro h
  rw [ByteArray.toList_eq, ByteArray.toList_eq] at h
  cases a; cases b
  simp at h
  rw [h]
 ·rintro rfl; rfl
theorem c0P {a b : ByteArray} : a55 .eql a b = some (.bool (decide (a = b))) := by rw [<- c3X]; rfl
attribute [go_sem] c0P
end Go.V
namespace Go.V
theorem a5P {α β : Type} {f : α -> β} {P : α -> Prop} : ∀ {xs : List β}, (∀ x ∈ xs, ∃ a, x = f a /\ P a) -> ∃ aa : List α, xs = aa.map f /\ ∀ a ∈ aa, P a
 | [], _ => ⟨[], rfl, by simp⟩
 | x :: r, h => by
   obtain ⟨a, rfl, ha⟩ := h x (by simp)
   obtain ⟨aa, rfl, has⟩ := a5P (xs := r) fun x hx => h x (by simp [hx])
   exact ⟨a :: aa, rfl, by simpa using ⟨ha, has⟩⟩
def a0p (n : Int) : Prop := -9223372036854775808 <= n /\ n < 9223372036854775808
theorem b0Z {n : Int} (h : (Lit.int .i64 n).wf = true) : a0p n := by
 simp only [Lit.wf, Bool.and_eq_true, decide_eq_true_eq] at h
 have h1 : IntKind.i64.min = -9223372036854775808 := rfl
 have h2 : IntKind.i64.max = 9223372036854775807 := rfl
 rw [h1, h2] at h
 exact ⟨h.1, by omega⟩
def Ty.act : Ty := .slice 4 (.struct [.int .i64, .int .i64, .int .i64, .int .i64])
theorem Sl.push1 {s : M1} {d : D} {l : List D} {ids : List Nat} (h : Sl s d l ids) (x : D) {bytes : Nat} (hb : bytes <= 16) (hl : l.length < 2 ^ 40) :
 ∃ s' d', S7 1 bytes d (.arr s.next 0 1 1) (s.push (.cells [x])) = some (d', s') /\ Sl s' d' (l ++ [x]) [s.next + 1] /\ s'.next = s.next + 2 /\ Fr ids s s' := by
 have h' : Sl (s.push (.cells [x])) d l ids := h.stay (ids2 := []) (Fr.push _) (by simp)
 obtain ⟨s', d', e1, e2, e3, e4⟩ := h'.push (new := [x]) (id2 := s.next) (bytes := bytes) (O5 rfl) (by simp) hb (by simp; omega)
 refine ⟨s', d', e1, e2, e3, by rw [e3, M1.next_push]; omega, fun i hi hn => ?_⟩
 rw [e4 i hn (by simp only [M1.next_push]; omega), R7 hi]
section
variable {fs : FuncId -> Option M6}
theorem b2D {l : List D} {n : Nat} {x : D} (h : n < l.length) : a2g l n [x] = l.set n x := by
 simp only [a2g, List.length_singleton]
 rw [List.set_eq_take_append_cons_drop, if_pos h]
 simp
theorem a5K {i a v rest s Q} {env : Env} {id n : Nat} {l : List D} {x : D} (hg : s.get id = some (.cells l)) (hn : n < l.length) (ho : M9 x = true) (ha : env.ev a = .ptr id n) (hv : env.ev v = x)
 (h : WQ fs [] rest env (s.set id (some (.cells (l.set n x)))) Q) : WQ fs [] ((i, ⟨none, .w 1 a v, none⟩) :: rest) env s Q := by
 refine a5C (id := id) (ob := .cells (l.set n x)) ?_ h
 simp only [evW, ha, hg, hv, b1T ho, List.length_singleton, List.all_cons, List.all_nil, ho]
 rw [if_pos ⟨trivial, by omega, rfl, by omega⟩, b2D hn]
theorem b0z (l : List Nat) (n k : Nat) : (a0k l).set n (.int .i64 (k : Int)) = a0k (l.set n k) := by simp [a0k, List.map_set]
end
theorem c0e {s : M1} {id : Nat} {l : List Nat} (h : s.get id = some (.cells (a0k l))) : Rd s (.arr id 0 l.length 1) (a0k l) := by
 have := Rd.arr h
 rwa [b16] at this
end Go.V
namespace Go.V
structure Nd where
 kind : Int
 dw : D
 dn : D
 dk : D
 pos : Int
 words : List ByteArray
 nums : List Int
 kids : List Int
 deriving Inhabited
def Nd.row (x : Nd) : List D := [.int .i64 x.kind, x.dw, x.dn, x.dk, .int .i64 x.pos]
structure Nd.Ok (x : Nd) : Prop where
 w : FS x.dw x.words
 n : FI x.dn x.nums
 k : FI x.dk x.kids
 ki : a0p x.kind
 wl : x.words.length <= maxLen
 nl : x.nums.length <= maxLen
 kl : x.kids.length <= maxLen
 ni : ∀ n ∈ x.nums, a0p n
 ii : ∀ n ∈ x.kids, a0p n
structure N7 (d : D) (t : List Nd) : Prop where
 fl : FL 5 d (t.map Nd.row)
 ok : ∀ x ∈ t, x.Ok
 le : t.length <= maxLen
theorem N7.len {d : D} {t : List Nd} (h : N7 d t) : S6 false d = some (.int .i64 (t.length : Int)) := by rw [h.fl.len, List.length_map]
theorem N7.idx {d : D} {t : List Nd} (h : N7 d t) {i : Nat} (hi : i < t.length) {k : IntKind} : N3 5 d (.int k (i : Int)) = some (.fp [.int .i64 t[i].kind, t[i].dw, t[i].dn, t[i].dk, .int .i64 t[i].pos] 0) := by
 rw [h.fl.idx (by simpa using hi)]; simp [Nd.row]
theorem N7.get {d : D} {t : List Nd} (h : N7 d t) {i : Nat} (hi : i < t.length) : t[i].Ok := h.ok _ (List.getElem_mem hi)
def Ty.node : Ty := .struct [.int .i64, .slice 1 .str, .slice 1 (.int .i64), .slice 1 (.int .i64), .int .i64]
def Ty.tree : Ty := .slice 5 Ty.node
theorem c1K {a : List D} (h : V5 (.slice 1 .str) a) : ∃ d l, a = [d] /\ FS d l /\ l.length <= maxLen := by
 simp only [V5] at h
 rcases h with rfl | ⟨xs, rfl, hl, hx⟩
 ·exact ⟨.nils, [], rfl, .inl ⟨rfl, rfl⟩, by simp⟩
 ·obtain ⟨l, rfl, _⟩ := a5P (f := fun (b : ByteArray) => [D.str b]) (P := fun _ => True) (xs := xs) (fun x hm => by
   obtain ⟨b, hb, _⟩ := hx x hm
   exact ⟨b, hb, trivial⟩)
  exact ⟨_, l, rfl, .inr rfl, by simpa using hl⟩
theorem a7n {a : List D} (h : V5 (.slice 1 (.int .i64)) a) : ∃ d l, a = [d] /\ FI d l /\ l.length <= maxLen /\ ∀ n ∈ l, a0p n := by
 simp only [V5] at h
 rcases h with rfl | ⟨xs, rfl, hl, hx⟩
 ·exact ⟨.nils, [], rfl, .inl ⟨rfl, rfl⟩, by simp, by simp⟩
 ·obtain ⟨l, rfl, hi⟩ := a5P (f := fun (n : Int) => [D.int .i64 n]) (P := fun n => a0p n) (xs := xs) (fun x hm => by
   obtain ⟨n, hn, w⟩ := hx x hm
   exact ⟨n, hn, b0Z w⟩)
  exact ⟨_, l, rfl, .inr rfl, by simpa using hl, hi⟩
theorem c2N {a : List D} (h : V5 Ty.node a) : ∃ x : Nd, a = x.row /\ x.Ok := by
 simp only [Ty.node, V5, HasTs] at h
 obtain ⟨a1, b1, rfl, ⟨n1, rfl, w1⟩, a2, b2, rfl, h2, a3, b3, rfl, h3, a4, b4, rfl, h4, a5, b5, rfl, ⟨n5, rfl, w5⟩, rfl⟩ := h
 obtain ⟨dw, lw, rfl, fw, lwl⟩ := c1K (by simpa only [V5] using h2)
 obtain ⟨dn, ln, rfl, fn, lnl, lni⟩ := a7n (by simpa only [V5] using h3)
 obtain ⟨dk, lk, rfl, fk, lkl, lki⟩ := a7n (by simpa only [V5] using h4)
 exact ⟨⟨n1, dw, dn, dk, n5, lw, ln, lk⟩, rfl, fw, fn, fk, b0Z w1, lwl, lnl, lkl, lni, lki⟩
theorem c1E {d : D} (h : a3I Ty.tree d) : ∃ t, N7 d t := by
 have h : V5 Ty.tree [d] := h
 rw [Ty.tree, V5] at h
 rcases h with h | ⟨xs, h, hl, hx⟩
 ·simp at h
  subst h
  exact ⟨[], .inl ⟨rfl, rfl⟩, by simp, by simp⟩
 ·simp at h
  subst h
  obtain ⟨t, rfl, hi⟩ := a5P (f := Nd.row) (P := Nd.Ok) (xs := xs) fun x hm => c2N (hx x hm)
  exact ⟨t, .inr rfl, hi, by simpa using hl⟩
theorem b9o {d : D} (h : a3I (.slice 1 (.int .i64)) d) : ∃ l, FI d l /\ l.length <= maxLen /\ ∀ n ∈ l, a0p n := by
 obtain ⟨d', l, e, h⟩ := a7n (a := [d]) h
 simp at e
 subst e
 exact ⟨l, h⟩
end Go.V
namespace Go.V
structure Ch where
 name : ByteArray
 room : Int
 width : Int
 lossy : Bool
 copying : Bool
 deriving Inhabited
structure Vr where
 name : ByteArray
 width : Int
 value : Int
 deriving Inhabited
structure Ed where
 frm : Nat
 to : Nat
 act : Nat
 expr : Int
 var : Int
 chan : Int
 keep : Bool
 node : Nat
 deriving Inhabited
structure Pr where
 name : ByteArray
 copy : Nat
 locals : List Nat
 places : Nat
 rest : List Bool
 edges : List Ed
 names : List ByteArray
 vars : List Nat
 deriving Inhabited
def Ch.row (c : Ch) : List D := [.str c.name, .int .i64 c.room, .int .i64 c.width, .bool c.lossy, .bool c.copying]
def Vr.row (v : Vr) : List D := [.str v.name, .int .i64 v.width, .int .i64 v.value]
def Ed.row (e : Ed) : List D := [.int .i64 (e.frm : Int), .int .i64 (e.to : Int), .int .i64 (e.act : Int), .int .i64 e.expr, .int .i64 e.var, .int .i64 e.chan, .bool e.keep, .int .i64 (e.node : Int)]
def Pr.put (p : Pr) (frm to act : Nat) (node : Nat) (expr v c : Int) : Pr := { p with edges := p.edges ++ [⟨frm, to, act, expr, v, c, false, node⟩] }
def Pr.place (p : Pr) : Pr := { p with places := p.places + 1, rest := p.rest ++ [false] }
def Pr.idle (p : Pr) (n : Nat) (is : Int) : Pr := if is = 1 then { p with rest := p.rest.set n true } else p
def Z8 (l : List ByteArray) (s : ByteArray) : Nat := if l.findIdx (fun x => decide (x = s)) < l.length then l.findIdx (fun x => decide (x = s)) else 0
def inB (l : List ByteArray) (s : ByteArray) : Bool := l.any fun x => decide (x = s)
theorem a7O {l : List ByteArray} {s : ByteArray} : inB l s = true ↔ s ∈ l := by
 unfold inB
 rw [List.any_eq_true]
 constructor
 ·rintro ⟨x, hx, h⟩
  rw [decide_eq_true_eq] at h
  exact h ▸ hx
 ·intro h
  exact ⟨s, h, by simp⟩
def nd (t : List Nd) (i : Nat) : Nd := t.getD i default
def Nd.kid (x : Nd) (i : Nat) : Nat := (x.kids.getD i 0).toNat
def Nd.ks (x : Nd) : List Nat := x.kids.map Int.toNat
def Nd.word (x : Nd) (i : Nat) : ByteArray := x.words.getD i default
def Nd.num (x : Nd) (i : Nat) : Int := x.nums.getD i 0
def a1t (st : Pr -> Nat -> Nat -> Nat -> Pr) (node : Nat) : Pr -> List Nat -> Nat -> Nat -> Pr
 | p, [], frm, to => p.put frm to 0 node (-1) (-1) (-1)
 | p, [k], frm, to => st p k frm to
 | p, k :: k' :: ks, frm, to => a1t st node (st p.place k frm p.places) (k' :: ks) p.places to
def V0 (t : List Nd) (st : Pr -> Nat -> Nat -> Nat -> Pr) (p : Pr) (b frm to : Nat) : Pr := a1t st b p (nd t b).ks frm to
def a4G (t : List Nd) (b : Nat) : Bool := match (nd t b).ks with
 | [] => false
 | k :: _ => (nd t k).kind == 12
def Z1 (t : List Nd) (st : Pr -> Nat -> Nat -> Nat -> Pr) (frm to : Nat) : Pr -> List Nat -> Pr
 | p, [] => p
 | p, k :: ks => Z1 t st frm to (if a4G t k then V0 t st (p.place.put frm p.places 0 k (-1) (-1) (-1)) k p.places to else V0 t st p k frm to) ks
def a0v (n to : Nat) (l : List Ed) : List Ed := l.take n ++ (l.drop n).map fun e => { e with keep := e.to != to && e.to != 1 }
def N1 (t : List Nd) (ch : List ByteArray) : Nat -> Pr -> Nat -> Nat -> Nat -> Pr
 | 0, p, _, _, _ => p
 | f + 1, p, at', frm, to =>
   let n := nd t at'
   let st := N1 t ch f
   if n.kind = 6 then p.put frm to 1 at' (n.kid 0) (p.vars.getD (Z8 p.names (n.word 0)) 0 : Nat) (-1)
   else if n.kind = 7 then p.put frm to 2 at' (n.kid 0) (-1) (Z8 ch (n.word 0) : Nat)
   else if n.kind = 8 then (p.idle frm (n.num 0)).put frm to 3 at' (-1) (p.vars.getD (Z8 p.names (n.word 1)) 0 : Nat) (Z8 ch (n.word 0) : Nat)
   else if n.kind = 9 then (p.idle frm (n.num 0)).put frm to 4 at' (n.kid 0) (-1) (-1)
   else if n.kind = 10 then Z1 t st frm to (p.idle frm (n.num 0)) n.ks
   else if n.kind = 11 then
    let p1 := V0 t st (p.place.put frm p.places 4 at' (n.kid 0) (-1) (-1)) (n.kid 1) p.places to
    if n.kids.length = 2 then p1.put frm to 5 at' (n.kid 0) (-1) (-1)
    else V0 t st (p1.place.put frm p1.places 5 at' (n.kid 0) (-1) (-1)) (n.kid 2) p1.places to
   else if n.kind = 12 then V0 t st ((p.place.put frm p.places 4 at' (n.kid 0) (-1) (-1)).put frm to 5 at' (n.kid 0) (-1) (-1)) (n.kid 1) p.places frm
   else if n.kind = 13 then
    let p1 := V0 t st p (n.kid 0) frm to
    { p1 with edges := a0v p.edges.length to p1.edges }
   else if n.kind = 15 then p.put frm 1 0 at' (-1) (-1) (-1)
   else p.put frm to 0 at' (-1) (-1) (-1)
end Go.V
namespace Go.V
def a0A (k : Int) : Prop := 17 <= k /\ k <= 22
def a1W (k : Int) : Prop := 6 <= k /\ k <= 15
def Y3 (k : Int) : Nat := if k = 8 then 2 else if k = 1 ∨ k = 2 ∨ k = 3 ∨ k = 6 ∨ k = 7 ∨ k = 18 ∨ k = 19 then 1 else 0
def Y1 (k : Int) : Nat := if k = 1 then 4 else if k = 2 then 2 else if k = 3 ∨ k = 8 ∨ k = 9 ∨ k = 10 ∨ k = 17 ∨ k = 22 then 1 else 0
structure a51 (t : List Nd) (x : Nd) : Prop where
 kr : 0 <= x.kind /\ x.kind <= 22
 wl : x.words.length = Y3 x.kind
 nl : x.nums.length = Y1 x.kind
 prog : x.kind = 0 -> ∀ k ∈ x.ks, 1 <= (nd t k).kind /\ (nd t k).kind <= 5
 chan : x.kind = 1 -> 0 <= x.num 0 /\ 0 <= x.num 1 /\ 0 <= x.num 2 /\ x.num 2 <= 1 /\ 0 <= x.num 3 /\ x.num 3 <= 1
 var : x.kind = 2 -> -999999 <= x.num 1 /\ x.num 1 <= 999999
 proc : x.kind = 3 -> ∃ v, v <= x.ks.length /\ (∀ k ∈ x.ks.take v, (nd t k).kind = 2) /\ ∀ k ∈ x.ks.drop v, a1W (nd t k).kind
 copies : x.kind = 3 -> 0 <= x.num 0 /\ x.num 0 <= 999999
 one : x.kind = 4 ∨ x.kind = 6 ∨ x.kind = 7 ∨ x.kind = 9 ∨ x.kind = 20 ∨ x.kind = 21 -> x.kids.length = 1 /\ a0A (nd t (x.kid 0)).kind
 none : x.kind = 1 ∨ x.kind = 2 ∨ x.kind = 5 ∨ x.kind = 8 ∨ x.kind = 14 ∨ x.kind = 15 ∨ x.kind = 17 ∨ x.kind = 18 ∨ x.kind = 19 -> x.kids = []
 choose : x.kind = 10 -> 1 <= x.kids.length /\ ∀ k ∈ x.ks, (nd t k).kind = 16
 cond : x.kind = 11 -> (x.kids.length = 2 ∨ x.kids.length = 3) /\ a0A (nd t (x.kid 0)).kind /\ (nd t (x.kid 1)).kind = 16 /\ (x.kids.length = 3 -> (nd t (x.kid 2)).kind = 16)
 loop : x.kind = 12 -> x.kids.length = 2 /\ a0A (nd t (x.kid 0)).kind /\ (nd t (x.kid 1)).kind = 16
 atom : x.kind = 13 -> x.kids.length = 1 /\ (nd t (x.kid 0)).kind = 16
 block : x.kind = 16 -> ∀ k ∈ x.ks, a1W (nd t k).kind
 bin : x.kind = 22 -> x.kids.length = 2 /\ a0A (nd t (x.kid 0)).kind /\ a0A (nd t (x.kid 1)).kind /\ 0 <= x.num 0 /\ x.num 0 <= 8
 flag : x.kind = 8 ∨ x.kind = 9 ∨ x.kind = 10 -> 0 <= x.num 0 /\ x.num 0 <= 1
 lit : x.kind = 17 -> 0 <= x.num 0 /\ x.num 0 <= 999999
structure Y4 (t : List Nd) : Prop where
 pos : 0 < t.length
 le : t.length <= 800
 root : (nd t 0).kind = 0
 kids : ∀ i, i < t.length -> ∀ k ∈ (nd t i).kids, (i : Int) < k /\ k < (t.length : Int)
 node : ∀ i, i < t.length -> a51 t (nd t i)
theorem b1Q {t : List Nd} {i : Nat} (h : i < t.length) : nd t i = t[i] := by simp [nd, List.getD, h]
theorem Y4.ks {t : List Nd} (h : Y4 t) {i : Nat} (hi : i < t.length) : ∀ k ∈ (nd t i).ks, i < k /\ k < t.length := by
 intro k hk
 obtain ⟨z, hz, rfl⟩ := List.mem_map.1 hk
 have := h.kids i hi z hz
 omega
theorem X2 {x : Nd} {i : Nat} (h : i < x.kids.length) : x.kid i ∈ x.ks := by
 unfold Nd.kid Nd.ks
 simp only [List.getD, List.getElem?_eq_getElem h, Option.getD_some]
 exact List.mem_map_of_mem (List.getElem_mem h)
theorem a0n (x : Nd) : x.ks.length = x.kids.length := by simp [Nd.ks]
structure a2d (t : List Nd) (nch pl : Nat) (vars : List Nat) (e : Ed) : Prop where
 f : e.frm < pl
 to : e.to < pl
 act : e.act <= 5
 ex0 : e.act = 0 ∨ e.act = 3 -> e.expr = -1
 ex1 : e.act = 1 ∨ e.act = 2 ∨ e.act = 4 ∨ e.act = 5 -> ∃ n : Nat, e.expr = (n : Int) /\ n < t.length /\ a0A (nd t n).kind
 v1 : e.act = 1 ∨ e.act = 3 -> ∃ n ∈ vars, e.var = ((n : Nat) : Int)
 v0 : e.act = 0 ∨ e.act = 2 ∨ e.act = 4 ∨ e.act = 5 -> e.var = -1
 c1 : e.act = 2 ∨ e.act = 3 -> ∃ n : Nat, e.chan = (n : Int) /\ n < nch
 c0 : e.act = 0 ∨ e.act = 1 ∨ e.act = 4 ∨ e.act = 5 -> e.chan = -1
theorem a2d.mono {t : List Nd} {nch pl pl' : Nat} {vars : List Nat} {e : Ed} (h : a2d t nch pl vars e) (hp : pl <= pl') : a2d t nch pl' vars e :=
 ⟨by have := h.f; omega, by have := h.to; omega, h.act, h.ex0, h.ex1, h.v1, h.v0, h.c1, h.c0⟩
structure W0 (t : List Nd) (nch : Nat) (p : Pr) : Prop where
 two : 2 <= p.places
 rest : p.rest.length = p.places
 ed : ∀ e ∈ p.edges, a2d t nch p.places p.vars e
structure a0x (p q : Pr) : Prop where
 name : q.name = p.name
 copy : q.copy = p.copy
 locals : q.locals = p.locals
 names : q.names = p.names
 vars : q.vars = p.vars
 places : p.places <= q.places
 edges : ∃ l, q.edges = p.edges ++ l
theorem a0x.refl (p : Pr) : a0x p p := ⟨rfl, rfl, rfl, rfl, rfl, Nat.le_refl _, [], by simp⟩
theorem a0x.trans {p q r : Pr} (h : a0x p q) (k : a0x q r) : a0x p r := by
 obtain ⟨l, hl⟩ := h.edges
 obtain ⟨m, hm⟩ := k.edges
 exact ⟨k.name.trans h.name, k.copy.trans h.copy, k.locals.trans h.locals, k.names.trans h.names, k.vars.trans h.vars, Nat.le_trans h.places k.places, l ++ m, by rw [hm, hl, List.append_assoc]⟩
theorem a0y (p : Pr) (frm to act node : Nat) (expr v c : Int) : a0x p (p.put frm to act node expr v c) := ⟨rfl, rfl, rfl, rfl, rfl, Nat.le_refl _, _, rfl⟩
theorem a2h (p : Pr) : a0x p p.place := ⟨rfl, rfl, rfl, rfl, rfl, Nat.le_succ _, [], by simp [Pr.place]⟩
theorem b2V (p : Pr) (n : Nat) (is : Int) : a0x p (p.idle n is) := by
 unfold Pr.idle
 split
 ·exact ⟨rfl, rfl, rfl, rfl, rfl, Nat.le_refl _, [], by simp⟩
 ·exact a0x.refl p
theorem a6m (p : Pr) (n : Nat) (is : Int) : (p.idle n is).places = p.places /\ (p.idle n is).edges = p.edges /\ (p.idle n is).vars = p.vars /\ (p.idle n is).names = p.names := by
 unfold Pr.idle; split <;> exact ⟨rfl, rfl, rfl, rfl⟩
theorem a0z {t : List Nd} {nch : Nat} {p : Pr} {frm to act node : Nat} {expr v c : Int} (h : W0 t nch p) (he : a2d t nch p.places p.vars ⟨frm, to, act, expr, v, c, false, node⟩) : W0 t nch (p.put frm to act node expr v c) := by
 refine ⟨h.two, h.rest, fun e hm => ?_⟩
 rcases List.mem_append.1 hm with hm | hm
 ·exact h.ed e hm
 ·simp at hm; subst hm; exact he
theorem a1G {t : List Nd} {nch : Nat} {p : Pr} (h : W0 t nch p) : W0 t nch p.place :=
 ⟨by have := h.two; simp [Pr.place]; omega, by simp [Pr.place, h.rest], fun e hm => (h.ed e hm).mono (Nat.le_succ _)⟩
theorem b12 {t : List Nd} {nch : Nat} {p : Pr} {n : Nat} {is : Int} (h : W0 t nch p) : W0 t nch (p.idle n is) := by
 unfold Pr.idle
 split
 ·exact ⟨h.two, by simp [h.rest], h.ed⟩
 ·exact h
theorem a5a {t : List Nd} {nch pl : Nat} {vars : List Nat} {frm to node : Nat} (hf : frm < pl) (ht : to < pl) : a2d t nch pl vars ⟨frm, to, 0, -1, -1, -1, false, node⟩ :=
 ⟨hf, ht, by simp, by simp, by simp, by simp, by simp, by simp, by simp⟩
theorem a14 {t : List Nd} {nch pl : Nat} {vars : List Nat} {frm to node n : Nat} {a : Nat} (ha : a = 4 ∨ a = 5) (hf : frm < pl) (ht : to < pl) (hn : n < t.length) (hk : a0A (nd t n).kind) : a2d t nch pl vars ⟨frm, to, a, (n : Int), -1, -1, false, node⟩ := by
 refine ⟨hf, ht, ?_, ?_, fun _ => ⟨n, rfl, hn, hk⟩, ?_, fun _ => rfl, ?_, fun _ => rfl⟩ <;> simp <;> omega
def a1c (t : List Nd) (nch : Nat) (names : List ByteArray) (vars : List Nat) (st : Pr -> Nat -> Nat -> Nat -> Pr) (k : Nat) : Prop :=
 ∀ p frm to, W0 t nch p -> p.names = names -> p.vars = vars -> frm < p.places -> to < p.places -> W0 t nch (st p k frm to) /\ a0x p (st p k frm to)
theorem a2W {t : List Nd} {nch : Nat} {names : List ByteArray} {vars : List Nat} {st : Pr -> Nat -> Nat -> Nat -> Pr} {node : Nat} : ∀ {ks : List Nat} {p : Pr} {frm to : Nat}, (∀ k ∈ ks, a1c t nch names vars st k) ->
 W0 t nch p -> p.names = names -> p.vars = vars -> frm < p.places -> to < p.places -> W0 t nch (a1t st node p ks frm to) /\ a0x p (a1t st node p ks frm to)
 | [], p, frm, to, _, h, hn, hv, hf, ht => ⟨a0z h (a5a hf ht), a0y _ _ _ _ _ _ _ _⟩
 | [k], p, frm, to, hs, h, hn, hv, hf, ht => hs k (by simp) p frm to h hn hv hf ht
 | k :: k' :: ks, p, frm, to, hs, h, hn, hv, hf, ht => by
   have h1 := hs k (by simp) p.place frm p.places (a1G h) hn hv (Nat.lt_succ_of_lt hf) (Nat.lt_succ_self _)
   have g1 := (a2h p).trans h1.2
   have := h1.2.places
   have : p.place.places = p.places + 1 := rfl
   have h2 := a2W (node := node) (ks := k' :: ks) (p := st p.place k frm p.places) (frm := p.places) (to := to) (fun x hx => hs x (by simp only [List.mem_cons] at hx ⊢; right; exact hx)) h1.1 (g1.names.trans hn) (g1.vars.trans hv) (by omega) (by omega)
   exact ⟨h2.1, g1.trans h2.2⟩
theorem b0u {t : List Nd} {nch : Nat} {names : List ByteArray} {vars : List Nat} {st : Pr -> Nat -> Nat -> Nat -> Pr} {frm to : Nat} : ∀ {ks : List Nat} {p : Pr}, (∀ b ∈ ks, ∀ k ∈ (nd t b).ks, a1c t nch names vars st k) ->
 W0 t nch p -> p.names = names -> p.vars = vars -> frm < p.places -> to < p.places -> W0 t nch (Z1 t st frm to p ks) /\ a0x p (Z1 t st frm to p ks)
 | [], p, _, h, _, _, _, _ => ⟨h, a0x.refl p⟩
 | k :: ks, p, hs, h, hn, hv, hf, ht => by
   have key : ∀ q, W0 t nch q -> a0x p q -> W0 t nch (Z1 t st frm to q ks) /\ a0x p (Z1 t st frm to q ks) := fun q hq gq => by
    have := gq.places
    have := b0u (ks := ks) (p := q) (frm := frm) (to := to) (fun b hb => hs b (by simp [hb])) hq (gq.names.trans hn) (gq.vars.trans hv) (by omega) (by omega)
    exact ⟨this.1, gq.trans this.2⟩
   have hk := hs k (by simp)
   unfold Z1
   split
   ·have h1 := a0z (node := k) (a1G h) (a5a (frm := frm) (to := p.places) (Nat.lt_succ_of_lt hf) (Nat.lt_succ_self _))
    have g1 := (a2h p).trans (a0y p.place frm p.places 0 k (-1) (-1) (-1))
    have := a2W (node := k) (frm := p.places) (to := to) hk h1 hn hv (Nat.lt_succ_self _) (Nat.lt_succ_of_lt ht)
    exact key _ this.1 (g1.trans this.2)
   ·have := a2W (node := k) (frm := frm) (to := to) hk h hn hv hf ht
    exact key _ this.1 this.2
theorem a3r {t : List Nd} {nch : Nat} {names : List ByteArray} {vars : List Nat} {st : Pr -> Nat -> Nat -> Nat -> Pr} {b : Nat} {p : Pr} {frm to : Nat} (hs : ∀ k ∈ (nd t b).ks, a1c t nch names vars st k)
 (h : W0 t nch p) (hn : p.names = names) (hv : p.vars = vars) (hf : frm < p.places) (ht : to < p.places) : W0 t nch (V0 t st p b frm to) /\ a0x p (V0 t st p b frm to) := a2W hs h hn hv hf ht
structure a6v (t : List Nd) (nch : Nat) (ch names : List ByteArray) (vars : List Nat) (k : Nat) : Prop where
 same : names.length = vars.length
 chs : ch.length = nch
 v : (nd t k).kind = 6 ∨ (nd t k).kind = 8 -> 0 < names.length
 c : (nd t k).kind = 7 ∨ (nd t k).kind = 8 -> 0 < ch.length
theorem a6B {l : List ByteArray} {s : ByteArray} (h : 0 < l.length) : Z8 l s < l.length := by
 unfold Z8; split <;> assumption
theorem b5I {l : List Nat} {i : Nat} (h : i < l.length) : l.getD i 0 ∈ l := by simp [List.getD, h]
theorem c1u {n to : Nat} {l : List Ed} {e : Ed} (h : e ∈ a0v n to l) : ∃ e' ∈ l, ∃ b, e = { e' with keep := b } := by
 rcases List.mem_append.1 h with h | h
 ·exact ⟨e, List.mem_of_mem_take h, e.keep, rfl⟩
 ·obtain ⟨e', h', rfl⟩ := List.mem_map.1 h
  exact ⟨e', List.mem_of_mem_drop h', _, rfl⟩
theorem a6q {t : List Nd} (ht : Y4 t) {nch : Nat} {ch names : List ByteArray} {vars : List Nat} {P : Nat -> Prop} (hc : ∀ j, j < t.length -> P j -> ∀ k ∈ (nd t j).ks, P k) (hs : ∀ k, P k -> a6v t nch ch names vars k) : ∀ (f k : Nat), k < t.length -> P k -> a1W (nd t k).kind -> t.length - k < f -> a1c t nch names vars (N1 t ch f) k
 | 0, k, _, _, _, hf => by omega
 | f + 1, k, hk, hP, hst, hf => by
   intro p frm to h hn hv hfr hto
   have hno := ht.node k hk
   have hks := ht.ks hk
   have hS := hs k hP
   have bl : ∀ b ∈ (nd t k).ks, (nd t b).kind = 16 -> ∀ x ∈ (nd t b).ks, a1c t nch names vars (N1 t ch f) x := fun b hb hb16 x hx => by
    have h1 := hks b hb
    have h2 := ht.ks h1.2 x hx
    exact a6q ht hc hs f x h2.2 (hc b h1.2 (hc k hk hP b hb) x hx) ((ht.node b h1.2).block hb16 x hx) (by omega)
   have hvar : 0 < names.length -> ∀ s, ∃ n ∈ p.vars, ((p.vars.getD (Z8 p.names s) 0 : Nat) : Int) = ((n : Nat) : Int) := fun hp s => by
    refine ⟨_, b5I ?_, rfl⟩
    rw [hv, hn, <- hS.same]
    exact a6B hp
   have hch : 0 < ch.length -> ∀ s, ∃ n : Nat, ((Z8 ch s : Nat) : Int) = (n : Int) /\ n < nch := fun hp s => ⟨_, rfl, by rw [<- hS.chs]; exact a6B hp⟩
   have hex : 1 <= (nd t k).kids.length -> a0A (nd t ((nd t k).kid 0)).kind -> ∃ n : Nat, (((nd t k).kid 0 : Nat) : Int) = (n : Int) /\ n < t.length /\ a0A (nd t n).kind := fun h1 h2 => ⟨_, rfl, (hks _ (X2 h1)).2, h2⟩
   have ip := a6m p frm ((nd t k).num 0)
   have gi := b2V p frm ((nd t k).num 0)
   have ii := b12 (n := frm) (is := (nd t k).num 0) h
   unfold N1
   simp only
   have hp2 := h.two
   by_cases c6 : (nd t k).kind = 6
   ·rw [if_pos c6]
    have h1 := hno.one (by omega)
    refine ⟨a0z h ⟨hfr, hto, by simp, by simp, fun _ => hex (by omega) h1.2, fun _ => hvar (hS.v (by omega)) _, by simp, by simp, fun _ => rfl⟩, a0y _ _ _ _ _ _ _ _⟩
   rw [if_neg c6]
   by_cases c7 : (nd t k).kind = 7
   ·rw [if_pos c7]
    have h1 := hno.one (by omega)
    refine ⟨a0z h ⟨hfr, hto, by simp, by simp, fun _ => hex (by omega) h1.2, by simp, fun _ => rfl, fun _ => hch (hS.c (by omega)) _, by simp⟩, a0y _ _ _ _ _ _ _ _⟩
   rw [if_neg c7]
   by_cases c8 : (nd t k).kind = 8
   ·rw [if_pos c8]
    refine ⟨a0z ii ⟨by rw [ip.1]; exact hfr, by rw [ip.1]; exact hto, by simp, fun _ => rfl, by simp, fun _ => by rw [ip.2.2.1]; exact hvar (hS.v (by omega)) _, by simp, fun _ => hch (hS.c (by omega)) _, by simp⟩, gi.trans (a0y _ _ _ _ _ _ _ _)⟩
   rw [if_neg c8]
   by_cases c9 : (nd t k).kind = 9
   ·rw [if_pos c9]
    have h1 := hno.one (by omega)
    exact ⟨a0z ii (a14 (.inl rfl) (by rw [ip.1]; exact hfr) (by rw [ip.1]; exact hto) (hks _ (X2 (by omega))).2 h1.2), gi.trans (a0y _ _ _ _ _ _ _ _)⟩
   rw [if_neg c9]
   by_cases c10 : (nd t k).kind = 10
   ·rw [if_pos c10]
    have h1 := hno.choose c10
    have := b0u (frm := frm) (to := to) (fun b hb => bl b hb (h1.2 b hb)) ii (ip.2.2.2.trans hn) (ip.2.2.1.trans hv) (by rw [ip.1]; exact hfr) (by rw [ip.1]; exact hto)
    exact ⟨this.1, gi.trans this.2⟩
   rw [if_neg c10]
   by_cases c11 : (nd t k).kind = 11
   ·rw [if_pos c11]
    obtain ⟨l1, l2, l3, l4⟩ := hno.cond c11
    have k0 := (hks _ (X2 (i := 0) (by omega))).2
    have m1 := X2 (x := nd t k) (i := 1) (by omega)
    have i1 := a0z (node := k) (a1G h) (a14 (.inl rfl) (frm := frm) (to := p.places) (Nat.lt_succ_of_lt hfr) (Nat.lt_succ_self _) k0 l2)
    have g1 := (a2h p).trans (a0y p.place frm p.places 4 k ((nd t k).kid 0 : Nat) (-1) (-1))
    have s1 := a3r (b := (nd t k).kid 1) (frm := p.places) (to := to) (bl _ m1 l3) i1 hn hv (Nat.lt_succ_self _) (Nat.lt_succ_of_lt hto)
    generalize V0 t (N1 t ch f) (p.place.put frm p.places 4 k ((nd t k).kid 0 : Nat) (-1) (-1)) ((nd t k).kid 1) p.places to = q at *
    have g2 := g1.trans s1.2
    have := g2.places
    split
    ·exact ⟨a0z s1.1 (a14 (.inr rfl) (by omega) (by omega) k0 l2), g2.trans (a0y _ _ _ _ _ _ _ _)⟩
    ·have l3' : (nd t k).kids.length = 3 := by omega
     have m2 := X2 (x := nd t k) (i := 2) (by omega)
     have hpl : q.place.places = q.places + 1 := rfl
     have i2 := a0z (node := k) (a1G s1.1) (a14 (.inr rfl) (frm := frm) (to := q.places) (by omega) (Nat.lt_succ_self _) k0 l2)
     have g3 := (g2.trans (a2h _)).trans (a0y _ frm q.places 5 k ((nd t k).kid 0 : Nat) (-1) (-1))
     have s2 := a3r (b := (nd t k).kid 2) (frm := q.places) (to := to) (bl _ m2 (l4 l3')) i2 (g3.names.trans hn) (g3.vars.trans hv) (Nat.lt_succ_self _) (by show to < q.places + 1; omega)
     exact ⟨s2.1, g3.trans s2.2⟩
   rw [if_neg c11]
   by_cases c12 : (nd t k).kind = 12
   ·rw [if_pos c12]
    obtain ⟨l1, l2, l3⟩ := hno.loop c12
    have k0 := (hks _ (X2 (i := 0) (by omega))).2
    have m1 := X2 (x := nd t k) (i := 1) (by omega)
    have i1 := a0z (node := k) (a1G h) (a14 (.inl rfl) (frm := frm) (to := p.places) (Nat.lt_succ_of_lt hfr) (Nat.lt_succ_self _) k0 l2)
    have i2 := a0z (node := k) i1 (a14 (.inr rfl) (frm := frm) (to := to) (Nat.lt_succ_of_lt hfr) (Nat.lt_succ_of_lt hto) k0 l2)
    have g1 := ((a2h p).trans (a0y p.place frm p.places 4 k ((nd t k).kid 0 : Nat) (-1) (-1))).trans (a0y _ frm to 5 k ((nd t k).kid 0 : Nat) (-1) (-1))
    have s1 := a2W (node := (nd t k).kid 1) (frm := p.places) (to := frm) (bl _ m1 l3) i2 hn hv (Nat.lt_succ_self _) (Nat.lt_succ_of_lt hfr)
    exact ⟨s1.1, g1.trans s1.2⟩
   rw [if_neg c12]
   by_cases c13 : (nd t k).kind = 13
   ·rw [if_pos c13]
    obtain ⟨l1, l2⟩ := hno.atom c13
    have m0 := X2 (x := nd t k) (i := 0) (by omega)
    have s1 := a2W (node := (nd t k).kid 0) (frm := frm) (to := to) (bl _ m0 l2) h hn hv hfr hto
    obtain ⟨l, hl⟩ := s1.2.edges
    refine ⟨⟨s1.1.two, s1.1.rest, fun e he => ?_⟩, ⟨s1.2.name, s1.2.copy, s1.2.locals, s1.2.names, s1.2.vars, s1.2.places, l.map fun e => { e with keep := e.to != to && e.to != 1 }, ?_⟩⟩
    ·obtain ⟨e', h', b, rfl⟩ := c1u he
     have := s1.1.ed e' h'
     exact ⟨this.f, this.to, this.act, this.ex0, this.ex1, this.v1, this.v0, this.c1, this.c0⟩
    ·show a0v _ _ (V0 t (N1 t ch f) p ((nd t k).kid 0) frm to).edges = p.edges ++ l.map fun e => { e with keep := e.to != to && e.to != 1 }
     unfold a0v V0
     rw [hl, List.take_left, List.drop_left]
   rw [if_neg c13]
   by_cases c15 : (nd t k).kind = 15
   ·rw [if_pos c15]
    exact ⟨a0z h (a5a hfr (by omega)), a0y _ _ _ _ _ _ _ _⟩
   rw [if_neg c15]
   exact ⟨a0z h (a5a hfr hto), a0y _ _ _ _ _ _ _ _⟩
end Go.V
namespace Go.V
def a1z (w : Nat -> Nat × Bool) (len : Nat) : List Int -> Nat -> Nat × Bool
 | [], next => (next, true)
 | k :: ks, next => if k ≠ (next : Int) ∨ len <= next then (next, false) else if (w next).2 then a1z w len ks (w next).1 else ((w next).1, false)
def Q9 (t : List Nd) : Nat -> Nat -> Nat × Bool
 | 0, i => (i, false)
 | f + 1, i => a1z (Q9 t f) t.length (nd t i).kids (i + 1)
structure Sub (t : List Nd) (i n : Nat) : Prop where
 lt : i < n
 le : n <= t.length
 down : ∀ j, i <= j -> j < n -> ∀ k ∈ (nd t j).kids, (j : Int) < k /\ k < (n : Int)
 up : ∀ j, i < j -> j < n -> ∃ p, i <= p /\ p < n /\ (j : Int) ∈ (nd t p).kids
def X8 (t : List Nd) : List Int -> Nat -> Nat -> Prop
 | [], a, n => a = n
 | k :: ks, a, n => k = (a : Int) /\ ∃ b, Sub t a b /\ X8 t ks b n
theorem X8.le {t : List Nd} : ∀ {ks : List Int} {a n : Nat}, X8 t ks a n -> a <= n
 | [], a, n, h => Nat.le_of_eq h
 | k :: ks, a, n, h => by
   obtain ⟨_, b, h1, h2⟩ := h
   have := h1.lt
   have := h2.le
   omega
theorem X8.down {t : List Nd} : ∀ {ks : List Int} {a n : Nat}, X8 t ks a n -> ∀ j, a <= j -> j < n -> ∀ k ∈ (nd t j).kids, (j : Int) < k /\ k < (n : Int)
 | [], a, n, h, j, h1, h2 => by simp only [X8] at h; omega
 | k :: ks, a, n, h, j, h1, h2 => by
   obtain ⟨_, b, h3, h4⟩ := h
   have := h4.le
   by_cases hj : j < b
   ·intro x hx
    have := h3.down j h1 hj x hx
    omega
   ·exact h4.down j (by omega) h2
theorem X8.up {t : List Nd} : ∀ {ks : List Int} {a n : Nat}, X8 t ks a n -> ∀ j, a <= j -> j < n -> (j : Int) ∈ ks ∨ ∃ p, a <= p /\ p < n /\ (j : Int) ∈ (nd t p).kids
 | [], a, n, h, j, h1, h2 => by simp only [X8] at h; omega
 | k :: ks, a, n, h, j, h1, h2 => by
   obtain ⟨rfl, b, h3, h4⟩ := h
   have := h4.le
   have := h3.lt
   by_cases hj : j < b
   ·by_cases ha : j = a
    ·subst ha; exact .inl (by simp)
    ·obtain ⟨p, p1, p2, p3⟩ := h3.up j (by omega) hj
     exact .inr ⟨p, p1, by omega, p3⟩
   ·rcases h4.up j (by omega) h2 with h | ⟨p, p1, p2, p3⟩
    ·exact .inl (by simp [h])
    ·exact .inr ⟨p, by omega, p2, p3⟩
theorem X8.mem {t : List Nd} : ∀ {ks : List Int} {a n : Nat}, X8 t ks a n -> ∀ k ∈ ks, (a : Int) <= k /\ k < (n : Int)
 | [], a, n, h => by simp
 | k :: ks, a, n, h => by
   obtain ⟨rfl, b, h3, h4⟩ := h
   have := h4.le
   have := h3.lt
   intro x hx
   rcases List.mem_cons.1 hx with rfl | hx
   ·omega
   ·have := h4.mem x hx
    omega
theorem c4d {t : List Nd} {i n : Nat} (h : X8 t (nd t i).kids (i + 1) n) (hn : n <= t.length) : Sub t i n := by
 have hl := h.le
 refine ⟨by omega, hn, fun j h1 h2 => ?_, fun j h1 h2 => ?_⟩
 ·by_cases hj : j = i
  ·subst hj
   intro k hk
   have := h.mem k hk
   omega
  ·exact h.down j (by omega) h2
 ·rcases h.up j (by omega) h2 with h | ⟨p, p1, p2, p3⟩
  ·exact ⟨i, by omega, by omega, h⟩
  ·exact ⟨p, by omega, p2, p3⟩
theorem b0Q {t : List Nd} {w : Nat -> Nat × Bool} (hw : ∀ i n, i < t.length -> w i = (n, true) -> Sub t i n) : ∀ {ks : List Int} {next n : Nat}, next <= t.length -> a1z w t.length ks next = (n, true) -> X8 t ks next n /\ n <= t.length
 | [], next, n, hl, h => by
   simp only [a1z, Prod.mk.injEq, and_true] at h
   subst h
   exact ⟨rfl, hl⟩
 | k :: ks, next, n, hl, h => by
   unfold a1z at h
   split at h
   ·simp at h
   ·rename_i hc
    split at h
    ·rename_i ht
     have hk : k = (next : Int) /\ next < t.length := by omega
     have a := hw next (w next).1 hk.2 (by rw [<- ht])
     obtain ⟨b1, b2⟩ := b0Q hw a.le h
     exact ⟨⟨hk.1, _, a, b1⟩, b2⟩
    ·simp at h
theorem a19 {t : List Nd} : ∀ (f : Nat) {i n : Nat}, i < t.length -> Q9 t f i = (n, true) -> Sub t i n /\ X8 t (nd t i).kids (i + 1) n
 | 0, i, n, _, h => by simp [Q9] at h
 | f + 1, i, n, hi, h => by
   obtain ⟨a1, a2⟩ := b0Q (fun i n hi h => (a19 f hi h).1) (by omega) h
   exact ⟨c4d a1 a2, a1⟩
theorem b1r {t : List Nd} {w : Nat -> Nat × Bool} (hw : ∀ i, i < t.length -> (w i).1 <= t.length) : ∀ {ks : List Int} {next : Nat}, next <= t.length -> (a1z w t.length ks next).1 <= t.length
 | [], next, h => h
 | k :: ks, next, h => by
   unfold a1z
   split
   ·exact h
   ·rename_i hc
    split
    ·exact b1r hw (hw next (by omega))
    ·exact hw next (by omega)
theorem b09 {t : List Nd} : ∀ (f : Nat) {i : Nat}, i < t.length -> (Q9 t f i).1 <= t.length
 | 0, i, h => Nat.le_of_lt h
 | f + 1, i, h => b1r (fun i hi => b09 f hi) (by omega)
end Go.V
namespace Go.V
structure O0 (t : List Nd) : Prop where
 ok : Y4 t
 subs : X8 t (nd t 0).kids 1 t.length
 walk : Q9 t 20 0 = (t.length, true)
def a09 : List Int -> Nat -> Nat -> Nat
 | [], _, out => out
 | k :: ks, i, out => a09 ks i (if k <= (i : Int) then k.toNat else out)
def item (t : List Nd) (i : Nat) : Nat := a09 (nd t 0).kids i 0
theorem a6c {ks : List Int} {i out : Nat} (h : ∀ k ∈ ks, (i : Int) < k) : a09 ks i out = out := by
 induction ks generalizing out with
 | nil => rfl
 | cons k ks ih =>
   have := h k (by simp)
   unfold a09
   rw [if_neg (by omega)]
   exact ih fun x hx => h x (by simp [hx])
theorem b1U {t : List Nd} : ∀ {ks : List Int} {a n i out : Nat}, X8 t ks a n -> a <= i -> i < n -> ∃ b, (a09 ks i out : Int) ∈ ks /\ Sub t (a09 ks i out) b /\ a09 ks i out <= i /\ i < b
 | [], a, n, i, out, h, h1, h2 => by simp only [X8] at h; omega
 | k :: ks, a, n, i, out, h, h1, h2 => by
   obtain ⟨rfl, b, h3, h4⟩ := h
   unfold a09
   rw [if_pos (by omega)]
   by_cases hb : i < b
   ·rw [a6c fun x hx => by have := h4.mem x hx; omega]
    exact ⟨b, by simp, by simpa using h3, by simpa using h1, hb⟩
   ·obtain ⟨c, c1, c2, c3, c4⟩ := b1U (out := (a : Int).toNat) h4 (by omega) h2
    exact ⟨c, List.mem_cons_of_mem _ c1, c2, c3, c4⟩
theorem b6s {t : List Nd} (h : O0 t) {i : Nat} (h1 : 1 <= i) (h2 : i < t.length) : ∃ b, (item t i : Int) ∈ (nd t 0).kids /\ Sub t (item t i) b /\ item t i <= i /\ i < b := b1U h.subs h1 h2
theorem a3m {t : List Nd} (h : O0 t) {x : Nat} (hx : (x : Int) ∈ (nd t 0).kids) : item t x = x := by
 have hm := h.subs.mem _ hx
 have key : ∀ {ks : List Int} {a n out : Nat}, X8 t ks a n -> (x : Int) ∈ ks -> a09 ks x out = x := by
  intro ks
  induction ks with
  | nil => intro a n out _ hx; simp at hx
  | cons k ks ih =>
    intro a n out hs hx
    obtain ⟨rfl, b, h3, h4⟩ := hs
    unfold a09
    rcases List.mem_cons.1 hx with hx | hx
    ·rw [if_pos (by omega), a6c fun y hy => by have := h4.mem y hy; have := h3.lt; omega]
     omega
    ·exact ih h4 hx
 exact key h.subs hx
theorem b0I {t : List Nd} (h : O0 t) {x i : Nat} (hx : (x : Int) ∈ (nd t 0).kids) : ∃ b, Sub t x b /\ b <= t.length /\ ∀ i, x <= i -> i < b -> item t i = x := by
 have key : ∀ {ks : List Int} {a n : Nat}, X8 t ks a n -> (x : Int) ∈ ks -> ∃ b, Sub t x b /\ b <= n /\ ∀ i out, x <= i -> i < b -> a09 ks i out = x := by
  intro ks
  induction ks with
  | nil => intro a n _ hx; simp at hx
  | cons k ks ih =>
    intro a n hs hx
    obtain ⟨rfl, b, h3, h4⟩ := hs
    have hl := h4.le
    rcases List.mem_cons.1 hx with hx | hx
    ·obtain rfl : x = a := by omega
     refine ⟨b, h3, hl, fun i out h1 h2 => ?_⟩
     unfold a09
     rw [if_pos (by omega), a6c fun y hy => by have := h4.mem y hy; omega]
     omega
    ·obtain ⟨c, c1, c2, c3⟩ := ih h4 hx
     exact ⟨c, c1, c2, fun i out h1 h2 => c3 i _ h1 h2⟩
 obtain ⟨b, b1, b2, b3⟩ := key h.subs hx
 exact ⟨b, b1, b2, fun i h1 h2 => b3 i 0 h1 h2⟩
def a0L (t : List Nd) (kind : Int) (at' : Nat) (s : ByteArray) : Prop := ∃ i, i < at' /\ (nd t i).kind = kind /\ (item t i = i ∨ item t i = item t at') /\ (nd t i).word 0 = s
def U2 (t : List Nd) (at' : Nat) (kind : Int) : Nat -> List ByteArray
 | 0 => []
 | i + 1 => if (nd t i).kind = kind /\ (item t i = i ∨ item t i = item t at') /\ inB (U2 t at' kind i) ((nd t i).word 0) = false then U2 t at' kind i ++ [(nd t i).word 0] else U2 t at' kind i
theorem b1n {t : List Nd} {at' : Nat} {kind : Int} {s : ByteArray} : ∀ {n : Nat}, s ∈ U2 t at' kind n ↔ ∃ i, i < n /\ (nd t i).kind = kind /\ (item t i = i ∨ item t i = item t at') /\ (nd t i).word 0 = s
 | 0 => by simp [U2]
 | n + 1 => by
   have ih := b1n (t := t) (at' := at') (kind := kind) (s := s) (n := n)
   rw [U2]
   split
   ·rename_i hc
    rw [List.mem_append, ih]
    constructor
    ·rintro (⟨i, h1, h2⟩ | h)
     ·exact ⟨i, by omega, h2⟩
     ·simp at h
      exact ⟨n, by omega, hc.1, hc.2.1, h.symm⟩
    ·rintro ⟨i, h1, h2, h3, h4⟩
     by_cases hi : i = n
     ·subst hi; right; simp [h4]
     ·exact .inl ⟨i, by omega, h2, h3, h4⟩
   ·rename_i hc
    rw [ih]
    constructor
    ·rintro ⟨i, h1, h2⟩
     exact ⟨i, by omega, h2⟩
    ·rintro ⟨i, h1, h2, h3, h4⟩
     by_cases hi : i = n
     ·subst hi
      have : (nd t i).word 0 ∈ U2 t at' kind i := by
       rw [<- a7O]
       cases h : inB (U2 t at' kind i) ((nd t i).word 0)
       ·exact (hc ⟨h2, h3, h⟩).elim
       ·rfl
      rw [h4] at this
      obtain ⟨j, j1, j2⟩ := ih.1 this
      exact ⟨j, j1, j2⟩
     ·exact ⟨i, by omega, h2, h3, h4⟩
structure a1F (t : List Nd) : Prop where
 use : ∀ i, i < t.length -> (nd t i).kind = 6 ∨ (nd t i).kind = 18 -> a0L t 2 i ((nd t i).word 0)
 chan : ∀ i, i < t.length -> (nd t i).kind = 7 ∨ (nd t i).kind = 19 ∨ (nd t i).kind = 8 -> a0L t 1 i ((nd t i).word 0)
 recv : ∀ i, i < t.length -> (nd t i).kind = 8 -> a0L t 2 i ((nd t i).word 1)
 once : ∀ i, i < t.length -> (nd t i).kind = 1 ∨ (nd t i).kind = 2 ∨ (nd t i).kind = 3 -> ¬ a0L t 1 i ((nd t i).word 0) /\ ¬ a0L t 2 i ((nd t i).word 0) /\ ¬ a0L t 3 i ((nd t i).word 0)
end Go.V
namespace Go.Proofs.YtnjlhebkhjcagaaGreat
open Go.V
set_option maxRecDepth 100000
set_option maxHeartbeats 4000000
theorem a1v {i n : Nat} (h : i < n) (hn : n <= maxLen) : IntKind.i64.wrap ((i : Int) + 1) = ((i + 1 : Nat) : Int) := by
 have : maxLen = 9223372036854775807 := rfl
 rw [O4 (by omega) (by omega)]; omega
def Iso (f : Nat) (l : List D) (r : D) : Prop := ∃ s1, Ev vfs f l M1.empty r s1
def P5 (f : Nat) (l : List D) (P : Bool -> Prop) : Prop := ∃ b, Iso f l (.bool b) /\ P b
theorem Q3 {f : Nat} {l : List D} {P : Bool -> Prop} (h : EvP vfs f l M1.empty fun d _ => ∃ b, d = .bool b /\ P b) : P5 f l P := by
 obtain ⟨d, s', h, b, rfl, hp⟩ := h
 exact ⟨b, ⟨s', h⟩, hp⟩
theorem a1Q {f : Nat} {l : List D} {r : D} (h : EvP vfs f l M1.empty fun d _ => d = r) : Iso f l r := by
 obtain ⟨d, s', h, rfl⟩ := h
 exact ⟨s', h⟩
theorem M5 {pairs i t f args rest s Q} {env : Env} {l : List D} {r : D} (hr : Iso f l r) (hs : Y0 r = true) (hl : env.evL args = l) (ha : N2 (V.ice s.get 20) l = some l)
 (h : WQ vfs pairs rest ((t, r) :: env) s Q) : WQ vfs pairs ((i, ⟨some t, .m (.call .iso (.cst (.fn f [])) args), none⟩) :: rest) env s Q := by
 obtain ⟨s1, hr⟩ := hr
 exact a1A hr hs hl ha h
theorem b2F {n : Int} : P5 78 [.int .u8 n] fun _ => True := by
 refine Q3 ?_
 by_cases c1 : 65 <= n <;> by_cases c2 : n <= 90 <;> by_cases c3 : 97 <= n <;> by_cases c4 : n <= 122
 all_goals
  refine M8 (vf := a9h) rfl ?_
  unfold a9h; refine zE ?_
  try refine zW (aN c1 (aN c2 (aN c3 c4))) ?_
  exact ⟨.inr trivial, _, rR, _, rfl, trivial⟩
theorem b95 {n : Int} : P5 80 [.int .u8 n] fun _ => True := by
 refine Q3 ?_
 by_cases c1 : 48 <= n <;> by_cases c2 : n <= 57
 all_goals
  refine M8 (vf := a7v) rfl ?_
  unfold a7v; refine zE ?_
  try refine zW (aN c1 c2) ?_
  exact ⟨.inr trivial, _, rR, _, rfl, trivial⟩
theorem b6z {n : Int} : P5 79 [.int .u8 n] fun _ => True := by
 refine Q3 ?_
 obtain ⟨b1, h1, _⟩ := b2F (n := n)
 obtain ⟨b2, h2, _⟩ := b95 (n := n)
 cases b1 <;> cases b2 <;> by_cases c1 : (n == 95) = true
 all_goals
  refine M8 (vf := a8a) rfl ?_
  unfold a8a; refine zE ?_
  repeat first
  |(apply M5 h1 rfl rfl rfl)
  |(apply M5 h2 rfl rfl rfl)
  |refine zW c1 ?_
  exact ⟨.inr trivial, _, rR, _, rfl, trivial⟩
theorem c2L {s : M1} {id n : Nat} {cs : List D} (h : s.get id = some (.cells cs)) (hn : cs.length = n) : Rd s (.arr id 0 n 1) cs := by subst hn; exact Rd.arr h
theorem b5x {x : ByteArray} : P5 120 [.str x] fun _ => True := by
 refine Q3 ?_
 refine M8 (vf := a7o) rfl ?_
 unfold a7o; refine zE ?_
 try refine zW0 ?_
 refine S9 (Q := N4 0 _) (fun n env s => ∃ (i : Nat) (cs : List D), i <= 21 /\ n = 21 - i /\ s.get 0 = some (.cells cs) /\ cs.length = 21 /\ (∀ c ∈ cs, ∃ y, c = .str y) /\ (env.get 0 = .str x /\ env.get 3 = .arr 0 0 21 1 /\ env.get 4 = .int .i64 (i : Int))) ?_ 21 _ _
  ⟨0, _, by omega, rfl, O5 rfl, rfl, by simp, by simp [Env.get, O8.at]; rfl⟩
 rintro n env s ⟨i, cs, hi, rfl, hg, hl, hc, hE⟩
 have l21 : ((21 : Nat) : Int) = 21 := rfl
 by_cases h : i < 21
 ·have c1 : ((i : Int) < 21) = True := eq_true (by omega)
  have hs : IntKind.i64.wrap ((i : Int) + 1) = ((i + 1 : Nat) : Int) := by rw [O4 (by omega) (by omega)]; omega
  have ho : cs.all M9 = true := by
   rw [List.all_eq_true]
   intro c hm
   obtain ⟨y, rfl⟩ := hc c hm
   rfl
  obtain ⟨p, p1, p2⟩ := (c2L hg hl).idx ho (i := i) (by omega) (k := .i64) rfl
  obtain ⟨y, hy⟩ := hc cs[i] (List.getElem_mem _)
  rw [hy] at p2
  by_cases c2 : y = x
  ·try refine zW (aN hE (aN l21 (aN c1 (aN p1 (aN p2 c2))))) ?_
   exact ⟨.inr trivial, _, rR, _, rfl, trivial⟩
  ·try refine zW (aN hE (aN l21 (aN c1 (aN p1 (aN p2 (aN c2 hs)))))) ?_
   exact ⟨21 - (i + 1), by omega, i + 1, cs, by omega, rfl, hg, hl, hc, (rG hE)⟩
 ·have c1 : ((i : Int) < 21) = False := eq_false (by omega)
  try refine zW (aN hE (aN l21 c1)) ?_
  exact ⟨.inr trivial, _, rR, _, rfl, trivial⟩
theorem b0x {x : ByteArray} {i : Nat} (h : i < x.size) : ∃ v, a5s (.str x) (.int .i64 (i : Int)) = some (.int .u8 v) := by
 refine ⟨(x[i]).toNat, ?_⟩
 have : x[i]? = some x[i] := by simp [h]
 simp [a5s, this]
theorem c3R {x : ByteArray} : P5 116 [.str x] fun _ => True := by
 refine Q3 ?_
 by_cases c1 : x.size = 0
 ·have c1' : ((x.size : Int) == 0) = true := by rw [c1]; rfl
  refine M8 (vf := a1U) rfl ?_
  unfold a1U; refine zE ?_
  try refine zW c1' ?_
  exact ⟨.inr trivial, _, rR, _, rfl, trivial⟩
 have c1' : ((x.size : Int) == 0) = false := by rw [beq_eq_false_iff_ne]; omega
 by_cases c2 : 12 < x.size
 ·have c2' : ((12 : Int) < (x.size : Int)) = True := eq_true (by omega)
  refine M8 (vf := a1U) rfl ?_
  unfold a1U; refine zE ?_
  try refine zW (aN c1' c2') ?_
  exact ⟨.inr trivial, _, rR, _, rfl, trivial⟩
 have c2' : ((12 : Int) < (x.size : Int)) = False := eq_false (by omega)
 obtain ⟨v, hv⟩ := b0x (x := x) (i := 0) (by omega)
 obtain ⟨b1, h1, _⟩ := b2F (n := v)
 have z0 : ((0 : Nat) : Int) = 0 := rfl
 rw [z0] at hv
 cases b1
 ·refine M8 (vf := a1U) rfl ?_
  unfold a1U; refine zE ?_
  repeat first
  |(apply M5 h1 rfl rfl rfl)
  |refine zW (aN c1' (aN c2' hv)) ?_
  exact ⟨.inr trivial, _, rR, _, rfl, trivial⟩
 obtain ⟨b2, h2, _⟩ := b5x (x := x)
 cases b2
 ·refine M8 (vf := a1U) rfl ?_
  unfold a1U; refine zE ?_
  repeat first
  |(apply M5 h1 rfl rfl rfl)
  |(apply M5 h2 rfl rfl rfl)
  |refine zW (aN c1' (aN c2' hv)) ?_
  refine S9 (Q := N4 0 _) (fun n env s => ∃ i : Nat, i <= x.size /\ n = x.size - i /\ (env.get 0 = .str x /\ env.get 3 = .int .i64 (i : Int))) ?_ x.size _ _ ⟨0, by omega, rfl, by simp [Env.get]⟩
  rintro n env s ⟨i, hi, rfl, hE⟩
  by_cases c3 : i < x.size
  ·have c3' : ((i : Int) < (x.size : Int)) = True := eq_true (by omega)
   have hs : IntKind.i64.wrap ((i : Int) + 1) = ((i + 1 : Nat) : Int) := by rw [O4 (by omega) (by omega)]; omega
   obtain ⟨v, hv⟩ := b0x (x := x) (i := i) (by omega)
   obtain ⟨b3, h3, _⟩ := b6z (n := v)
   cases b3
   ·repeat first
    |(apply M5 h3 rfl rfl rfl)
    |refine zW (aN hE (aN c3' hv)) ?_
    exact ⟨.inr trivial, _, rR, _, rfl, trivial⟩
   ·repeat first
    |(apply M5 h3 rfl rfl rfl)
    |refine zW (aN hE (aN c3' (aN hv hs))) ?_
    exact ⟨x.size - (i + 1), by omega, i + 1, by omega, rfl, (rG hE)⟩
  ·have c3' : ((i : Int) < (x.size : Int)) = False := eq_false (by omega)
   try refine zW (aN hE c3') ?_
   exact ⟨.inr trivial, _, rR, _, rfl, trivial⟩
 ·refine M8 (vf := a1U) rfl ?_
  unfold a1U; refine zE ?_
  repeat first
  |(apply M5 h1 rfl rfl rfl)
  |(apply M5 h2 rfl rfl rfl)
  |refine zW (aN c1' (aN c2' hv)) ?_
  exact ⟨.inr trivial, _, rR, _, rfl, trivial⟩
end Go.Proofs.YtnjlhebkhjcagaaGreat
namespace Go.V
def Fz (d : D) : Prop := ∀ g n, ice g (n + 3) d = some d
theorem M3 {k : IntKind} {n : Int} : Fz (.int k n) := fun _ _ => rfl
theorem S5 {x : ByteArray} : Fz (.str x) := fun _ _ => rfl
theorem FL.fz {sz : Nat} {d : D} {rows : List (List D)} (h : FL sz d rows) : Fz d := fun _ _ => h.ice
theorem N7.fz {d : D} {t : List Nd} (h : N7 d t) : Fz d := h.fl.fz
theorem b0d {f : D -> Option D} : ∀ {l : List D}, (∀ d ∈ l, f d = some d) -> N2 f l = some l
 | [], _ => rfl
 | d :: r, h => by
   rw [N2, h d (by simp), b0d fun x hx => h x (by simp [hx])]
theorem fz1 {g : P4} {a : D} (ha : Fz a) : N2 (V.ice g 20) [a] = some [a] := by simp only [N2, ha g 17]
theorem fz2 {g : P4} {a b : D} (ha : Fz a) (hb : Fz b) : N2 (V.ice g 20) [a, b] = some [a, b] := by simp only [N2, ha g 17, hb g 17]
theorem fz3 {g : P4} {a b c : D} (ha : Fz a) (hb : Fz b) (hc : Fz c) : N2 (V.ice g 20) [a, b, c] = some [a, b, c] := by simp only [N2, ha g 17, hb g 17, hc g 17]
theorem fz5 {g : P4} {a b c d e : D} (ha : Fz a) (hb : Fz b) (hc : Fz c) (hd : Fz d) (he : Fz e) : N2 (V.ice g 20) [a, b, c, d, e] = some [a, b, c, d, e] := by simp only [N2, ha g 17, hb g 17, hc g 17, hd g 17, he g 17]
theorem a4N {l : List D} (h : ∀ d ∈ l, ∀ g n, ice g (n + 2) d = some d) : Fz (.agg l) := fun g n => by
 show (N2 (V.ice g (n + 2)) l).map D.agg = some (D.agg l)
 rw [b0d fun d hd => h d hd g n]
 rfl
theorem FL.ic {sz : Nat} {d : D} {rows : List (List D)} (h : FL sz d rows) : ∀ g n, V.ice g (n + 2) d = some d := fun _ _ => h.ice
theorem Nd.Ok.fz {x : Nd} (h : x.Ok) : Fz (.agg x.row) := a4N fun d hd => by
 simp only [Nd.row, List.mem_cons, List.not_mem_nil, or_false] at hd
 rcases hd with rfl | rfl | rfl | rfl | rfl
 ·exact fun _ _ => rfl
 ·exact FL.ic h.w
 ·exact FL.ic h.n
 ·exact FL.ic h.k
 ·exact fun _ _ => rfl
theorem a3q {x : Nd} {i : Nat} (h : i < x.kids.length) : x.kid i = x.kids[i].toNat := by simp [Nd.kid, List.getD, h]
theorem a3z {x : Nd} {i : Nat} (h : i < x.nums.length) : x.num i = x.nums[i] := by simp [Nd.num, List.getD, h]
theorem a1Z {x : Nd} {i : Nat} (h : i < x.words.length) : x.word i = x.words[i] := by simp [Nd.word, List.getD, h]
theorem N7.at {d : D} {t : List Nd} (h : N7 d t) {z : Int} (h0 : 0 <= z) (hl : z < (t.length : Int)) {k : IntKind} : N3 5 d (.int k z) = some (.fp [.int .i64 (nd t z.toNat).kind, (nd t z.toNat).dw, (nd t z.toNat).dn, (nd t z.toNat).dk, .int .i64 (nd t z.toNat).pos] 0) := by
 have hz : ((z.toNat : Nat) : Int) = z := Int.toNat_of_nonneg h0
 have := h.idx (i := z.toNat) (by omega) (k := k)
 rw [hz, <- b1Q (by omega)] at this
 exact this
theorem N7.nd {d : D} {t : List Nd} (h : N7 d t) {i : Nat} (hi : i < t.length) : (V.nd t i).Ok := by rw [b1Q hi]; exact h.get hi
end Go.V
namespace Go.Proofs.YtnjlhebkhjcagaaGreat
open Go.V
set_option maxRecDepth 100000
set_option maxHeartbeats 4000000
def inR (k a b : Int) : Bool := decide (a <= k) && decide (k <= b)
theorem a81 {k a b : Int} : inR k a b = true ↔ a <= k /\ k <= b := by simp [inR]
theorem a6y {k a b : Int} : Iso 93 [.int .i64 k, .int .i64 a, .int .i64 b] (.bool (inR k a b)) := by
 refine a1Q ?_
 unfold inR
 by_cases c : a <= k
 ·refine M8 (vf := a5h) rfl ?_
  unfold a5h; refine zE ?_
  try refine zW c ?_
  exact ⟨.inr trivial, _, rR, by simp [c]⟩
 ·refine M8 (vf := a5h) rfl ?_
  unfold a5h; refine zE ?_
  try refine zW c ?_
  exact ⟨.inr trivial, _, rR, by simp [c]⟩
theorem a7X {d : D} {t : List Nd} {x : Nd} {i : Nat} (hT : N7 d t) (hx : x.Ok) (hi : i < x.kids.length) (h0 : 0 <= x.kids[i]) (hl : x.kids[i] < (t.length : Int)) : Iso 94 [d, .agg x.row, .int .i64 (i : Int)] (.int .i64 (nd t (x.kid i)).kind) := by
 refine a1Q ?_
 have h1 := FI.idx hx.k hi (k := .i64)
 have h2 := hT.at h0 hl (k := .i64)
 have o1 := FL.one hx.w
 have o2 := FL.one hx.n
 have o3 := FL.one hx.k
 rw [a3q hi]
 unfold Nd.row
 refine M8 (vf := a7u) rfl ?_
 unfold a7u; refine zE ?_
 try refine zW (aN h1 (aN h2 (aN o1 (aN o2 o3)))) ?_
 exact ⟨.inr trivial, _, rR, rfl⟩
theorem Y7 {x : Nd} (hx : x.Ok) {c : Int} : P5 90 [.agg x.row, .int .i64 c] fun b => b = true -> (x.words.length : Int) = c := by
 refine Q3 ?_
 have o1 := FL.one hx.w
 have o2 := FL.one hx.n
 have o3 := FL.one hx.k
 have hlen := FS.len hx.w
 unfold Nd.row
 refine M8 (vf := a7G) rfl ?_
 unfold a7G; refine zE ?_
 try refine zW (aN o1 (aN o2 o3)) ?_
 refine S9 (Q := N4 0 _) (fun n env s => ∃ i : Nat, i <= x.words.length /\ n = x.words.length - i /\ s.get 0 = some (.cells [.int .i64 x.kind, x.dw, x.dn, x.dk, .int .i64 x.pos]) /\ (env.get 1 = .int .i64 c /\ env.get 2 = .ptr 0 0 /\ env.get 5 = .int .i64 (i : Int))) ?_ x.words.length _ _ ⟨0, by omega, rfl, O5 rfl, by simp [Env.get, O8.at]; rfl⟩
 rintro n env s ⟨i, hi, rfl, hg, hE⟩
 by_cases c3 : i < x.words.length
 ·have c3' : ((i : Int) < (x.words.length : Int)) = True := eq_true (by omega)
  have hs := a1v c3 hx.wl
  have hidx := FS.idx hx.w c3 (k := .i64)
  obtain ⟨b, hb, _⟩ := c3R (x := x.words[i])
  cases b
  ·repeat first
   |(apply M5 hb rfl rfl rfl)
   |refine zW (aN hE (aN hg (aN o1 (aN o2 (aN o3 (aN hlen (aN c3' hidx))))))) ?_
   exact ⟨.inr trivial, _, rR, _, rfl, by simp⟩
  ·repeat first
   |(apply M5 hb rfl rfl rfl)
   |refine zW (aN hE (aN hg (aN o1 (aN o2 (aN o3 (aN hlen (aN c3' (aN hidx hs)))))))) ?_
   exact ⟨x.words.length - (i + 1), by omega, i + 1, by omega, rfl, hg, (rG hE)⟩
 ·have c3' : ((i : Int) < (x.words.length : Int)) = False := eq_false (by omega)
  try refine zW (aN hE (aN hg (aN o1 (aN o2 (aN o3 (aN hlen c3')))))) ?_
  exact ⟨.inr trivial, _, rR, _, rfl, by simp⟩
theorem Z6 {x : Nd} (hx : x.Ok) {c m : Int} : P5 91 [.agg x.row, .int .i64 c, .int .i64 m] fun b => b = true -> (x.nums.length : Int) = c /\ ∀ n ∈ x.nums, 0 <= n /\ n <= m := by
 refine Q3 ?_
 have o1 := FL.one hx.w
 have o2 := FL.one hx.n
 have o3 := FL.one hx.k
 have hlen := FI.len hx.n
 unfold Nd.row
 refine M8 (vf := a71) rfl ?_
 unfold a71; refine zE ?_
 try refine zW (aN o1 (aN o2 o3)) ?_
 refine S9 (Q := N4 0 _) (fun n env s => ∃ i : Nat, i <= x.nums.length /\ n = x.nums.length - i /\ (∀ j (hj : j < x.nums.length), j < i -> 0 <= x.nums[j] /\ x.nums[j] <= m) /\ s.get 0 = some (.cells [.int .i64 x.kind, x.dw, x.dn, x.dk, .int .i64 x.pos]) /\ (env.get 1 = .int .i64 c /\ env.get 2 = .int .i64 m /\ env.get 3 = .ptr 0 0 /\ env.get 7 = .int .i64 (i : Int))) ?_ x.nums.length _ _ ⟨0, by omega, rfl, fun j _ h => by omega, O5 rfl, by simp [Env.get, O8.at]; rfl⟩
 rintro n env s ⟨i, hi, rfl, hall, hg, hE⟩
 by_cases c3 : i < x.nums.length
 ·have c3' : ((i : Int) < (x.nums.length : Int)) = True := eq_true (by omega)
  have hs := a1v c3 hx.nl
  have hidx := FI.idx hx.n c3 (k := .i64)
  by_cases d1 : x.nums[i] < 0
  ·try refine zW (aN hE (aN hg (aN o1 (aN o2 (aN o3 (aN hlen (aN c3' (aN hidx d1)))))))) ?_
   exact ⟨.inr trivial, _, rR, _, rfl, by simp⟩
  ·by_cases d2 : m < x.nums[i]
   ·try refine zW (aN hE (aN hg (aN o1 (aN o2 (aN o3 (aN hlen (aN c3' (aN hidx (aN d1 d2))))))))) ?_
    exact ⟨.inr trivial, _, rR, _, rfl, by simp⟩
   ·try refine zW (aN hE (aN hg (aN o1 (aN o2 (aN o3 (aN hlen (aN c3' (aN hidx (aN d1 (aN d2 hs)))))))))) ?_
    refine ⟨x.nums.length - (i + 1), by omega, i + 1, by omega, rfl, fun j hj hji => ?_, hg, (rG hE)⟩
    by_cases e : j = i
    ·subst e; omega
    ·exact hall j hj (by omega)
 ·have c3' : ((i : Int) < (x.nums.length : Int)) = False := eq_false (by omega)
  try refine zW (aN hE (aN hg (aN o1 (aN o2 (aN o3 (aN hlen c3')))))) ?_
  refine ⟨.inr trivial, _, rR, _, rfl, fun h => ⟨by simpa using h, fun n hn => ?_⟩⟩
  obtain ⟨j, hj, rfl⟩ := List.getElem_of_mem hn
  exact hall j hj (by omega)
def W9 (t : List Nd) (x : Nd) : Prop := ∀ k ∈ x.kids, 0 <= k /\ k < (t.length : Int)
theorem a9t {d : D} {t : List Nd} {x : Nd} (hT : N7 d t) (hx : x.Ok) (hk : W9 t x) {f : Nat} {a b : Int} : P5 92 [d, .agg x.row, .int .i64 (f : Int), .int .i64 a, .int .i64 b] fun r => r = true -> ∀ i, f <= i -> i < x.kids.length -> a <= (nd t (x.kid i)).kind /\ (nd t (x.kid i)).kind <= b := by
 refine Q3 ?_
 have o1 := FL.one hx.w
 have o2 := FL.one hx.n
 have o3 := FL.one hx.k
 have hlen := FI.len hx.k
 have hz := hx.fz
 unfold Nd.row
 refine M8 (vf := a8A) rfl ?_
 unfold a8A; refine zE ?_
 try refine zW (aN o1 (aN o2 o3)) ?_
 refine S9 (Q := N4 0 _) (fun n env s => ∃ i : Nat, f <= i /\ n = x.kids.length - i /\ (∀ j, f <= j -> j < i -> j < x.kids.length -> a <= (nd t (x.kid j)).kind /\ (nd t (x.kid j)).kind <= b) /\ s.get 0 = some (.cells [.int .i64 x.kind, x.dw, x.dn, x.dk, .int .i64 x.pos]) /\ (env.get 0 = d /\ env.get 3 = .int .i64 a /\ env.get 4 = .int .i64 b /\ env.get 6 = .ptr 0 0 /\ env.get 11 = .int .i64 (i : Int))) ?_ (x.kids.length - f) _ _ ⟨f, by omega, rfl, fun j _ h => by omega, O5 rfl, by simp [Env.get, O8.at]; rfl⟩
 rintro n env s ⟨i, hi, rfl, hall, hg, hE⟩
 by_cases c3 : i < x.kids.length
 ·have c3' : ((i : Int) < (x.kids.length : Int)) = True := eq_true (by omega)
  have hs := a1v c3 hx.kl
  have hki := hk _ (List.getElem_mem c3)
  have h1 := a7X hT hx c3 hki.1 hki.2
  unfold Nd.row at h1
  have h2 := a6y (k := (nd t (x.kid i)).kind) (a := a) (b := b)
  cases hr : inR (nd t (x.kid i)).kind a b
  ·rw [hr] at h2
   repeat first
   |(apply M5 h1 rfl; (focus (simp only [Env.evL, Env.ev, Env.get, Nat.reduceEqDiff, ↓reduceIte, hE])); (focus exact fz3 hT.fz hz M3))
   |(apply M5 h2 rfl; (focus (simp only [Env.evL, Env.ev, Env.get, Nat.reduceEqDiff, ↓reduceIte, hE])); (focus rfl))
   |refine zW (aN hE (aN hg (aN o1 (aN o2 (aN o3 (aN hlen c3')))))) ?_
   exact ⟨.inr trivial, _, rR, _, rfl, by simp⟩
  ·rw [hr] at h2
   repeat first
   |(apply M5 h1 rfl; (focus (simp only [Env.evL, Env.ev, Env.get, Nat.reduceEqDiff, ↓reduceIte, hE])); (focus exact fz3 hT.fz hz M3))
   |(apply M5 h2 rfl; (focus (simp only [Env.evL, Env.ev, Env.get, Nat.reduceEqDiff, ↓reduceIte, hE])); (focus rfl))
   |refine zW (aN hE (aN hg (aN o1 (aN o2 (aN o3 (aN hlen (aN c3' hs))))))) ?_
   refine ⟨x.kids.length - (i + 1), by omega, i + 1, by omega, rfl, fun j h1 h2 h3 => ?_, hg, (rG hE)⟩
   by_cases e : j = i
   ·subst e; exact a81.1 hr
   ·exact hall j h1 (by omega) h3
 ·have c3' : ((i : Int) < (x.kids.length : Int)) = False := eq_false (by omega)
  try refine zW (aN hE (aN hg (aN o1 (aN o2 (aN o3 (aN hlen c3')))))) ?_
  exact ⟨.inr trivial, _, rR, _, rfl, fun _ j h1 h2 => hall j h1 (by omega) h2⟩
end Go.Proofs.YtnjlhebkhjcagaaGreat
namespace Go.Proofs.YtnjlhebkhjcagaaGreat
open Go.V
set_option maxRecDepth 100000
set_option maxHeartbeats 4000000
theorem a1X {d : D} {t : List Nd} {x : Nd} (hT : N7 d t) (hx : x.Ok) (hk : W9 t x) {f l m : Nat} (hf : f <= 2) (hl : l <= 1) (hm : m <= 800) : P5 95 [d, .agg x.row, .int .i64 (f : Int), .int .i64 (l : Int), .int .i64 (m : Int)] fun r => r = true -> f + l <= x.kids.length /\ x.kids.length <= f + m /\ ∀ i, i < x.kids.length -> (i < f -> 17 <= (nd t (x.kid i)).kind /\ (nd t (x.kid i)).kind <= 22) /\ (f <= i -> (nd t (x.kid i)).kind = 16) := by
 refine Q3 ?_
 have o1 := FL.one hx.w
 have o2 := FL.one hx.n
 have o3 := FL.one hx.k
 have hlen := FI.len hx.k
 have hz := hx.fz
 have e1 : IntKind.i64.wrap ((f : Int) + (l : Int)) = ((f + l : Nat) : Int) := by rw [O4 (by omega) (by omega)]; omega
 have e2 : IntKind.i64.wrap ((f : Int) + (m : Int)) = ((f + m : Nat) : Int) := by rw [O4 (by omega) (by omega)]; omega
 unfold Nd.row
 refine M8 (vf := a7R) rfl ?_
 unfold a7R; refine zE ?_
 try refine zW (aN o1 (aN o2 (aN o3 hlen))) ?_
 refine S9 (Q := N4 0 _) (fun n env s => ∃ i : Nat, i <= x.kids.length /\ n = x.kids.length - i /\ (∀ j, j < i -> (j < f -> 17 <= (nd t (x.kid j)).kind /\ (nd t (x.kid j)).kind <= 22) /\ (f <= j -> (nd t (x.kid j)).kind = 16)) /\ s.get 0 = some (.cells [.int .i64 x.kind, x.dw, x.dn, x.dk, .int .i64 x.pos]) /\ (env.get 0 = d /\ env.get 2 = .int .i64 (f : Int) /\ env.get 3 = .int .i64 (l : Int) /\ env.get 4 = .int .i64 (m : Int) /\ env.get 6 = .ptr 0 0 /\ env.get 11 = .int .i64 (x.kids.length : Int) /\ env.get 12 = .int .i64 (i : Int))) ?_ x.kids.length _ _ ⟨0, by omega, rfl, fun j h => by omega, O5 rfl, by simp [Env.get, O8.at]; rfl⟩
 rintro n env s ⟨i, hi, rfl, hall, hg, hE⟩
 by_cases c3 : i < x.kids.length
 ·have c3' : ((i : Int) < (x.kids.length : Int)) = True := eq_true (by omega)
  have hs := a1v c3 hx.kl
  have hki := hk _ (List.getElem_mem c3)
  have h1 := a7X hT hx c3 hki.1 hki.2
  unfold Nd.row at h1
  have h2 := a6y (k := (nd t (x.kid i)).kind) (a := 17) (b := 22)
  by_cases c4 : i < f
  ·have c4' : ((i : Int) < (f : Int)) = True := eq_true (by omega)
   have c5' : ((f : Int) <= (i : Int)) = False := eq_false (by omega)
   cases hr : inR (nd t (x.kid i)).kind 17 22
   ·rw [hr] at h2
    repeat first
    |(apply M5 h1 rfl; (focus (simp only [Env.evL, Env.ev, Env.get, Nat.reduceEqDiff, ↓reduceIte, hE])); (focus exact fz3 hT.fz hz M3))
    |(apply M5 h2 rfl; (focus (simp only [Env.evL, Env.ev, Env.get, Nat.reduceEqDiff, ↓reduceIte, hE])); (focus rfl))
    |refine zW (aN hE (aN hg (aN o1 (aN o2 (aN o3 (aN hlen (aN c3' (aN c4' c5')))))))) ?_
    exact ⟨.inr trivial, _, rR, _, rfl, by simp⟩
   ·rw [hr] at h2
    repeat first
    |(apply M5 h1 rfl; (focus (simp only [Env.evL, Env.ev, Env.get, Nat.reduceEqDiff, ↓reduceIte, hE])); (focus exact fz3 hT.fz hz M3))
    |(apply M5 h2 rfl; (focus (simp only [Env.evL, Env.ev, Env.get, Nat.reduceEqDiff, ↓reduceIte, hE])); (focus rfl))
    |refine zW (aN hE (aN hg (aN o1 (aN o2 (aN o3 (aN hlen (aN c3' (aN c4' (aN c5' hs))))))))) ?_
    refine ⟨x.kids.length - (i + 1), by omega, i + 1, by omega, rfl, fun j h => ?_, hg, (rG hE)⟩
    by_cases e : j = i
    ·subst e; exact ⟨fun _ => a81.1 hr, fun h => by omega⟩
    ·exact hall j (by omega)
  ·have c4' : ((i : Int) < (f : Int)) = False := eq_false (by omega)
   have c5' : ((f : Int) <= (i : Int)) = True := eq_true (by omega)
   by_cases c6 : (nd t (x.kid i)).kind = 16
   ·have c6' : ((nd t (x.kid i)).kind != 16) = false := by rw [c6]; rfl
    repeat first
    |(apply M5 h1 rfl; (focus (simp only [Env.evL, Env.ev, Env.get, Nat.reduceEqDiff, ↓reduceIte, hE])); (focus exact fz3 hT.fz hz M3))
    |(apply M5 h2 rfl; (focus (simp only [Env.evL, Env.ev, Env.get, Nat.reduceEqDiff, ↓reduceIte, hE])); (focus rfl))
    |refine zW (aN hE (aN hg (aN o1 (aN o2 (aN o3 (aN hlen (aN c3' (aN c4' (aN c5' (aN c6' hs)))))))))) ?_
    refine ⟨x.kids.length - (i + 1), by omega, i + 1, by omega, rfl, fun j h => ?_, hg, (rG hE)⟩
    by_cases e : j = i
    ·subst e; exact ⟨fun h => by omega, fun _ => c6⟩
    ·exact hall j (by omega)
   ·have c6' : ((nd t (x.kid i)).kind != 16) = true := by rw [bne_iff_ne]; exact c6
    repeat first
    |(apply M5 h1 rfl; (focus (simp only [Env.evL, Env.ev, Env.get, Nat.reduceEqDiff, ↓reduceIte, hE])); (focus exact fz3 hT.fz hz M3))
    |(apply M5 h2 rfl; (focus (simp only [Env.evL, Env.ev, Env.get, Nat.reduceEqDiff, ↓reduceIte, hE])); (focus rfl))
    |refine zW (aN hE (aN hg (aN o1 (aN o2 (aN o3 (aN hlen (aN c3' (aN c4' (aN c5' c6'))))))))) ?_
    exact ⟨.inr trivial, _, rR, _, rfl, by simp⟩
 ·have c3' : ((i : Int) < (x.kids.length : Int)) = False := eq_false (by omega)
  by_cases c7 : f + l <= x.kids.length
  ·have c7' : (((f + l : Nat) : Int) <= (x.kids.length : Int)) = True := eq_true (by omega)
   by_cases c8 : x.kids.length <= f + m
   ·have c8' : ((x.kids.length : Int) <= ((f + m : Nat) : Int)) = True := eq_true (by omega)
    try refine zW (aN hE (aN hg (aN o1 (aN o2 (aN o3 (aN hlen (aN c3' (aN e1 (aN e2 (aN c7' c8')))))))))) ?_
    exact ⟨.inr trivial, _, rR, _, rfl, fun _ => ⟨c7, c8, fun j h => hall j (by omega)⟩⟩
   ·have c8' : ((x.kids.length : Int) <= ((f + m : Nat) : Int)) = False := eq_false (by omega)
    try refine zW (aN hE (aN hg (aN o1 (aN o2 (aN o3 (aN hlen (aN c3' (aN e1 (aN e2 (aN c7' c8')))))))))) ?_
    exact ⟨.inr trivial, _, rR, _, rfl, by simp⟩
  ·have c7' : (((f + l : Nat) : Int) <= (x.kids.length : Int)) = False := eq_false (by omega)
   try refine zW (aN hE (aN hg (aN o1 (aN o2 (aN o3 (aN hlen (aN c3' (aN e1 (aN e2 c7'))))))))) ?_
   exact ⟨.inr trivial, _, rR, _, rfl, by simp⟩
theorem c1B {d : D} {t : List Nd} {x : Nd} (hT : N7 d t) (hx : x.Ok) (hk : W9 t x) (hK : x.kind = 0) : P5 61 [d, .agg x.row] fun b => b = true -> (x.words.length : Int) = 0 /\ ((x.nums.length : Int) = 0 /\ ∀ n ∈ x.nums, 0 <= n /\ n <= 0) /\ ∀ i, 0 <= i -> i < x.kids.length -> 1 <= (nd t (x.kid i)).kind /\ (nd t (x.kid i)).kind <= 5 := by
 refine Q3 ?_
 have o1 := FL.one hx.w
 have o2 := FL.one hx.n
 have o3 := FL.one hx.k
 have hlen := FI.len hx.k
 have hz := hx.fz
 have hrow : x.row = [.int .i64 0, x.dw, x.dn, x.dk, .int .i64 x.pos] := by unfold Nd.row; rw [hK]
 obtain ⟨b1, h1, p1⟩ := Y7 hx (c := 0)
 obtain ⟨b2, h2, p2⟩ := Z6 hx (c := 0) (m := 0)
 obtain ⟨b3, h3, p3⟩ := a9t hT hx hk (f := 0) (a := 1) (b := 5)
 rw [hrow] at h1 h2 hz h3 ⊢
 cases b1 <;> cases b2
 all_goals
  refine M8 (vf := O3) rfl ?_
  unfold O3; refine zE ?_
  repeat first
  |(apply M5 h1 rfl rfl (fz2 hz M3))
  |(apply M5 h2 rfl rfl (fz3 hz M3 M3))
  |(apply M5 h3 rfl rfl (fz5 hT.fz hz M3 M3 M3))
  |refine zW (aN o1 (aN o2 (aN o3 hlen))) ?_
  first
   | exact ⟨.inr trivial, _, rR, _, rfl, fun h => ⟨p1 rfl, p2 rfl, p3 h⟩⟩
   | exact ⟨.inr trivial, _, rR, _, rfl, by simp⟩
theorem b8o {d : D} {t : List Nd} {x : Nd} (hT : N7 d t) (hx : x.Ok) (hk : W9 t x) (hK : x.kind = 4) : P5 61 [d, .agg x.row] fun b => b = true -> (x.words.length : Int) = 0 /\ ((x.nums.length : Int) = 0 /\ ∀ n ∈ x.nums, 0 <= n /\ n <= 0) /\ 1 <= x.kids.length /\ x.kids.length <= 1 /\ ∀ i, i < x.kids.length -> (i < 1 -> 17 <= (nd t (x.kid i)).kind /\ (nd t (x.kid i)).kind <= 22) /\ (1 <= i -> (nd t (x.kid i)).kind = 16) := by
 refine Q3 ?_
 have o1 := FL.one hx.w
 have o2 := FL.one hx.n
 have o3 := FL.one hx.k
 have hlen := FI.len hx.k
 have hz := hx.fz
 have hrow : x.row = [.int .i64 4, x.dw, x.dn, x.dk, .int .i64 x.pos] := by unfold Nd.row; rw [hK]
 obtain ⟨b1, h1, p1⟩ := Y7 hx (c := 0)
 obtain ⟨b2, h2, p2⟩ := Z6 hx (c := 0) (m := 0)
 obtain ⟨b3, h3, p3⟩ := a1X hT hx hk (f := 1) (l := 0) (m := 0) (by omega) (by omega) (by omega)
 rw [hrow] at h1 h2 hz h3 ⊢
 cases b1 <;> cases b2
 all_goals
  refine M8 (vf := O3) rfl ?_
  unfold O3; refine zE ?_
  repeat first
  |(apply M5 h1 rfl rfl (fz2 hz M3))
  |(apply M5 h2 rfl rfl (fz3 hz M3 M3))
  |(apply M5 h3 rfl rfl (fz5 hT.fz hz M3 M3 M3))
  |refine zW (aN o1 (aN o2 (aN o3 hlen))) ?_
  first
   | exact ⟨.inr trivial, _, rR, _, rfl, fun h => ⟨p1 rfl, p2 rfl, p3 h⟩⟩
   | exact ⟨.inr trivial, _, rR, _, rfl, by simp⟩
theorem c2p {d : D} {t : List Nd} {x : Nd} (hT : N7 d t) (hx : x.Ok) (hk : W9 t x) (hK : x.kind = 5) : P5 61 [d, .agg x.row] fun b => b = true -> (x.words.length : Int) = 0 /\ ((x.nums.length : Int) = 0 /\ ∀ n ∈ x.nums, 0 <= n /\ n <= 0) /\ x.kids = [] := by
 refine Q3 ?_
 have o1 := FL.one hx.w
 have o2 := FL.one hx.n
 have o3 := FL.one hx.k
 have hlen := FI.len hx.k
 have hz := hx.fz
 have hrow : x.row = [.int .i64 5, x.dw, x.dn, x.dk, .int .i64 x.pos] := by unfold Nd.row; rw [hK]
 obtain ⟨b1, h1, p1⟩ := Y7 hx (c := 0)
 obtain ⟨b2, h2, p2⟩ := Z6 hx (c := 0) (m := 0)
 rw [hrow] at h1 h2 hz ⊢
 have hz0 : ((x.kids.length : Int) == 0) = decide (x.kids = []) := by
  rw [Bool.eq_iff_iff, beq_iff_eq, decide_eq_true_eq, <- List.length_eq_zero_iff]; omega
 cases b1 <;> cases b2
 all_goals
  refine M8 (vf := O3) rfl ?_
  unfold O3; refine zE ?_
  repeat first
  |(apply M5 h1 rfl rfl (fz2 hz M3))
  |(apply M5 h2 rfl rfl (fz3 hz M3 M3))
  |refine zW (aN o1 (aN o2 (aN o3 (aN hlen hz0)))) ?_
  first
   | exact ⟨.inr trivial, _, rR, _, rfl, fun h => ⟨p1 rfl, p2 rfl, of_decide_eq_true h⟩⟩
   | exact ⟨.inr trivial, _, rR, _, rfl, by simp⟩
theorem b8Q {d : D} {t : List Nd} {x : Nd} (hT : N7 d t) (hx : x.Ok) (hk : W9 t x) (hK : x.kind = 6) : P5 61 [d, .agg x.row] fun b => b = true -> (x.words.length : Int) = 1 /\ ((x.nums.length : Int) = 0 /\ ∀ n ∈ x.nums, 0 <= n /\ n <= 0) /\ 1 <= x.kids.length /\ x.kids.length <= 1 /\ ∀ i, i < x.kids.length -> (i < 1 -> 17 <= (nd t (x.kid i)).kind /\ (nd t (x.kid i)).kind <= 22) /\ (1 <= i -> (nd t (x.kid i)).kind = 16) := by
 refine Q3 ?_
 have o1 := FL.one hx.w
 have o2 := FL.one hx.n
 have o3 := FL.one hx.k
 have hlen := FI.len hx.k
 have hz := hx.fz
 have hrow : x.row = [.int .i64 6, x.dw, x.dn, x.dk, .int .i64 x.pos] := by unfold Nd.row; rw [hK]
 obtain ⟨b1, h1, p1⟩ := Y7 hx (c := 1)
 obtain ⟨b2, h2, p2⟩ := Z6 hx (c := 0) (m := 0)
 obtain ⟨b3, h3, p3⟩ := a1X hT hx hk (f := 1) (l := 0) (m := 0) (by omega) (by omega) (by omega)
 rw [hrow] at h1 h2 hz h3 ⊢
 cases b1 <;> cases b2
 all_goals
  refine M8 (vf := O3) rfl ?_
  unfold O3; refine zE ?_
  repeat first
  |(apply M5 h1 rfl rfl (fz2 hz M3))
  |(apply M5 h2 rfl rfl (fz3 hz M3 M3))
  |(apply M5 h3 rfl rfl (fz5 hT.fz hz M3 M3 M3))
  |refine zW (aN o1 (aN o2 (aN o3 hlen))) ?_
  first
   | exact ⟨.inr trivial, _, rR, _, rfl, fun h => ⟨p1 rfl, p2 rfl, p3 h⟩⟩
   | exact ⟨.inr trivial, _, rR, _, rfl, by simp⟩
theorem b4u {d : D} {t : List Nd} {x : Nd} (hT : N7 d t) (hx : x.Ok) (hk : W9 t x) (hK : x.kind = 7) : P5 61 [d, .agg x.row] fun b => b = true -> (x.words.length : Int) = 1 /\ ((x.nums.length : Int) = 0 /\ ∀ n ∈ x.nums, 0 <= n /\ n <= 0) /\ 1 <= x.kids.length /\ x.kids.length <= 1 /\ ∀ i, i < x.kids.length -> (i < 1 -> 17 <= (nd t (x.kid i)).kind /\ (nd t (x.kid i)).kind <= 22) /\ (1 <= i -> (nd t (x.kid i)).kind = 16) := by
 refine Q3 ?_
 have o1 := FL.one hx.w
 have o2 := FL.one hx.n
 have o3 := FL.one hx.k
 have hlen := FI.len hx.k
 have hz := hx.fz
 have hrow : x.row = [.int .i64 7, x.dw, x.dn, x.dk, .int .i64 x.pos] := by unfold Nd.row; rw [hK]
 obtain ⟨b1, h1, p1⟩ := Y7 hx (c := 1)
 obtain ⟨b2, h2, p2⟩ := Z6 hx (c := 0) (m := 0)
 obtain ⟨b3, h3, p3⟩ := a1X hT hx hk (f := 1) (l := 0) (m := 0) (by omega) (by omega) (by omega)
 rw [hrow] at h1 h2 hz h3 ⊢
 cases b1 <;> cases b2
 all_goals
  refine M8 (vf := O3) rfl ?_
  unfold O3; refine zE ?_
  repeat first
  |(apply M5 h1 rfl rfl (fz2 hz M3))
  |(apply M5 h2 rfl rfl (fz3 hz M3 M3))
  |(apply M5 h3 rfl rfl (fz5 hT.fz hz M3 M3 M3))
  |refine zW (aN o1 (aN o2 (aN o3 hlen))) ?_
  first
   | exact ⟨.inr trivial, _, rR, _, rfl, fun h => ⟨p1 rfl, p2 rfl, p3 h⟩⟩
   | exact ⟨.inr trivial, _, rR, _, rfl, by simp⟩
theorem c33 {d : D} {t : List Nd} {x : Nd} (hT : N7 d t) (hx : x.Ok) (hk : W9 t x) (hK : x.kind = 8) : P5 61 [d, .agg x.row] fun b => b = true -> (x.words.length : Int) = 2 /\ ((x.nums.length : Int) = 1 /\ ∀ n ∈ x.nums, 0 <= n /\ n <= 1) /\ x.kids = [] := by
 refine Q3 ?_
 have o1 := FL.one hx.w
 have o2 := FL.one hx.n
 have o3 := FL.one hx.k
 have hlen := FI.len hx.k
 have hz := hx.fz
 have hrow : x.row = [.int .i64 8, x.dw, x.dn, x.dk, .int .i64 x.pos] := by unfold Nd.row; rw [hK]
 obtain ⟨b1, h1, p1⟩ := Y7 hx (c := 2)
 obtain ⟨b2, h2, p2⟩ := Z6 hx (c := 1) (m := 1)
 rw [hrow] at h1 h2 hz ⊢
 have hz0 : ((x.kids.length : Int) == 0) = decide (x.kids = []) := by
  rw [Bool.eq_iff_iff, beq_iff_eq, decide_eq_true_eq, <- List.length_eq_zero_iff]; omega
 cases b1 <;> cases b2
 all_goals
  refine M8 (vf := O3) rfl ?_
  unfold O3; refine zE ?_
  repeat first
  |(apply M5 h1 rfl rfl (fz2 hz M3))
  |(apply M5 h2 rfl rfl (fz3 hz M3 M3))
  |refine zW (aN o1 (aN o2 (aN o3 (aN hlen hz0)))) ?_
  first
   | exact ⟨.inr trivial, _, rR, _, rfl, fun h => ⟨p1 rfl, p2 rfl, of_decide_eq_true h⟩⟩
   | exact ⟨.inr trivial, _, rR, _, rfl, by simp⟩
theorem b5i {d : D} {t : List Nd} {x : Nd} (hT : N7 d t) (hx : x.Ok) (hk : W9 t x) (hK : x.kind = 9) : P5 61 [d, .agg x.row] fun b => b = true -> (x.words.length : Int) = 0 /\ ((x.nums.length : Int) = 1 /\ ∀ n ∈ x.nums, 0 <= n /\ n <= 1) /\ 1 <= x.kids.length /\ x.kids.length <= 1 /\ ∀ i, i < x.kids.length -> (i < 1 -> 17 <= (nd t (x.kid i)).kind /\ (nd t (x.kid i)).kind <= 22) /\ (1 <= i -> (nd t (x.kid i)).kind = 16) := by
 refine Q3 ?_
 have o1 := FL.one hx.w
 have o2 := FL.one hx.n
 have o3 := FL.one hx.k
 have hlen := FI.len hx.k
 have hz := hx.fz
 have hrow : x.row = [.int .i64 9, x.dw, x.dn, x.dk, .int .i64 x.pos] := by unfold Nd.row; rw [hK]
 obtain ⟨b1, h1, p1⟩ := Y7 hx (c := 0)
 obtain ⟨b2, h2, p2⟩ := Z6 hx (c := 1) (m := 1)
 obtain ⟨b3, h3, p3⟩ := a1X hT hx hk (f := 1) (l := 0) (m := 0) (by omega) (by omega) (by omega)
 rw [hrow] at h1 h2 hz h3 ⊢
 cases b1 <;> cases b2
 all_goals
  refine M8 (vf := O3) rfl ?_
  unfold O3; refine zE ?_
  repeat first
  |(apply M5 h1 rfl rfl (fz2 hz M3))
  |(apply M5 h2 rfl rfl (fz3 hz M3 M3))
  |(apply M5 h3 rfl rfl (fz5 hT.fz hz M3 M3 M3))
  |refine zW (aN o1 (aN o2 (aN o3 hlen))) ?_
  first
   | exact ⟨.inr trivial, _, rR, _, rfl, fun h => ⟨p1 rfl, p2 rfl, p3 h⟩⟩
   | exact ⟨.inr trivial, _, rR, _, rfl, by simp⟩
theorem c3D {d : D} {t : List Nd} {x : Nd} (hT : N7 d t) (hx : x.Ok) (hk : W9 t x) (hK : x.kind = 10) : P5 61 [d, .agg x.row] fun b => b = true -> (x.words.length : Int) = 0 /\ ((x.nums.length : Int) = 1 /\ ∀ n ∈ x.nums, 0 <= n /\ n <= 1) /\ 1 <= x.kids.length /\ x.kids.length <= 800 /\ ∀ i, i < x.kids.length -> (i < 0 -> 17 <= (nd t (x.kid i)).kind /\ (nd t (x.kid i)).kind <= 22) /\ (0 <= i -> (nd t (x.kid i)).kind = 16) := by
 refine Q3 ?_
 have o1 := FL.one hx.w
 have o2 := FL.one hx.n
 have o3 := FL.one hx.k
 have hlen := FI.len hx.k
 have hz := hx.fz
 have hrow : x.row = [.int .i64 10, x.dw, x.dn, x.dk, .int .i64 x.pos] := by unfold Nd.row; rw [hK]
 obtain ⟨b1, h1, p1⟩ := Y7 hx (c := 0)
 obtain ⟨b2, h2, p2⟩ := Z6 hx (c := 1) (m := 1)
 obtain ⟨b3, h3, p3⟩ := a1X hT hx hk (f := 0) (l := 1) (m := 800) (by omega) (by omega) (by omega)
 rw [hrow] at h1 h2 hz h3 ⊢
 cases b1 <;> cases b2
 all_goals
  refine M8 (vf := O3) rfl ?_
  unfold O3; refine zE ?_
  repeat first
  |(apply M5 h1 rfl rfl (fz2 hz M3))
  |(apply M5 h2 rfl rfl (fz3 hz M3 M3))
  |(apply M5 h3 rfl rfl (fz5 hT.fz hz M3 M3 M3))
  |refine zW (aN o1 (aN o2 (aN o3 hlen))) ?_
  first
   | exact ⟨.inr trivial, _, rR, _, rfl, fun h => ⟨p1 rfl, p2 rfl, p3 h⟩⟩
   | exact ⟨.inr trivial, _, rR, _, rfl, by simp⟩
theorem c0O {d : D} {t : List Nd} {x : Nd} (hT : N7 d t) (hx : x.Ok) (hk : W9 t x) (hK : x.kind = 11) : P5 61 [d, .agg x.row] fun b => b = true -> (x.words.length : Int) = 0 /\ ((x.nums.length : Int) = 0 /\ ∀ n ∈ x.nums, 0 <= n /\ n <= 0) /\ 2 <= x.kids.length /\ x.kids.length <= 3 /\ ∀ i, i < x.kids.length -> (i < 1 -> 17 <= (nd t (x.kid i)).kind /\ (nd t (x.kid i)).kind <= 22) /\ (1 <= i -> (nd t (x.kid i)).kind = 16) := by
 refine Q3 ?_
 have o1 := FL.one hx.w
 have o2 := FL.one hx.n
 have o3 := FL.one hx.k
 have hlen := FI.len hx.k
 have hz := hx.fz
 have hrow : x.row = [.int .i64 11, x.dw, x.dn, x.dk, .int .i64 x.pos] := by unfold Nd.row; rw [hK]
 obtain ⟨b1, h1, p1⟩ := Y7 hx (c := 0)
 obtain ⟨b2, h2, p2⟩ := Z6 hx (c := 0) (m := 0)
 obtain ⟨b3, h3, p3⟩ := a1X hT hx hk (f := 1) (l := 1) (m := 2) (by omega) (by omega) (by omega)
 rw [hrow] at h1 h2 hz h3 ⊢
 cases b1 <;> cases b2
 all_goals
  refine M8 (vf := O3) rfl ?_
  unfold O3; refine zE ?_
  repeat first
  |(apply M5 h1 rfl rfl (fz2 hz M3))
  |(apply M5 h2 rfl rfl (fz3 hz M3 M3))
  |(apply M5 h3 rfl rfl (fz5 hT.fz hz M3 M3 M3))
  |refine zW (aN o1 (aN o2 (aN o3 hlen))) ?_
  first
   | exact ⟨.inr trivial, _, rR, _, rfl, fun h => ⟨p1 rfl, p2 rfl, p3 h⟩⟩
   | exact ⟨.inr trivial, _, rR, _, rfl, by simp⟩
theorem b42 {d : D} {t : List Nd} {x : Nd} (hT : N7 d t) (hx : x.Ok) (hk : W9 t x) (hK : x.kind = 12) : P5 61 [d, .agg x.row] fun b => b = true -> (x.words.length : Int) = 0 /\ ((x.nums.length : Int) = 0 /\ ∀ n ∈ x.nums, 0 <= n /\ n <= 0) /\ 2 <= x.kids.length /\ x.kids.length <= 2 /\ ∀ i, i < x.kids.length -> (i < 1 -> 17 <= (nd t (x.kid i)).kind /\ (nd t (x.kid i)).kind <= 22) /\ (1 <= i -> (nd t (x.kid i)).kind = 16) := by
 refine Q3 ?_
 have o1 := FL.one hx.w
 have o2 := FL.one hx.n
 have o3 := FL.one hx.k
 have hlen := FI.len hx.k
 have hz := hx.fz
 have hrow : x.row = [.int .i64 12, x.dw, x.dn, x.dk, .int .i64 x.pos] := by unfold Nd.row; rw [hK]
 obtain ⟨b1, h1, p1⟩ := Y7 hx (c := 0)
 obtain ⟨b2, h2, p2⟩ := Z6 hx (c := 0) (m := 0)
 obtain ⟨b3, h3, p3⟩ := a1X hT hx hk (f := 1) (l := 1) (m := 1) (by omega) (by omega) (by omega)
 rw [hrow] at h1 h2 hz h3 ⊢
 cases b1 <;> cases b2
 all_goals
  refine M8 (vf := O3) rfl ?_
  unfold O3; refine zE ?_
  repeat first
  |(apply M5 h1 rfl rfl (fz2 hz M3))
  |(apply M5 h2 rfl rfl (fz3 hz M3 M3))
  |(apply M5 h3 rfl rfl (fz5 hT.fz hz M3 M3 M3))
  |refine zW (aN o1 (aN o2 (aN o3 hlen))) ?_
  first
   | exact ⟨.inr trivial, _, rR, _, rfl, fun h => ⟨p1 rfl, p2 rfl, p3 h⟩⟩
   | exact ⟨.inr trivial, _, rR, _, rfl, by simp⟩
theorem c1y {d : D} {t : List Nd} {x : Nd} (hT : N7 d t) (hx : x.Ok) (hk : W9 t x) (hK : x.kind = 13) : P5 61 [d, .agg x.row] fun b => b = true -> (x.words.length : Int) = 0 /\ ((x.nums.length : Int) = 0 /\ ∀ n ∈ x.nums, 0 <= n /\ n <= 0) /\ 1 <= x.kids.length /\ x.kids.length <= 1 /\ ∀ i, i < x.kids.length -> (i < 0 -> 17 <= (nd t (x.kid i)).kind /\ (nd t (x.kid i)).kind <= 22) /\ (0 <= i -> (nd t (x.kid i)).kind = 16) := by
 refine Q3 ?_
 have o1 := FL.one hx.w
 have o2 := FL.one hx.n
 have o3 := FL.one hx.k
 have hlen := FI.len hx.k
 have hz := hx.fz
 have hrow : x.row = [.int .i64 13, x.dw, x.dn, x.dk, .int .i64 x.pos] := by unfold Nd.row; rw [hK]
 obtain ⟨b1, h1, p1⟩ := Y7 hx (c := 0)
 obtain ⟨b2, h2, p2⟩ := Z6 hx (c := 0) (m := 0)
 obtain ⟨b3, h3, p3⟩ := a1X hT hx hk (f := 0) (l := 1) (m := 1) (by omega) (by omega) (by omega)
 rw [hrow] at h1 h2 hz h3 ⊢
 cases b1 <;> cases b2
 all_goals
  refine M8 (vf := O3) rfl ?_
  unfold O3; refine zE ?_
  repeat first
  |(apply M5 h1 rfl rfl (fz2 hz M3))
  |(apply M5 h2 rfl rfl (fz3 hz M3 M3))
  |(apply M5 h3 rfl rfl (fz5 hT.fz hz M3 M3 M3))
  |refine zW (aN o1 (aN o2 (aN o3 hlen))) ?_
  first
   | exact ⟨.inr trivial, _, rR, _, rfl, fun h => ⟨p1 rfl, p2 rfl, p3 h⟩⟩
   | exact ⟨.inr trivial, _, rR, _, rfl, by simp⟩
theorem c1k {d : D} {t : List Nd} {x : Nd} (hT : N7 d t) (hx : x.Ok) (hk : W9 t x) (hK : x.kind = 14) : P5 61 [d, .agg x.row] fun b => b = true -> (x.words.length : Int) = 0 /\ ((x.nums.length : Int) = 0 /\ ∀ n ∈ x.nums, 0 <= n /\ n <= 0) /\ x.kids = [] := by
 refine Q3 ?_
 have o1 := FL.one hx.w
 have o2 := FL.one hx.n
 have o3 := FL.one hx.k
 have hlen := FI.len hx.k
 have hz := hx.fz
 have hrow : x.row = [.int .i64 14, x.dw, x.dn, x.dk, .int .i64 x.pos] := by unfold Nd.row; rw [hK]
 obtain ⟨b1, h1, p1⟩ := Y7 hx (c := 0)
 obtain ⟨b2, h2, p2⟩ := Z6 hx (c := 0) (m := 0)
 rw [hrow] at h1 h2 hz ⊢
 have hz0 : ((x.kids.length : Int) == 0) = decide (x.kids = []) := by
  rw [Bool.eq_iff_iff, beq_iff_eq, decide_eq_true_eq, <- List.length_eq_zero_iff]; omega
 cases b1 <;> cases b2
 all_goals
  refine M8 (vf := O3) rfl ?_
  unfold O3; refine zE ?_
  repeat first
  |(apply M5 h1 rfl rfl (fz2 hz M3))
  |(apply M5 h2 rfl rfl (fz3 hz M3 M3))
  |refine zW (aN o1 (aN o2 (aN o3 (aN hlen hz0)))) ?_
  first
   | exact ⟨.inr trivial, _, rR, _, rfl, fun h => ⟨p1 rfl, p2 rfl, of_decide_eq_true h⟩⟩
   | exact ⟨.inr trivial, _, rR, _, rfl, by simp⟩
theorem b9t {d : D} {t : List Nd} {x : Nd} (hT : N7 d t) (hx : x.Ok) (hk : W9 t x) (hK : x.kind = 15) : P5 61 [d, .agg x.row] fun b => b = true -> (x.words.length : Int) = 0 /\ ((x.nums.length : Int) = 0 /\ ∀ n ∈ x.nums, 0 <= n /\ n <= 0) /\ x.kids = [] := by
 refine Q3 ?_
 have o1 := FL.one hx.w
 have o2 := FL.one hx.n
 have o3 := FL.one hx.k
 have hlen := FI.len hx.k
 have hz := hx.fz
 have hrow : x.row = [.int .i64 15, x.dw, x.dn, x.dk, .int .i64 x.pos] := by unfold Nd.row; rw [hK]
 obtain ⟨b1, h1, p1⟩ := Y7 hx (c := 0)
 obtain ⟨b2, h2, p2⟩ := Z6 hx (c := 0) (m := 0)
 rw [hrow] at h1 h2 hz ⊢
 have hz0 : ((x.kids.length : Int) == 0) = decide (x.kids = []) := by
  rw [Bool.eq_iff_iff, beq_iff_eq, decide_eq_true_eq, <- List.length_eq_zero_iff]; omega
 cases b1 <;> cases b2
 all_goals
  refine M8 (vf := O3) rfl ?_
  unfold O3; refine zE ?_
  repeat first
  |(apply M5 h1 rfl rfl (fz2 hz M3))
  |(apply M5 h2 rfl rfl (fz3 hz M3 M3))
  |refine zW (aN o1 (aN o2 (aN o3 (aN hlen hz0)))) ?_
  first
   | exact ⟨.inr trivial, _, rR, _, rfl, fun h => ⟨p1 rfl, p2 rfl, of_decide_eq_true h⟩⟩
   | exact ⟨.inr trivial, _, rR, _, rfl, by simp⟩
theorem b43 {d : D} {t : List Nd} {x : Nd} (hT : N7 d t) (hx : x.Ok) (hk : W9 t x) (hK : x.kind = 16) : P5 61 [d, .agg x.row] fun b => b = true -> (x.words.length : Int) = 0 /\ ((x.nums.length : Int) = 0 /\ ∀ n ∈ x.nums, 0 <= n /\ n <= 0) /\ ∀ i, 0 <= i -> i < x.kids.length -> 6 <= (nd t (x.kid i)).kind /\ (nd t (x.kid i)).kind <= 15 := by
 refine Q3 ?_
 have o1 := FL.one hx.w
 have o2 := FL.one hx.n
 have o3 := FL.one hx.k
 have hlen := FI.len hx.k
 have hz := hx.fz
 have hrow : x.row = [.int .i64 16, x.dw, x.dn, x.dk, .int .i64 x.pos] := by unfold Nd.row; rw [hK]
 obtain ⟨b1, h1, p1⟩ := Y7 hx (c := 0)
 obtain ⟨b2, h2, p2⟩ := Z6 hx (c := 0) (m := 0)
 obtain ⟨b3, h3, p3⟩ := a9t hT hx hk (f := 0) (a := 6) (b := 15)
 rw [hrow] at h1 h2 hz h3 ⊢
 cases b1 <;> cases b2
 all_goals
  refine M8 (vf := O3) rfl ?_
  unfold O3; refine zE ?_
  repeat first
  |(apply M5 h1 rfl rfl (fz2 hz M3))
  |(apply M5 h2 rfl rfl (fz3 hz M3 M3))
  |(apply M5 h3 rfl rfl (fz5 hT.fz hz M3 M3 M3))
  |refine zW (aN o1 (aN o2 (aN o3 hlen))) ?_
  first
   | exact ⟨.inr trivial, _, rR, _, rfl, fun h => ⟨p1 rfl, p2 rfl, p3 h⟩⟩
   | exact ⟨.inr trivial, _, rR, _, rfl, by simp⟩
theorem b5V {d : D} {t : List Nd} {x : Nd} (hT : N7 d t) (hx : x.Ok) (hk : W9 t x) (hK : x.kind = 17) : P5 61 [d, .agg x.row] fun b => b = true -> (x.words.length : Int) = 0 /\ ((x.nums.length : Int) = 1 /\ ∀ n ∈ x.nums, 0 <= n /\ n <= 999999) /\ x.kids = [] := by
 refine Q3 ?_
 have o1 := FL.one hx.w
 have o2 := FL.one hx.n
 have o3 := FL.one hx.k
 have hlen := FI.len hx.k
 have hz := hx.fz
 have hrow : x.row = [.int .i64 17, x.dw, x.dn, x.dk, .int .i64 x.pos] := by unfold Nd.row; rw [hK]
 obtain ⟨b1, h1, p1⟩ := Y7 hx (c := 0)
 obtain ⟨b2, h2, p2⟩ := Z6 hx (c := 1) (m := 999999)
 rw [hrow] at h1 h2 hz ⊢
 have hz0 : ((x.kids.length : Int) == 0) = decide (x.kids = []) := by
  rw [Bool.eq_iff_iff, beq_iff_eq, decide_eq_true_eq, <- List.length_eq_zero_iff]; omega
 cases b1 <;> cases b2
 all_goals
  refine M8 (vf := O3) rfl ?_
  unfold O3; refine zE ?_
  repeat first
  |(apply M5 h1 rfl rfl (fz2 hz M3))
  |(apply M5 h2 rfl rfl (fz3 hz M3 M3))
  |refine zW (aN o1 (aN o2 (aN o3 (aN hlen hz0)))) ?_
  first
   | exact ⟨.inr trivial, _, rR, _, rfl, fun h => ⟨p1 rfl, p2 rfl, of_decide_eq_true h⟩⟩
   | exact ⟨.inr trivial, _, rR, _, rfl, by simp⟩
theorem b7J {d : D} {t : List Nd} {x : Nd} (hT : N7 d t) (hx : x.Ok) (hk : W9 t x) (hK : x.kind = 18) : P5 61 [d, .agg x.row] fun b => b = true -> (x.words.length : Int) = 1 /\ ((x.nums.length : Int) = 0 /\ ∀ n ∈ x.nums, 0 <= n /\ n <= 0) /\ x.kids = [] := by
 refine Q3 ?_
 have o1 := FL.one hx.w
 have o2 := FL.one hx.n
 have o3 := FL.one hx.k
 have hlen := FI.len hx.k
 have hz := hx.fz
 have hrow : x.row = [.int .i64 18, x.dw, x.dn, x.dk, .int .i64 x.pos] := by unfold Nd.row; rw [hK]
 obtain ⟨b1, h1, p1⟩ := Y7 hx (c := 1)
 obtain ⟨b2, h2, p2⟩ := Z6 hx (c := 0) (m := 0)
 rw [hrow] at h1 h2 hz ⊢
 have hz0 : ((x.kids.length : Int) == 0) = decide (x.kids = []) := by
  rw [Bool.eq_iff_iff, beq_iff_eq, decide_eq_true_eq, <- List.length_eq_zero_iff]; omega
 cases b1 <;> cases b2
 all_goals
  refine M8 (vf := O3) rfl ?_
  unfold O3; refine zE ?_
  repeat first
  |(apply M5 h1 rfl rfl (fz2 hz M3))
  |(apply M5 h2 rfl rfl (fz3 hz M3 M3))
  |refine zW (aN o1 (aN o2 (aN o3 (aN hlen hz0)))) ?_
  first
   | exact ⟨.inr trivial, _, rR, _, rfl, fun h => ⟨p1 rfl, p2 rfl, of_decide_eq_true h⟩⟩
   | exact ⟨.inr trivial, _, rR, _, rfl, by simp⟩
theorem b9f {d : D} {t : List Nd} {x : Nd} (hT : N7 d t) (hx : x.Ok) (hk : W9 t x) (hK : x.kind = 19) : P5 61 [d, .agg x.row] fun b => b = true -> (x.words.length : Int) = 1 /\ ((x.nums.length : Int) = 0 /\ ∀ n ∈ x.nums, 0 <= n /\ n <= 0) /\ x.kids = [] := by
 refine Q3 ?_
 have o1 := FL.one hx.w
 have o2 := FL.one hx.n
 have o3 := FL.one hx.k
 have hlen := FI.len hx.k
 have hz := hx.fz
 have hrow : x.row = [.int .i64 19, x.dw, x.dn, x.dk, .int .i64 x.pos] := by unfold Nd.row; rw [hK]
 obtain ⟨b1, h1, p1⟩ := Y7 hx (c := 1)
 obtain ⟨b2, h2, p2⟩ := Z6 hx (c := 0) (m := 0)
 rw [hrow] at h1 h2 hz ⊢
 have hz0 : ((x.kids.length : Int) == 0) = decide (x.kids = []) := by
  rw [Bool.eq_iff_iff, beq_iff_eq, decide_eq_true_eq, <- List.length_eq_zero_iff]; omega
 cases b1 <;> cases b2
 all_goals
  refine M8 (vf := O3) rfl ?_
  unfold O3; refine zE ?_
  repeat first
  |(apply M5 h1 rfl rfl (fz2 hz M3))
  |(apply M5 h2 rfl rfl (fz3 hz M3 M3))
  |refine zW (aN o1 (aN o2 (aN o3 (aN hlen hz0)))) ?_
  first
   | exact ⟨.inr trivial, _, rR, _, rfl, fun h => ⟨p1 rfl, p2 rfl, of_decide_eq_true h⟩⟩
   | exact ⟨.inr trivial, _, rR, _, rfl, by simp⟩
theorem b63 {d : D} {t : List Nd} {x : Nd} (hT : N7 d t) (hx : x.Ok) (hk : W9 t x) (hK : x.kind = 20) : P5 61 [d, .agg x.row] fun b => b = true -> (x.words.length : Int) = 0 /\ ((x.nums.length : Int) = 0 /\ ∀ n ∈ x.nums, 0 <= n /\ n <= 0) /\ 1 <= x.kids.length /\ x.kids.length <= 1 /\ ∀ i, i < x.kids.length -> (i < 1 -> 17 <= (nd t (x.kid i)).kind /\ (nd t (x.kid i)).kind <= 22) /\ (1 <= i -> (nd t (x.kid i)).kind = 16) := by
 refine Q3 ?_
 have o1 := FL.one hx.w
 have o2 := FL.one hx.n
 have o3 := FL.one hx.k
 have hlen := FI.len hx.k
 have hz := hx.fz
 have hrow : x.row = [.int .i64 20, x.dw, x.dn, x.dk, .int .i64 x.pos] := by unfold Nd.row; rw [hK]
 obtain ⟨b1, h1, p1⟩ := Y7 hx (c := 0)
 obtain ⟨b2, h2, p2⟩ := Z6 hx (c := 0) (m := 0)
 obtain ⟨b3, h3, p3⟩ := a1X hT hx hk (f := 1) (l := 0) (m := 0) (by omega) (by omega) (by omega)
 rw [hrow] at h1 h2 hz h3 ⊢
 cases b1 <;> cases b2
 all_goals
  refine M8 (vf := O3) rfl ?_
  unfold O3; refine zE ?_
  repeat first
  |(apply M5 h1 rfl rfl (fz2 hz M3))
  |(apply M5 h2 rfl rfl (fz3 hz M3 M3))
  |(apply M5 h3 rfl rfl (fz5 hT.fz hz M3 M3 M3))
  |refine zW (aN o1 (aN o2 (aN o3 hlen))) ?_
  first
   | exact ⟨.inr trivial, _, rR, _, rfl, fun h => ⟨p1 rfl, p2 rfl, p3 h⟩⟩
   | exact ⟨.inr trivial, _, rR, _, rfl, by simp⟩
theorem c2x {d : D} {t : List Nd} {x : Nd} (hT : N7 d t) (hx : x.Ok) (hk : W9 t x) (hK : x.kind = 21) : P5 61 [d, .agg x.row] fun b => b = true -> (x.words.length : Int) = 0 /\ ((x.nums.length : Int) = 0 /\ ∀ n ∈ x.nums, 0 <= n /\ n <= 0) /\ 1 <= x.kids.length /\ x.kids.length <= 1 /\ ∀ i, i < x.kids.length -> (i < 1 -> 17 <= (nd t (x.kid i)).kind /\ (nd t (x.kid i)).kind <= 22) /\ (1 <= i -> (nd t (x.kid i)).kind = 16) := by
 refine Q3 ?_
 have o1 := FL.one hx.w
 have o2 := FL.one hx.n
 have o3 := FL.one hx.k
 have hlen := FI.len hx.k
 have hz := hx.fz
 have hrow : x.row = [.int .i64 21, x.dw, x.dn, x.dk, .int .i64 x.pos] := by unfold Nd.row; rw [hK]
 obtain ⟨b1, h1, p1⟩ := Y7 hx (c := 0)
 obtain ⟨b2, h2, p2⟩ := Z6 hx (c := 0) (m := 0)
 obtain ⟨b3, h3, p3⟩ := a1X hT hx hk (f := 1) (l := 0) (m := 0) (by omega) (by omega) (by omega)
 rw [hrow] at h1 h2 hz h3 ⊢
 cases b1 <;> cases b2
 all_goals
  refine M8 (vf := O3) rfl ?_
  unfold O3; refine zE ?_
  repeat first
  |(apply M5 h1 rfl rfl (fz2 hz M3))
  |(apply M5 h2 rfl rfl (fz3 hz M3 M3))
  |(apply M5 h3 rfl rfl (fz5 hT.fz hz M3 M3 M3))
  |refine zW (aN o1 (aN o2 (aN o3 hlen))) ?_
  first
   | exact ⟨.inr trivial, _, rR, _, rfl, fun h => ⟨p1 rfl, p2 rfl, p3 h⟩⟩
   | exact ⟨.inr trivial, _, rR, _, rfl, by simp⟩
theorem b4z {d : D} {t : List Nd} {x : Nd} (hT : N7 d t) (hx : x.Ok) (hk : W9 t x) (hK : x.kind = 22) : P5 61 [d, .agg x.row] fun b => b = true -> (x.words.length : Int) = 0 /\ ((x.nums.length : Int) = 1 /\ ∀ n ∈ x.nums, 0 <= n /\ n <= 8) /\ 2 <= x.kids.length /\ x.kids.length <= 2 /\ ∀ i, i < x.kids.length -> (i < 2 -> 17 <= (nd t (x.kid i)).kind /\ (nd t (x.kid i)).kind <= 22) /\ (2 <= i -> (nd t (x.kid i)).kind = 16) := by
 refine Q3 ?_
 have o1 := FL.one hx.w
 have o2 := FL.one hx.n
 have o3 := FL.one hx.k
 have hlen := FI.len hx.k
 have hz := hx.fz
 have hrow : x.row = [.int .i64 22, x.dw, x.dn, x.dk, .int .i64 x.pos] := by unfold Nd.row; rw [hK]
 obtain ⟨b1, h1, p1⟩ := Y7 hx (c := 0)
 obtain ⟨b2, h2, p2⟩ := Z6 hx (c := 1) (m := 8)
 obtain ⟨b3, h3, p3⟩ := a1X hT hx hk (f := 2) (l := 0) (m := 0) (by omega) (by omega) (by omega)
 rw [hrow] at h1 h2 hz h3 ⊢
 cases b1 <;> cases b2
 all_goals
  refine M8 (vf := O3) rfl ?_
  unfold O3; refine zE ?_
  repeat first
  |(apply M5 h1 rfl rfl (fz2 hz M3))
  |(apply M5 h2 rfl rfl (fz3 hz M3 M3))
  |(apply M5 h3 rfl rfl (fz5 hT.fz hz M3 M3 M3))
  |refine zW (aN o1 (aN o2 (aN o3 hlen))) ?_
  first
   | exact ⟨.inr trivial, _, rR, _, rfl, fun h => ⟨p1 rfl, p2 rfl, p3 h⟩⟩
   | exact ⟨.inr trivial, _, rR, _, rfl, by simp⟩
end Go.Proofs.YtnjlhebkhjcagaaGreat
namespace Go.Proofs.YtnjlhebkhjcagaaGreat
open Go.V
set_option maxRecDepth 100000
set_option maxHeartbeats 4000000
theorem b2r {x : Nd} : ((x.kids.length : Int) == 0) = decide (x.kids = []) := by
 rw [Bool.eq_iff_iff, beq_iff_eq, decide_eq_true_eq, <- List.length_eq_zero_iff]; omega
theorem b36 {d : D} {t : List Nd} {x : Nd} (hT : N7 d t) (hx : x.Ok) (hk : W9 t x) (hK : x.kind = 1) : P5 61 [d, .agg x.row] fun b => b = true -> (x.words.length : Int) = 1 /\ ((x.nums.length : Int) = 4 /\ ∀ n ∈ x.nums, 0 <= n /\ n <= 999999) /\ x.num 2 <= 1 /\ x.num 3 <= 1 /\ x.kids = [] := by
 refine Q3 ?_
 have o1 := FL.one hx.w
 have o2 := FL.one hx.n
 have o3 := FL.one hx.k
 have hlen := FI.len hx.k
 have hz := hx.fz
 have hrow : x.row = [.int .i64 1, x.dw, x.dn, x.dk, .int .i64 x.pos] := by unfold Nd.row; rw [hK]
 have hz0 := b2r (x := x)
 obtain ⟨b1, h1, p1⟩ := Y7 hx (c := 1)
 obtain ⟨b2, h2, p2⟩ := Z6 hx (c := 4) (m := 999999)
 rw [hrow] at h1 h2 hz ⊢
 cases b1
 ·refine M8 (vf := O3) rfl ?_
  unfold O3; refine zE ?_
  repeat first
  |(apply M5 h1 rfl rfl (fz2 hz M3))
  |(apply M5 h2 rfl rfl (fz3 hz M3 M3))
  |refine zW (aN o1 (aN o2 (aN o3 hlen))) ?_
  exact ⟨.inr trivial, _, rR, _, rfl, by simp⟩
 cases b2
 ·refine M8 (vf := O3) rfl ?_
  unfold O3; refine zE ?_
  repeat first
  |(apply M5 h1 rfl rfl (fz2 hz M3))
  |(apply M5 h2 rfl rfl (fz3 hz M3 M3))
  |refine zW (aN o1 (aN o2 (aN o3 hlen))) ?_
  exact ⟨.inr trivial, _, rR, _, rfl, by simp⟩
 have q2 := p2 rfl
 have l4 : x.nums.length = 4 := by omega
 have i2 : N3 1 x.dn (.int .i64 2) = some (.fp [.int .i64 (x.num 2)] 0) := by rw [a3z (by omega)]; exact FI.idx hx.n (i := 2) (by omega)
 have i3 : N3 1 x.dn (.int .i64 3) = some (.fp [.int .i64 (x.num 3)] 0) := by rw [a3z (by omega)]; exact FI.idx hx.n (i := 3) (by omega)
 by_cases c2 : x.num 2 <= 1
 ·by_cases c3 : x.num 3 <= 1
  ·refine M8 (vf := O3) rfl ?_
   unfold O3; refine zE ?_
   repeat first
   |(apply M5 h1 rfl rfl (fz2 hz M3))
   |(apply M5 h2 rfl rfl (fz3 hz M3 M3))
   |refine zW (aN o1 (aN o2 (aN o3 (aN hlen (aN i2 (aN i3 (aN c2 (aN c3 hz0)))))))) ?_
   exact ⟨.inr trivial, _, rR, _, rfl, fun h => ⟨p1 rfl, q2, c2, c3, by simpa using h⟩⟩
  ·refine M8 (vf := O3) rfl ?_
   unfold O3; refine zE ?_
   repeat first
   |(apply M5 h1 rfl rfl (fz2 hz M3))
   |(apply M5 h2 rfl rfl (fz3 hz M3 M3))
   |refine zW (aN o1 (aN o2 (aN o3 (aN hlen (aN i2 (aN i3 (aN c2 (aN c3 hz0)))))))) ?_
   exact ⟨.inr trivial, _, rR, _, rfl, by simp⟩
 ·refine M8 (vf := O3) rfl ?_
  unfold O3; refine zE ?_
  repeat first
  |(apply M5 h1 rfl rfl (fz2 hz M3))
  |(apply M5 h2 rfl rfl (fz3 hz M3 M3))
  |refine zW (aN o1 (aN o2 (aN o3 (aN hlen (aN i2 (aN i3 (aN c2 hz0))))))) ?_
  exact ⟨.inr trivial, _, rR, _, rfl, by simp⟩
theorem c2q {d : D} {t : List Nd} {x : Nd} (hT : N7 d t) (hx : x.Ok) (hk : W9 t x) (hK : x.kind = 2) : P5 61 [d, .agg x.row] fun b => b = true -> (x.words.length : Int) = 1 /\ x.nums.length = 2 /\ -999999 <= x.num 1 /\ x.num 1 <= 999999 /\ x.kids = [] := by
 refine Q3 ?_
 have o1 := FL.one hx.w
 have o2 := FL.one hx.n
 have o3 := FL.one hx.k
 have hlen := FI.len hx.k
 have hlen2 := FI.len hx.n
 have hz := hx.fz
 have hrow : x.row = [.int .i64 2, x.dw, x.dn, x.dk, .int .i64 x.pos] := by unfold Nd.row; rw [hK]
 have hz0 := b2r (x := x)
 obtain ⟨b1, h1, p1⟩ := Y7 hx (c := 1)
 rw [hrow] at h1 hz ⊢
 cases b1
 ·refine M8 (vf := O3) rfl ?_
  unfold O3; refine zE ?_
  repeat first
  |(apply M5 h1 rfl rfl (fz2 hz M3))
  |refine zW (aN o1 (aN o2 (aN o3 hlen))) ?_
  exact ⟨.inr trivial, _, rR, _, rfl, by simp⟩
 by_cases l2 : x.nums.length = 2
 ·have l2' : ((x.nums.length : Int) == 2) = true := by rw [l2]; rfl
  have i0 : N3 1 x.dn (.int .i64 0) = some (.fp [.int .i64 (x.num 0)] 0) := by rw [a3z (by omega)]; exact FI.idx hx.n (i := 0) (by omega)
  have i1 : N3 1 x.dn (.int .i64 1) = some (.fp [.int .i64 (x.num 1)] 0) := by rw [a3z (by omega)]; exact FI.idx hx.n (i := 1) (by omega)
  have g0 := a6y (k := x.num 0) (a := 0) (b := 999999)
  have g1 := a6y (k := x.num 1) (a := -999999) (b := 999999)
  cases r0 : inR (x.num 0) 0 999999
  ·rw [r0] at g0
   refine M8 (vf := O3) rfl ?_
   unfold O3; refine zE ?_
   repeat first
   |(apply M5 h1 rfl rfl (fz2 hz M3))
   |(apply M5 g0 rfl rfl rfl)
   |(apply M5 g1 rfl rfl rfl)
   |refine zW (aN o1 (aN o2 (aN o3 (aN hlen (aN hlen2 (aN l2' (aN i0 (aN i1 hz0)))))))) ?_
   exact ⟨.inr trivial, _, rR, _, rfl, by simp⟩
  ·rw [r0] at g0
   cases r1 : inR (x.num 1) (-999999) 999999
   ·rw [r1] at g1
    refine M8 (vf := O3) rfl ?_
    unfold O3; refine zE ?_
    repeat first
    |(apply M5 h1 rfl rfl (fz2 hz M3))
    |(apply M5 g0 rfl rfl rfl)
    |(apply M5 g1 rfl rfl rfl)
    |refine zW (aN o1 (aN o2 (aN o3 (aN hlen (aN hlen2 (aN l2' (aN i0 (aN i1 hz0)))))))) ?_
    exact ⟨.inr trivial, _, rR, _, rfl, by simp⟩
   ·rw [r1] at g1
    have r1 := a81.1 r1
    refine M8 (vf := O3) rfl ?_
    unfold O3; refine zE ?_
    repeat first
    |(apply M5 h1 rfl rfl (fz2 hz M3))
    |(apply M5 g0 rfl rfl rfl)
    |(apply M5 g1 rfl rfl rfl)
    |refine zW (aN o1 (aN o2 (aN o3 (aN hlen (aN hlen2 (aN l2' (aN i0 (aN i1 hz0)))))))) ?_
    exact ⟨.inr trivial, _, rR, _, rfl, fun h => ⟨p1 rfl, l2, r1.1, r1.2, by simpa using h⟩⟩
 ·have l2' : ((x.nums.length : Int) == 2) = false := by rw [beq_eq_false_iff_ne]; omega
  refine M8 (vf := O3) rfl ?_
  unfold O3; refine zE ?_
  repeat first
  |(apply M5 h1 rfl rfl (fz2 hz M3))
  |refine zW (aN o1 (aN o2 (aN o3 (aN hlen (aN hlen2 (aN l2' hz0)))))) ?_
  exact ⟨.inr trivial, _, rR, _, rfl, by simp⟩
theorem c2f {d : D} {t : List Nd} {x : Nd} (hT : N7 d t) (hx : x.Ok) (hk : W9 t x) (hK : x.kind = 3) : P5 61 [d, .agg x.row] fun b => b = true -> (x.words.length : Int) = 1 /\ ((x.nums.length : Int) = 1 /\ ∀ n ∈ x.nums, 0 <= n /\ n <= 999999) /\ ∃ v, v <= x.kids.length /\ (∀ i, i < v -> (nd t (x.kid i)).kind = 2) /\ ∀ i, v <= i -> i < x.kids.length -> 6 <= (nd t (x.kid i)).kind /\ (nd t (x.kid i)).kind <= 15 := by
 refine Q3 ?_
 have o1 := FL.one hx.w
 have o2 := FL.one hx.n
 have o3 := FL.one hx.k
 have hlen := FI.len hx.k
 have hz := hx.fz
 have hrow : x.row = [.int .i64 3, x.dw, x.dn, x.dk, .int .i64 x.pos] := by unfold Nd.row; rw [hK]
 obtain ⟨b1, h1, p1⟩ := Y7 hx (c := 1)
 obtain ⟨b2, h2, p2⟩ := Z6 hx (c := 1) (m := 999999)
 rw [hrow] at h1 h2 hz ⊢
 refine M8 (vf := O3) rfl ?_
 unfold O3; refine zE ?_
 try refine zW (aN o1 (aN o2 (aN o3 hlen))) ?_
 refine S9 (Q := N4 1 _) (fun n env s => ∃ i : Nat, i <= x.kids.length /\ n = x.kids.length - i /\ (∀ j, j < i -> (nd t (x.kid j)).kind = 2) /\ s.get 0 = some (.cells [.int .i64 3, x.dw, x.dn, x.dk, .int .i64 x.pos]) /\ (env.get 0 = d /\ env.get 3 = .ptr 0 0 /\ env.get 5 = .int .i64 (x.kids.length : Int) /\ env.get 6 = .int .i64 (i : Int))) ?_ x.kids.length _ _ ⟨0, by omega, rfl, fun j h => by omega, O5 rfl, by simp [Env.get, O8.at]; rfl⟩
 rintro n env s ⟨i, hi, rfl, hall, hg, hE⟩
 have fin : ∀ (env : Env) (s : M1), s.get 0 = some (.cells [.int .i64 3, x.dw, x.dn, x.dk, .int .i64 x.pos]) -> (env.get 0 = d /\ env.get 3 = .ptr 0 0 /\ env.get 6 = .int .i64 (i : Int)) -> True := fun _ _ _ _ => trivial
 obtain ⟨b3, h3, p3⟩ := a9t hT hx hk (f := i) (a := 6) (b := 15)
 rw [hrow] at h3
 by_cases c3 : i < x.kids.length
 ·have c3' : ((i : Int) < (x.kids.length : Int)) = True := eq_true (by omega)
  have hs := a1v c3 hx.kl
  have hki := hk _ (List.getElem_mem c3)
  have h4 := a7X hT hx c3 hki.1 hki.2
  rw [hrow] at h4
  by_cases c4 : (nd t (x.kid i)).kind = 2
  ·have c4' : ((nd t (x.kid i)).kind == 2) = true := by rw [c4]; rfl
   repeat first
   |(apply M5 h4 rfl; (focus (simp only [Env.evL, Env.ev, Env.get, Nat.reduceEqDiff, ↓reduceIte, hE])); (focus exact fz3 hT.fz hz M3))
   |refine zW (aN hE (aN hg (aN o1 (aN o2 (aN o3 (aN hlen (aN c3' (aN c4' hs)))))))) ?_
   refine ⟨x.kids.length - (i + 1), by omega, i + 1, by omega, rfl, fun j h => ?_, hg, (rG hE)⟩
   by_cases e : j = i
   ·subst e; exact c4
   ·exact hall j (by omega)
  ·have c4' : ((nd t (x.kid i)).kind == 2) = false := by rw [beq_eq_false_iff_ne]; exact c4
   cases b1
   ·repeat first
    |(apply M5 h4 rfl; (focus (simp only [Env.evL, Env.ev, Env.get, Nat.reduceEqDiff, ↓reduceIte, hE])); (focus exact fz3 hT.fz hz M3))
    |(apply M5 h1 rfl rfl (fz2 hz M3))
    |refine zW (aN hE (aN hg (aN o1 (aN o2 (aN o3 (aN hlen (aN c3' c4'))))))) ?_
    exact ⟨.inr trivial, _, rR, _, rfl, by simp⟩
   cases b2
   ·repeat first
    |(apply M5 h4 rfl; (focus (simp only [Env.evL, Env.ev, Env.get, Nat.reduceEqDiff, ↓reduceIte, hE])); (focus exact fz3 hT.fz hz M3))
    |(apply M5 h1 rfl rfl (fz2 hz M3))
    |(apply M5 h2 rfl rfl (fz3 hz M3 M3))
    |refine zW (aN hE (aN hg (aN o1 (aN o2 (aN o3 (aN hlen (aN c3' c4'))))))) ?_
    exact ⟨.inr trivial, _, rR, _, rfl, by simp⟩
   repeat first
   |(apply M5 h4 rfl; (focus (simp only [Env.evL, Env.ev, Env.get, Nat.reduceEqDiff, ↓reduceIte, hE])); (focus exact fz3 hT.fz hz M3))
   |(apply M5 h1 rfl rfl (fz2 hz M3))
   |(apply M5 h2 rfl rfl (fz3 hz M3 M3))
   |(apply M5 h3 rfl; (focus (simp only [Env.evL, Env.ev, Env.get, Nat.reduceEqDiff, ↓reduceIte, hE])); (focus exact fz5 hT.fz hz M3 M3 M3))
   |refine zW (aN hE (aN hg (aN o1 (aN o2 (aN o3 (aN hlen (aN c3' c4'))))))) ?_
   exact ⟨.inr trivial, _, rR, _, rfl, fun h => ⟨p1 rfl, p2 rfl, i, hi, hall, p3 h⟩⟩
 ·have c3' : ((i : Int) < (x.kids.length : Int)) = False := eq_false (by omega)
  cases b1
  ·repeat first
   |(apply M5 h1 rfl rfl (fz2 hz M3))
   |refine zW (aN hE (aN hg (aN o1 (aN o2 (aN o3 (aN hlen c3')))))) ?_
   exact ⟨.inr trivial, _, rR, _, rfl, by simp⟩
  cases b2
  ·repeat first
   |(apply M5 h1 rfl rfl (fz2 hz M3))
   |(apply M5 h2 rfl rfl (fz3 hz M3 M3))
   |refine zW (aN hE (aN hg (aN o1 (aN o2 (aN o3 (aN hlen c3')))))) ?_
   exact ⟨.inr trivial, _, rR, _, rfl, by simp⟩
  repeat first
  |(apply M5 h1 rfl rfl (fz2 hz M3))
  |(apply M5 h2 rfl rfl (fz3 hz M3 M3))
  |(apply M5 h3 rfl; (focus (simp only [Env.evL, Env.ev, Env.get, Nat.reduceEqDiff, ↓reduceIte, hE])); (focus exact fz5 hT.fz hz M3 M3 M3))
  |refine zW (aN hE (aN hg (aN o1 (aN o2 (aN o3 (aN hlen c3')))))) ?_
  exact ⟨.inr trivial, _, rR, _, rfl, fun h => ⟨p1 rfl, p2 rfl, i, hi, hall, p3 h⟩⟩
theorem b5j {d : D} {t : List Nd} {x : Nd} (hT : N7 d t) (hx : x.Ok) (hK : x.kind < 0 ∨ 22 < x.kind) : P5 61 [d, .agg x.row] fun b => b = false := by
 refine Q3 ?_
 have o1 := FL.one hx.w
 have o2 := FL.one hx.n
 have o3 := FL.one hx.k
 have hlen := FI.len hx.k
 have ne : ∀ c : Int, 0 <= c -> c <= 22 -> (x.kind == c) = false := fun c h1 h2 => by rw [beq_eq_false_iff_ne]; omega
 have n0 := ne 0 (by omega) (by omega)
 have n1 := ne 1 (by omega) (by omega)
 have n2 := ne 2 (by omega) (by omega)
 have n3 := ne 3 (by omega) (by omega)
 have n4 := ne 4 (by omega) (by omega)
 have n5 := ne 5 (by omega) (by omega)
 have n6 := ne 6 (by omega) (by omega)
 have n7 := ne 7 (by omega) (by omega)
 have n8 := ne 8 (by omega) (by omega)
 have n9 := ne 9 (by omega) (by omega)
 have n10 := ne 10 (by omega) (by omega)
 have n11 := ne 11 (by omega) (by omega)
 have n12 := ne 12 (by omega) (by omega)
 have n13 := ne 13 (by omega) (by omega)
 have n14 := ne 14 (by omega) (by omega)
 have n15 := ne 15 (by omega) (by omega)
 have n16 := ne 16 (by omega) (by omega)
 have n17 := ne 17 (by omega) (by omega)
 have n18 := ne 18 (by omega) (by omega)
 have n19 := ne 19 (by omega) (by omega)
 have n20 := ne 20 (by omega) (by omega)
 have n21 := ne 21 (by omega) (by omega)
 have n22 := ne 22 (by omega) (by omega)
 unfold Nd.row
 refine M8 (vf := O3) rfl ?_
 unfold O3; refine zE ?_
 try refine zW (aN o1 (aN o2 (aN o3 (aN hlen (aN n0 (aN n1 (aN n2 (aN n3 (aN n4 (aN n5 (aN n6 (aN n7 (aN n8 (aN n9 (aN n10 (aN n11 (aN n12 (aN n13 (aN n14 (aN n15 (aN n16 (aN n17 (aN n18 (aN n19 (aN n20 (aN n21 n22)))))))))))))))))))))))))) ?_
 exact ⟨.inr trivial, _, rR, _, rfl, rfl⟩
end Go.Proofs.YtnjlhebkhjcagaaGreat
namespace Go.Proofs.YtnjlhebkhjcagaaGreat
open Go.V
set_option maxRecDepth 100000
set_option maxHeartbeats 4000000
theorem a10 {x : Nd} {i : Nat} {m : Int} (h : i < x.nums.length) (ha : ∀ n ∈ x.nums, 0 <= n /\ n <= m) : 0 <= x.num i /\ x.num i <= m := by
 rw [a3z h]; exact ha _ (List.getElem_mem h)
theorem b3o {t : List Nd} {x : Nd} {a b : Int} (h : ∀ i, 0 <= i -> i < x.kids.length -> a <= (nd t (x.kid i)).kind /\ (nd t (x.kid i)).kind <= b) : ∀ k ∈ x.ks, a <= (nd t k).kind /\ (nd t k).kind <= b := by
 intro k hk
 obtain ⟨i, hi, rfl⟩ := List.getElem_of_mem hk
 rw [a0n] at hi
 have := h i (Nat.zero_le _) hi
 rw [a3q hi] at this
 simpa [Nd.ks] using this
theorem c28 {t : List Nd} {x : Nd} (h : ∀ i, i < x.kids.length -> (nd t (x.kid i)).kind = 16) : ∀ k ∈ x.ks, (nd t k).kind = 16 := by
 intro k hk
 obtain ⟨i, hi, rfl⟩ := List.getElem_of_mem hk
 rw [a0n] at hi
 have := h i hi
 rw [a3q hi] at this
 simpa [Nd.ks] using this
theorem c1J {t : List Nd} {x : Nd} {v : Nat} (h : ∀ i, i < v -> (nd t (x.kid i)).kind = 2) : ∀ k ∈ x.ks.take v, (nd t k).kind = 2 := by
 intro k hk
 obtain ⟨i, hi, rfl⟩ := List.getElem_of_mem hk
 have h1 : i < v /\ i < x.kids.length := by
  rw [List.length_take, a0n] at hi
  omega
 have := h i h1.1
 rw [a3q h1.2] at this
 simpa [Nd.ks] using this
theorem b8Z {t : List Nd} {x : Nd} {v : Nat} (h : ∀ i, v <= i -> i < x.kids.length -> 6 <= (nd t (x.kid i)).kind /\ (nd t (x.kid i)).kind <= 15) : ∀ k ∈ x.ks.drop v, a1W (nd t k).kind := by
 intro k hk
 obtain ⟨i, hi, rfl⟩ := List.getElem_of_mem hk
 rw [List.length_drop, a0n] at hi
 have := h (v + i) (by omega) (by omega)
 rw [a3q (by omega)] at this
 simpa [Nd.ks, a1W] using this
theorem b8m {d : D} {t : List Nd} {x : Nd} (hT : N7 d t) (hx : x.Ok) (hk : W9 t x) : P5 61 [d, .agg x.row] fun b => b = true -> a51 t x := by
 by_cases hr : x.kind < 0 ∨ 22 < x.kind
 ·obtain ⟨b, h, rfl⟩ := b5j hT hx hr
  exact ⟨false, h, by simp⟩
 have cs : x.kind = 0 ∨ x.kind = 1 ∨ x.kind = 2 ∨ x.kind = 3 ∨ x.kind = 4 ∨ x.kind = 5 ∨ x.kind = 6 ∨ x.kind = 7 ∨ x.kind = 8 ∨ x.kind = 9 ∨ x.kind = 10 ∨ x.kind = 11 ∨ x.kind = 12 ∨ x.kind = 13 ∨ x.kind = 14 ∨ x.kind = 15 ∨ x.kind = 16 ∨ x.kind = 17 ∨ x.kind = 18 ∨ x.kind = 19 ∨ x.kind = 20 ∨ x.kind = 21 ∨ x.kind = 22 := by omega
 rcases cs with hK | hK | hK | hK | hK | hK | hK | hK | hK | hK | hK | hK | hK | hK | hK | hK | hK | hK | hK | hK | hK | hK | hK
 ·obtain ⟨b, h, p⟩ := c1B hT hx hk hK
  refine ⟨b, h, fun hb => ?_⟩
  obtain ⟨w, n, r⟩ := p hb
  exact ⟨by omega, by rw [hK, show Y3 0 = 0 from rfl]; omega, by rw [hK, show Y1 0 = 0 from rfl]; omega, fun _ => b3o r, fun e => by omega, fun e => by omega, fun e => by omega, fun e => by omega, fun e => by omega, fun e => by omega, fun e => by omega, fun e => by omega, fun e => by omega, fun e => by omega, fun e => by omega, fun e => by omega, fun e => by omega, fun e => by omega⟩
 ·obtain ⟨b, h, p⟩ := b36 hT hx hk hK
  refine ⟨b, h, fun hb => ?_⟩
  obtain ⟨w, n, r⟩ := p hb
  exact ⟨by omega, by rw [hK, show Y3 1 = 1 from rfl]; omega, by rw [hK, show Y1 1 = 4 from rfl]; omega, fun e => by omega, fun _ => ⟨(a10 (by omega) n.2).1, (a10 (by omega) n.2).1, (a10 (by omega) n.2).1, r.1, (a10 (by omega) n.2).1, r.2.1⟩, fun e => by omega, fun e => by omega, fun e => by omega, fun e => by omega, fun _ => r.2.2, fun e => by omega, fun e => by omega, fun e => by omega, fun e => by omega, fun e => by omega, fun e => by omega, fun e => by omega, fun e => by omega⟩
 ·obtain ⟨b, h, p⟩ := c2q hT hx hk hK
  refine ⟨b, h, fun hb => ?_⟩
  obtain ⟨w, n, r⟩ := p hb
  exact ⟨by omega, by rw [hK, show Y3 2 = 1 from rfl]; omega, by rw [hK, show Y1 2 = 2 from rfl]; omega, fun e => by omega, fun e => by omega, fun _ => ⟨r.1, r.2.1⟩, fun e => by omega, fun e => by omega, fun e => by omega, fun _ => r.2.2, fun e => by omega, fun e => by omega, fun e => by omega, fun e => by omega, fun e => by omega, fun e => by omega, fun e => by omega, fun e => by omega⟩
 ·obtain ⟨b, h, p⟩ := c2f hT hx hk hK
  refine ⟨b, h, fun hb => ?_⟩
  obtain ⟨w, n, r⟩ := p hb
  exact ⟨by omega, by rw [hK, show Y3 3 = 1 from rfl]; omega, by rw [hK, show Y1 3 = 1 from rfl]; omega, fun e => by omega, fun e => by omega, fun e => by omega, fun _ => by obtain ⟨v, v1, v2, v3⟩ := r; exact ⟨v, by rw [a0n]; exact v1, c1J v2, b8Z v3⟩, fun _ => a10 (by omega) n.2, fun e => by omega, fun e => by omega, fun e => by omega, fun e => by omega, fun e => by omega, fun e => by omega, fun e => by omega, fun e => by omega, fun e => by omega, fun e => by omega⟩
 ·obtain ⟨b, h, p⟩ := b8o hT hx hk hK
  refine ⟨b, h, fun hb => ?_⟩
  obtain ⟨w, n, r⟩ := p hb
  exact ⟨by omega, by rw [hK, show Y3 4 = 0 from rfl]; omega, by rw [hK, show Y1 4 = 0 from rfl]; omega, fun e => by omega, fun e => by omega, fun e => by omega, fun e => by omega, fun e => by omega, fun _ => ⟨by omega, (r.2.2 0 (by omega)).1 (by omega)⟩, fun e => by omega, fun e => by omega, fun e => by omega, fun e => by omega, fun e => by omega, fun e => by omega, fun e => by omega, fun e => by omega, fun e => by omega⟩
 ·obtain ⟨b, h, p⟩ := c2p hT hx hk hK
  refine ⟨b, h, fun hb => ?_⟩
  obtain ⟨w, n, r⟩ := p hb
  exact ⟨by omega, by rw [hK, show Y3 5 = 0 from rfl]; omega, by rw [hK, show Y1 5 = 0 from rfl]; omega, fun e => by omega, fun e => by omega, fun e => by omega, fun e => by omega, fun e => by omega, fun e => by omega, fun _ => r, fun e => by omega, fun e => by omega, fun e => by omega, fun e => by omega, fun e => by omega, fun e => by omega, fun e => by omega, fun e => by omega⟩
 ·obtain ⟨b, h, p⟩ := b8Q hT hx hk hK
  refine ⟨b, h, fun hb => ?_⟩
  obtain ⟨w, n, r⟩ := p hb
  exact ⟨by omega, by rw [hK, show Y3 6 = 1 from rfl]; omega, by rw [hK, show Y1 6 = 0 from rfl]; omega, fun e => by omega, fun e => by omega, fun e => by omega, fun e => by omega, fun e => by omega, fun _ => ⟨by omega, (r.2.2 0 (by omega)).1 (by omega)⟩, fun e => by omega, fun e => by omega, fun e => by omega, fun e => by omega, fun e => by omega, fun e => by omega, fun e => by omega, fun e => by omega, fun e => by omega⟩
 ·obtain ⟨b, h, p⟩ := b4u hT hx hk hK
  refine ⟨b, h, fun hb => ?_⟩
  obtain ⟨w, n, r⟩ := p hb
  exact ⟨by omega, by rw [hK, show Y3 7 = 1 from rfl]; omega, by rw [hK, show Y1 7 = 0 from rfl]; omega, fun e => by omega, fun e => by omega, fun e => by omega, fun e => by omega, fun e => by omega, fun _ => ⟨by omega, (r.2.2 0 (by omega)).1 (by omega)⟩, fun e => by omega, fun e => by omega, fun e => by omega, fun e => by omega, fun e => by omega, fun e => by omega, fun e => by omega, fun e => by omega, fun e => by omega⟩
 ·obtain ⟨b, h, p⟩ := c33 hT hx hk hK
  refine ⟨b, h, fun hb => ?_⟩
  obtain ⟨w, n, r⟩ := p hb
  exact ⟨by omega, by rw [hK, show Y3 8 = 2 from rfl]; omega, by rw [hK, show Y1 8 = 1 from rfl]; omega, fun e => by omega, fun e => by omega, fun e => by omega, fun e => by omega, fun e => by omega, fun e => by omega, fun _ => r, fun e => by omega, fun e => by omega, fun e => by omega, fun e => by omega, fun e => by omega, fun e => by omega, fun _ => a10 (by omega) n.2, fun e => by omega⟩
 ·obtain ⟨b, h, p⟩ := b5i hT hx hk hK
  refine ⟨b, h, fun hb => ?_⟩
  obtain ⟨w, n, r⟩ := p hb
  exact ⟨by omega, by rw [hK, show Y3 9 = 0 from rfl]; omega, by rw [hK, show Y1 9 = 1 from rfl]; omega, fun e => by omega, fun e => by omega, fun e => by omega, fun e => by omega, fun e => by omega, fun _ => ⟨by omega, (r.2.2 0 (by omega)).1 (by omega)⟩, fun e => by omega, fun e => by omega, fun e => by omega, fun e => by omega, fun e => by omega, fun e => by omega, fun e => by omega, fun _ => a10 (by omega) n.2, fun e => by omega⟩
 ·obtain ⟨b, h, p⟩ := c3D hT hx hk hK
  refine ⟨b, h, fun hb => ?_⟩
  obtain ⟨w, n, r⟩ := p hb
  exact ⟨by omega, by rw [hK, show Y3 10 = 0 from rfl]; omega, by rw [hK, show Y1 10 = 1 from rfl]; omega, fun e => by omega, fun e => by omega, fun e => by omega, fun e => by omega, fun e => by omega, fun e => by omega, fun e => by omega, fun _ => ⟨by omega, c28 fun i hi => (r.2.2 i hi).2 (by omega)⟩, fun e => by omega, fun e => by omega, fun e => by omega, fun e => by omega, fun e => by omega, fun _ => a10 (by omega) n.2, fun e => by omega⟩
 ·obtain ⟨b, h, p⟩ := c0O hT hx hk hK
  refine ⟨b, h, fun hb => ?_⟩
  obtain ⟨w, n, r⟩ := p hb
  exact ⟨by omega, by rw [hK, show Y3 11 = 0 from rfl]; omega, by rw [hK, show Y1 11 = 0 from rfl]; omega, fun e => by omega, fun e => by omega, fun e => by omega, fun e => by omega, fun e => by omega, fun e => by omega, fun e => by omega, fun e => by omega, fun _ => ⟨by omega, (r.2.2 0 (by omega)).1 (by omega), (r.2.2 1 (by omega)).2 (by omega), fun h3 => (r.2.2 2 (by omega)).2 (by omega)⟩, fun e => by omega, fun e => by omega, fun e => by omega, fun e => by omega, fun e => by omega, fun e => by omega⟩
 ·obtain ⟨b, h, p⟩ := b42 hT hx hk hK
  refine ⟨b, h, fun hb => ?_⟩
  obtain ⟨w, n, r⟩ := p hb
  exact ⟨by omega, by rw [hK, show Y3 12 = 0 from rfl]; omega, by rw [hK, show Y1 12 = 0 from rfl]; omega, fun e => by omega, fun e => by omega, fun e => by omega, fun e => by omega, fun e => by omega, fun e => by omega, fun e => by omega, fun e => by omega, fun e => by omega, fun _ => ⟨by omega, (r.2.2 0 (by omega)).1 (by omega), (r.2.2 1 (by omega)).2 (by omega)⟩, fun e => by omega, fun e => by omega, fun e => by omega, fun e => by omega, fun e => by omega⟩
 ·obtain ⟨b, h, p⟩ := c1y hT hx hk hK
  refine ⟨b, h, fun hb => ?_⟩
  obtain ⟨w, n, r⟩ := p hb
  exact ⟨by omega, by rw [hK, show Y3 13 = 0 from rfl]; omega, by rw [hK, show Y1 13 = 0 from rfl]; omega, fun e => by omega, fun e => by omega, fun e => by omega, fun e => by omega, fun e => by omega, fun e => by omega, fun e => by omega, fun e => by omega, fun e => by omega, fun e => by omega, fun _ => ⟨by omega, (r.2.2 0 (by omega)).2 (by omega)⟩, fun e => by omega, fun e => by omega, fun e => by omega, fun e => by omega⟩
 ·obtain ⟨b, h, p⟩ := c1k hT hx hk hK
  refine ⟨b, h, fun hb => ?_⟩
  obtain ⟨w, n, r⟩ := p hb
  exact ⟨by omega, by rw [hK, show Y3 14 = 0 from rfl]; omega, by rw [hK, show Y1 14 = 0 from rfl]; omega, fun e => by omega, fun e => by omega, fun e => by omega, fun e => by omega, fun e => by omega, fun e => by omega, fun _ => r, fun e => by omega, fun e => by omega, fun e => by omega, fun e => by omega, fun e => by omega, fun e => by omega, fun e => by omega, fun e => by omega⟩
 ·obtain ⟨b, h, p⟩ := b9t hT hx hk hK
  refine ⟨b, h, fun hb => ?_⟩
  obtain ⟨w, n, r⟩ := p hb
  exact ⟨by omega, by rw [hK, show Y3 15 = 0 from rfl]; omega, by rw [hK, show Y1 15 = 0 from rfl]; omega, fun e => by omega, fun e => by omega, fun e => by omega, fun e => by omega, fun e => by omega, fun e => by omega, fun _ => r, fun e => by omega, fun e => by omega, fun e => by omega, fun e => by omega, fun e => by omega, fun e => by omega, fun e => by omega, fun e => by omega⟩
 ·obtain ⟨b, h, p⟩ := b43 hT hx hk hK
  refine ⟨b, h, fun hb => ?_⟩
  obtain ⟨w, n, r⟩ := p hb
  exact ⟨by omega, by rw [hK, show Y3 16 = 0 from rfl]; omega, by rw [hK, show Y1 16 = 0 from rfl]; omega, fun e => by omega, fun e => by omega, fun e => by omega, fun e => by omega, fun e => by omega, fun e => by omega, fun e => by omega, fun e => by omega, fun e => by omega, fun e => by omega, fun e => by omega, fun _ => b3o r, fun e => by omega, fun e => by omega, fun e => by omega⟩
 ·obtain ⟨b, h, p⟩ := b5V hT hx hk hK
  refine ⟨b, h, fun hb => ?_⟩
  obtain ⟨w, n, r⟩ := p hb
  exact ⟨by omega, by rw [hK, show Y3 17 = 0 from rfl]; omega, by rw [hK, show Y1 17 = 1 from rfl]; omega, fun e => by omega, fun e => by omega, fun e => by omega, fun e => by omega, fun e => by omega, fun e => by omega, fun _ => r, fun e => by omega, fun e => by omega, fun e => by omega, fun e => by omega, fun e => by omega, fun e => by omega, fun e => by omega, fun _ => a10 (by omega) n.2⟩
 ·obtain ⟨b, h, p⟩ := b7J hT hx hk hK
  refine ⟨b, h, fun hb => ?_⟩
  obtain ⟨w, n, r⟩ := p hb
  exact ⟨by omega, by rw [hK, show Y3 18 = 1 from rfl]; omega, by rw [hK, show Y1 18 = 0 from rfl]; omega, fun e => by omega, fun e => by omega, fun e => by omega, fun e => by omega, fun e => by omega, fun e => by omega, fun _ => r, fun e => by omega, fun e => by omega, fun e => by omega, fun e => by omega, fun e => by omega, fun e => by omega, fun e => by omega, fun e => by omega⟩
 ·obtain ⟨b, h, p⟩ := b9f hT hx hk hK
  refine ⟨b, h, fun hb => ?_⟩
  obtain ⟨w, n, r⟩ := p hb
  exact ⟨by omega, by rw [hK, show Y3 19 = 1 from rfl]; omega, by rw [hK, show Y1 19 = 0 from rfl]; omega, fun e => by omega, fun e => by omega, fun e => by omega, fun e => by omega, fun e => by omega, fun e => by omega, fun _ => r, fun e => by omega, fun e => by omega, fun e => by omega, fun e => by omega, fun e => by omega, fun e => by omega, fun e => by omega, fun e => by omega⟩
 ·obtain ⟨b, h, p⟩ := b63 hT hx hk hK
  refine ⟨b, h, fun hb => ?_⟩
  obtain ⟨w, n, r⟩ := p hb
  exact ⟨by omega, by rw [hK, show Y3 20 = 0 from rfl]; omega, by rw [hK, show Y1 20 = 0 from rfl]; omega, fun e => by omega, fun e => by omega, fun e => by omega, fun e => by omega, fun e => by omega, fun _ => ⟨by omega, (r.2.2 0 (by omega)).1 (by omega)⟩, fun e => by omega, fun e => by omega, fun e => by omega, fun e => by omega, fun e => by omega, fun e => by omega, fun e => by omega, fun e => by omega, fun e => by omega⟩
 ·obtain ⟨b, h, p⟩ := c2x hT hx hk hK
  refine ⟨b, h, fun hb => ?_⟩
  obtain ⟨w, n, r⟩ := p hb
  exact ⟨by omega, by rw [hK, show Y3 21 = 0 from rfl]; omega, by rw [hK, show Y1 21 = 0 from rfl]; omega, fun e => by omega, fun e => by omega, fun e => by omega, fun e => by omega, fun e => by omega, fun _ => ⟨by omega, (r.2.2 0 (by omega)).1 (by omega)⟩, fun e => by omega, fun e => by omega, fun e => by omega, fun e => by omega, fun e => by omega, fun e => by omega, fun e => by omega, fun e => by omega, fun e => by omega⟩
 ·obtain ⟨b, h, p⟩ := b4z hT hx hk hK
  refine ⟨b, h, fun hb => ?_⟩
  obtain ⟨w, n, r⟩ := p hb
  exact ⟨by omega, by rw [hK, show Y3 22 = 0 from rfl]; omega, by rw [hK, show Y1 22 = 1 from rfl]; omega, fun e => by omega, fun e => by omega, fun e => by omega, fun e => by omega, fun e => by omega, fun e => by omega, fun e => by omega, fun e => by omega, fun e => by omega, fun e => by omega, fun e => by omega, fun e => by omega, fun _ => ⟨by omega, (r.2.2 0 (by omega)).1 (by omega), (r.2.2 1 (by omega)).1 (by omega), (a10 (by omega) n.2).1, (a10 (by omega) n.2).2⟩, fun e => by omega, fun e => by omega⟩
theorem b3I {d : D} {t : List Nd} (hT : N7 d t) (hl : t.length <= 800) : ∀ (f i : Nat), f <= 20 -> i < t.length -> Iso 60 [d, .int .i64 (i : Int), .int .i64 ((21 - f : Nat) : Int)] (.tup [.int .i64 ((Q9 t f i).1 : Int), .bool (Q9 t f i).2])
 | 0, i, _, hi => by
   refine a1Q ?_
   have e : (((21 - 0 : Nat)) : Int) = 21 := rfl
   rw [e]
   refine M8 (vf := a49) rfl ?_
   unfold a49; refine zE ?_
   try refine zW0 ?_
   exact ⟨.inr trivial, _, rR, rfl⟩
 | f + 1, i, hf, hi => by
   refine a1Q ?_
   have hidx := hT.at (z := (i : Int)) (by omega) (by omega) (k := .i64)
   rw [Int.toNat_natCast] at hidx
   have hx := hT.nd hi
   have o1 := FL.one hx.w
   have o2 := FL.one hx.n
   have o3 := FL.one hx.k
   have hlk := FI.len hx.k
   have hlen := hT.len
   have e1 : ((20 : Int) < ((21 - (f + 1) : Nat) : Int)) = False := eq_false (by omega)
   have e2 : IntKind.i64.wrap ((i : Int) + 1) = ((i + 1 : Nat) : Int) := by rw [O4 (by omega) (by omega)]; omega
   have e3 : IntKind.i64.wrap (((21 - (f + 1) : Nat) : Int) + 1) = ((21 - f : Nat) : Int) := by rw [O4 (by omega) (by omega)]; omega
   have key : ∀ (n : Nat) (P : Nat × Bool), Q9 t (f + 1) i = P -> True := fun _ _ _ => trivial
   refine M8 (vf := a49) rfl ?_
   unfold a49; refine zE ?_
   try refine zW (aN e1 e2) ?_
   refine S9 (Q := N4 0 _) (fun n env s => ∃ j next : Nat, j <= (nd t i).kids.length /\ n = (nd t i).kids.length - j /\ next <= t.length /\ Q9 t (f + 1) i = a1z (Q9 t f) t.length ((nd t i).kids.drop j) next /\ (env.get 0 = d /\ env.get 1 = .int .i64 (i : Int) /\ env.get 2 = .int .i64 ((21 - (f + 1) : Nat) : Int) /\ env.get 8 = .int .i64 (next : Int) /\ env.get 9 = .int .i64 (j : Int))) ?_ (nd t i).kids.length _ _ ⟨0, i + 1, by omega, rfl, by omega, rfl, by simp [Env.get]⟩
   rintro n env s ⟨j, next, hj, rfl, hn, hw, hE⟩
   by_cases c1 : j < (nd t i).kids.length
   ·have c1' : ((j : Int) < ((nd t i).kids.length : Int)) = True := eq_true (by omega)
    have hki := FI.idx hx.k c1 (k := .i64)
    have hs := a1v c1 hx.kl
    rw [List.drop_eq_getElem_cons c1] at hw
    unfold a1z at hw
    by_cases c2 : (nd t i).kids[j] = (next : Int)
    ·have c2' : ((nd t i).kids[j] != (next : Int)) = false := by rw [c2]; simp
     by_cases c3 : next < t.length
     ·have c3' : ((t.length : Int) <= (next : Int)) = False := eq_false (by omega)
      rw [if_neg (by omega)] at hw
      have hrec := b3I hT hl f next (by omega) c3
      obtain ⟨s1, hrec⟩ := hrec
      have hwl := b09 f c3
      cases hb : (Q9 t f next).2
      ·rw [hb] at hrec hw
       rw [if_neg (by simp)] at hw
       repeat first
       |(refine a1I (l := [d, .int .i64 (next : Int), .int .i64 ((21 - f : Nat) : Int)]) ?_ (fz3 hT.fz M3 M3) hrec rfl rfl ?_; (focus (simp only [Env.evL, Env.ev, Env.get, Nat.reduceEqDiff, ↓reduceIte, hE])))
       |refine zW (aN hE (aN e1 (aN hidx (aN o1 (aN o2 (aN o3 (aN hlk (aN hlen (aN c1' (aN hki (aN c2' (aN c3' e3)))))))))))) ?_
       exact ⟨.inr trivial, _, rR, by rw [hw]⟩
      ·rw [hb] at hrec hw
       rw [if_pos rfl] at hw
       repeat first
       |(refine a1I (l := [d, .int .i64 (next : Int), .int .i64 ((21 - f : Nat) : Int)]) ?_ (fz3 hT.fz M3 M3) hrec rfl rfl ?_; (focus (simp only [Env.evL, Env.ev, Env.get, Nat.reduceEqDiff, ↓reduceIte, hE])))
       |refine zW (aN hE (aN e1 (aN hidx (aN o1 (aN o2 (aN o3 (aN hlk (aN hlen (aN c1' (aN hki (aN c2' (aN c3' (aN e3 hs))))))))))))) ?_
       exact ⟨(nd t i).kids.length - (j + 1), by omega, j + 1, (Q9 t f next).1, by omega, rfl, hwl, hw, (rG hE)⟩
     ·have c3' : ((t.length : Int) <= (next : Int)) = True := eq_true (by omega)
      rw [if_pos (by omega)] at hw
      try refine zW (aN hE (aN e1 (aN hidx (aN o1 (aN o2 (aN o3 (aN hlk (aN hlen (aN c1' (aN hki (aN c2' c3'))))))))))) ?_
      exact ⟨.inr trivial, _, rR, by rw [hw]⟩
    ·have c2' : ((nd t i).kids[j] != (next : Int)) = true := by rw [bne_iff_ne]; exact c2
     rw [if_pos (by omega)] at hw
     try refine zW (aN hE (aN e1 (aN hidx (aN o1 (aN o2 (aN o3 (aN hlk (aN hlen (aN c1' (aN hki c2')))))))))) ?_
     exact ⟨.inr trivial, _, rR, by rw [hw]⟩
   ·have c1' : ((j : Int) < ((nd t i).kids.length : Int)) = False := eq_false (by omega)
    rw [List.drop_eq_nil_of_le (by omega)] at hw
    try refine zW (aN hE (aN e1 (aN hidx (aN o1 (aN o2 (aN o3 (aN hlk (aN hlen c1')))))))) ?_
    exact ⟨.inr trivial, _, rR, by rw [hw]; rfl⟩
theorem b5S {d : D} {t : List Nd} (hT : N7 d t) : P5 35 [d] fun _ => True := by
 refine Q3 ?_
 have hlen := hT.len
 refine M8 (vf := a8e) rfl ?_
 unfold a8e; refine zE ?_
 try refine zW hlen ?_
 refine S9 (Q := N4 0 _) (fun n env s => ∃ (i : Nat) (m : Int), i <= t.length /\ n = t.length - i /\ (env.get 0 = d /\ env.get 3 = .int .i64 m /\ env.get 4 = .int .i64 (i : Int))) ?_ t.length _ _ ⟨0, _, by omega, rfl, by simp [Env.get]; rfl⟩
 rintro n env s ⟨i, m, hi, rfl, hE⟩
 by_cases c1 : i < t.length
 ·have c1' : ((i : Int) < (t.length : Int)) = True := eq_true (by omega)
  have hs := a1v c1 hT.le
  have hidx := hT.at (z := (i : Int)) (by omega) (by omega) (k := .i64)
  rw [Int.toNat_natCast] at hidx
  have hx := hT.nd c1
  have o1 := FL.one hx.w
  have o2 := FL.one hx.n
  have o3 := FL.one hx.k
  have l1 := FS.len hx.w
  have l2 := FI.len hx.n
  have l3 := FI.len hx.k
  by_cases c2 : m <= 1500
  ·try refine zW (aN hE (aN hlen (aN c1' (aN c2 (aN hidx (aN o1 (aN o2 (aN o3 (aN l1 (aN l2 (aN l3 hs))))))))))) ?_
   exact ⟨t.length - (i + 1), by omega, i + 1, _, by omega, rfl, by simp only [Env.get, Nat.reduceEqDiff, ↓reduceIte, hE, and_self, true_and, and_true]; rfl⟩
  ·try refine zW (aN hE (aN hlen (aN c1' c2))) ?_
   exact ⟨.inr trivial, _, rR, _, rfl, trivial⟩
 ·have c1' : ((i : Int) < (t.length : Int)) = False := eq_false (by omega)
  try refine zW (aN hE (aN hlen c1')) ?_
  exact ⟨.inr trivial, _, rR, _, rfl, trivial⟩
theorem b7p {d : D} {t : List Nd} (hT : N7 d t) : P5 36 [d] fun b => b = true -> O0 t := by
 refine Q3 ?_
 have hlen := hT.len
 by_cases c1 : t.length = 0
 ·have c1' : ((t.length : Int) == 0) = true := by rw [c1]; rfl
  refine M8 (vf := a1l) rfl ?_
  unfold a1l; refine zE ?_
  try refine zW (aN hlen c1') ?_
  exact ⟨.inr trivial, _, rR, _, rfl, by simp⟩
 have c1' : ((t.length : Int) == 0) = false := by rw [beq_eq_false_iff_ne]; omega
 by_cases c2 : 800 < t.length
 ·have c2' : ((800 : Int) < (t.length : Int)) = True := eq_true (by omega)
  refine M8 (vf := a1l) rfl ?_
  unfold a1l; refine zE ?_
  try refine zW (aN hlen (aN c1' c2')) ?_
  exact ⟨.inr trivial, _, rR, _, rfl, by simp⟩
 have c2' : ((800 : Int) < (t.length : Int)) = False := eq_false (by omega)
 have h0 := hT.at (z := 0) (by omega) (by omega) (k := .i64)
 have x0 := hT.nd (i := 0) (by omega)
 have z0 : (0 : Int).toNat = 0 := rfl
 rw [z0] at h0
 have o1 := FL.one x0.w
 have o2 := FL.one x0.n
 have o3 := FL.one x0.k
 by_cases c3 : (nd t 0).kind = 0
 ·have c3' : ((nd t 0).kind != 0) = false := by rw [c3]; rfl
  obtain ⟨s1, hw⟩ := b3I hT (by omega) 20 0 (by omega) (by omega)
  have e21 : ((21 - 20 : Nat) : Int) = 1 := rfl
  have e00 : ((0 : Nat) : Int) = 0 := rfl
  rw [e21, e00] at hw
  cases hb : (Q9 t 20 0).2
  ·rw [hb] at hw
   refine M8 (vf := a1l) rfl ?_
   unfold a1l; refine zE ?_
   repeat first
   |(refine a1I (l := [d, .int .i64 0, .int .i64 1]) rfl (fz3 hT.fz M3 M3) hw rfl rfl ?_)
   |refine zW (aN hlen (aN c1' (aN c2' (aN h0 (aN o1 (aN o2 (aN o3 c3'))))))) ?_
   exact ⟨.inr trivial, _, rR, _, rfl, by simp⟩
  ·rw [hb] at hw
   by_cases c4 : (Q9 t 20 0).1 = t.length
   ·have c4' : (((Q9 t 20 0).1 : Int) != (t.length : Int)) = false := by rw [c4]; simp
    have hfull : Q9 t 20 0 = (t.length, true) := by rw [<- c4, <- hb]
    obtain ⟨hsub, hsubs⟩ := a19 20 (by omega) hfull
    have hbe : ∀ i, i < t.length -> ∀ k ∈ (nd t i).kids, (i : Int) < k /\ k < (t.length : Int) := fun i hi k hk => hsub.down i (by omega) hi k hk
    refine M8 (vf := a1l) rfl ?_
    unfold a1l; refine zE ?_
    repeat first
    |(refine a1I (l := [d, .int .i64 0, .int .i64 1]) rfl (fz3 hT.fz M3 M3) hw rfl rfl ?_)
    |refine zW (aN hlen (aN c1' (aN c2' (aN h0 (aN o1 (aN o2 (aN o3 (aN c3' c4')))))))) ?_
    refine S9 (Q := N4 0 _) (fun n env s => ∃ i : Nat, i <= t.length /\ n = t.length - i /\ (∀ j, j < i -> a51 t (nd t j)) /\ (env.get 0 = d /\ env.get 5 = .int .i64 (i : Int))) ?_ t.length _ _ ⟨0, by omega, rfl, fun j h => by omega, by simp [Env.get]⟩
    rintro n env s ⟨i, hi, rfl, hall, hE⟩
    by_cases c5 : i < t.length
    ·have c5' : ((i : Int) < (t.length : Int)) = True := eq_true (by omega)
     have hs := a1v c5 hT.le
     have hidx := hT.at (z := (i : Int)) (by omega) (by omega) (k := .i64)
     rw [Int.toNat_natCast] at hidx
     have hx := hT.nd c5
     have p1 := FL.one hx.w
     have p2 := FL.one hx.n
     have p3 := FL.one hx.k
     obtain ⟨b, hn, hp⟩ := b8m hT hx (fun k hk => by have := hbe i c5 k hk; omega)
     have hz := hx.fz
     unfold Nd.row at hn hz
     cases b
     ·repeat first
      |(apply M5 hn rfl; (focus (simp only [Env.evL, Env.ev, Env.get, Nat.reduceEqDiff, ↓reduceIte, hE])); (focus exact fz2 hT.fz hz))
      |refine zW (aN hE (aN hlen (aN c5' (aN hidx (aN p1 (aN p2 p3)))))) ?_
      exact ⟨.inr trivial, _, rR, _, rfl, by simp⟩
     ·repeat first
      |(apply M5 hn rfl; (focus (simp only [Env.evL, Env.ev, Env.get, Nat.reduceEqDiff, ↓reduceIte, hE])); (focus exact fz2 hT.fz hz))
      |refine zW (aN hE (aN hlen (aN c5' (aN hidx (aN p1 (aN p2 (aN p3 hs))))))) ?_
      refine ⟨t.length - (i + 1), by omega, i + 1, by omega, rfl, fun j h => ?_, (rG hE)⟩
      by_cases e : j = i
      ·subst e; exact hp rfl
      ·exact hall j (by omega)
    ·have c5' : ((i : Int) < (t.length : Int)) = False := eq_false (by omega)
     try refine zW (aN hE (aN hlen c5')) ?_
     exact ⟨.inr trivial, _, rR, _, rfl, fun _ => ⟨⟨by omega, by omega, c3, hbe, fun j h => hall j (by omega)⟩, hsubs, hfull⟩⟩
   ·have c4' : (((Q9 t 20 0).1 : Int) != (t.length : Int)) = true := by rw [bne_iff_ne]; omega
    refine M8 (vf := a1l) rfl ?_
    unfold a1l; refine zE ?_
    repeat first
    |(refine a1I (l := [d, .int .i64 0, .int .i64 1]) rfl (fz3 hT.fz M3 M3) hw rfl rfl ?_)
    |refine zW (aN hlen (aN c1' (aN c2' (aN h0 (aN o1 (aN o2 (aN o3 (aN c3' c4')))))))) ?_
    exact ⟨.inr trivial, _, rR, _, rfl, by simp⟩
 ·have c3' : ((nd t 0).kind != 0) = true := by rw [bne_iff_ne]; exact c3
  refine M8 (vf := a1l) rfl ?_
  unfold a1l; refine zE ?_
  try refine zW (aN hlen (aN c1' (aN c2' (aN h0 (aN o1 (aN o2 (aN o3 c3'))))))) ?_
  exact ⟨.inr trivial, _, rR, _, rfl, by simp⟩
end Go.Proofs.YtnjlhebkhjcagaaGreat
namespace Go.Proofs.YtnjlhebkhjcagaaGreat
open Go.V
set_option maxRecDepth 100000
set_option maxHeartbeats 4000000
theorem b4Q {d : D} {l : List ByteArray} (h : Rd M1.empty d (l.map .str)) : FS d l := by
 rcases h with ⟨rfl, h⟩ | rfl | ⟨id, off, cs, rfl, h, _⟩
 ·left; exact ⟨rfl, by simpa using h⟩
 ·right; simp
 ·simp at h
theorem b3N {s : M1} {d : D} {l : List ByteArray} {ids : List Nat} (h : Sl s d (l.map .str) ids) : ∃ d', V.ice s.get 20 d = some d' /\ FS d' l := by
 obtain ⟨d', h1, h2⟩ := h.rd.ice (by simp [Y0])
 exact ⟨d', h1, b4Q h2⟩
theorem b8X {l : List ByteArray} {x : ByteArray} {i : Nat} (h : i < l.length) : inB (l.take (i + 1)) x = (inB (l.take i) x || decide (l[i] = x)) := by
 unfold inB
 rw [List.take_succ_eq_append_getElem h, List.any_append]; simp
theorem a0S {d : D} {l : List ByteArray} {x : ByteArray} (hd : FS d l) (hl : l.length <= maxLen) : Iso 127 [d, .str x] (.bool (inB l x)) := by
 refine a1Q ?_
 have hlen := FS.len hd
 refine M8 (vf := a8Z) rfl ?_
 unfold a8Z; refine zE ?_
 try refine zW0 ?_
 refine S9 (Q := N4 0 _) (fun n env s => ∃ i : Nat, i <= l.length /\ n = l.length - i /\ inB (l.take i) x = false /\ (env.get 0 = d /\ env.get 1 = .str x /\ env.get 5 = .int .i64 (i : Int))) ?_ l.length _ _ ⟨0, by omega, rfl, by simp [inB], by simp [Env.get]⟩
 rintro n env s ⟨i, hi, rfl, hn, hE⟩
 by_cases c1 : i < l.length
 ·have c1' : ((i : Int) < (l.length : Int)) = True := eq_true (by omega)
  have hs := a1v c1 hl
  have hidx := FS.idx hd c1 (k := .i64)
  have ht := b8X (x := x) c1
  rw [hn] at ht
  by_cases c2 : l[i] = x
  ·try refine zW (aN hE (aN hlen (aN c1' (aN hidx c2)))) ?_
   refine ⟨.inr trivial, _, rR, ?_⟩
   have : inB l x = true := by rw [a7O]; exact c2 ▸ List.getElem_mem c1
   rw [this]
  ·rw [decide_eq_false c2] at ht
   try refine zW (aN hE (aN hlen (aN c1' (aN hidx (aN c2 hs))))) ?_
   exact ⟨l.length - (i + 1), by omega, i + 1, by omega, rfl, by rw [ht]; rfl, (rG hE)⟩
 ·have c1' : ((i : Int) < (l.length : Int)) = False := eq_false (by omega)
  rw [List.take_of_length_le (by omega)] at hn
  try refine zW (aN hE (aN hlen c1')) ?_
  exact ⟨.inr trivial, _, rR, by rw [hn]⟩
theorem a68 {d : D} {t : List Nd} (hT : N7 d t) (hR : O0 t) {i : Nat} (hi : i < t.length) : Iso 140 [d, .int .i64 (i : Int)] (.int .i64 (item t i : Int)) := by
 refine a1Q ?_
 have hp := hR.ok.pos
 have h0 := hT.at (z := 0) (by omega) (by omega) (k := .i64)
 have x0 := hT.nd (i := 0) (by omega)
 have z0 : (0 : Int).toNat = 0 := rfl
 rw [z0] at h0
 have o1 := FL.one x0.w
 have o2 := FL.one x0.n
 have o3 := FL.one x0.k
 have hlk := FI.len x0.k
 refine M8 (vf := a9C) rfl ?_
 unfold a9C; refine zE ?_
 try refine zW0 ?_
 refine S9 (Q := N4 0 _) (fun n env s => ∃ j out : Nat, j <= (nd t 0).kids.length /\ n = (nd t 0).kids.length - j /\ item t i = a09 ((nd t 0).kids.drop j) i out /\ (env.get 0 = d /\ env.get 1 = .int .i64 (i : Int) /\ env.get 5 = .int .i64 (out : Int) /\ env.get 6 = .int .i64 (j : Int))) ?_ (nd t 0).kids.length _ _ ⟨0, 0, by omega, rfl, rfl, by simp [Env.get]⟩
 rintro n env s ⟨j, out, hj, rfl, hw, hE⟩
 by_cases c1 : j < (nd t 0).kids.length
 ·have c1' : ((j : Int) < ((nd t 0).kids.length : Int)) = True := eq_true (by omega)
  have hki := FI.idx x0.k c1 (k := .i64)
  have hs := a1v c1 x0.kl
  have hkr := hR.ok.kids 0 hp _ (List.getElem_mem c1)
  rw [List.drop_eq_getElem_cons c1] at hw
  unfold a09 at hw
  by_cases c2 : (nd t 0).kids[j] <= (i : Int)
  ·rw [if_pos c2] at hw
   have hk : (((nd t 0).kids[j].toNat : Nat) : Int) = (nd t 0).kids[j] := Int.toNat_of_nonneg (by omega)
   try refine zW (aN hE (aN h0 (aN o1 (aN o2 (aN o3 (aN hlk (aN c1' (aN hki (aN c2 hs))))))))) ?_
   exact ⟨(nd t 0).kids.length - (j + 1), by omega, j + 1, _, by omega, rfl, hw, by simp only [Env.get, Nat.reduceEqDiff, ↓reduceIte, hE, hk, and_self]⟩
  ·rw [if_neg c2] at hw
   try refine zW (aN hE (aN h0 (aN o1 (aN o2 (aN o3 (aN hlk (aN c1' (aN hki (aN c2 hs))))))))) ?_
   exact ⟨(nd t 0).kids.length - (j + 1), by omega, j + 1, _, by omega, rfl, hw, (rG hE)⟩
 ·have c1' : ((j : Int) < ((nd t 0).kids.length : Int)) = False := eq_false (by omega)
  rw [List.drop_eq_nil_of_le (by omega)] at hw
  try refine zW (aN hE (aN h0 (aN o1 (aN o2 (aN o3 (aN hlk c1')))))) ?_
  exact ⟨.inr trivial, _, rR, by rw [hw]; rfl⟩
theorem a7H (t : List Nd) (at' : Nat) (kind : Int) : ∀ n, (U2 t at' kind n).length <= n
 | 0 => Nat.le_refl _
 | n + 1 => by
   have := a7H t at' kind n
   rw [U2]
   split
   ·simp; exact this
   ·omega
def b3b (f : Nat) (l : List D) (x : List ByteArray) : Prop := ∃ s1 r d', Ev vfs f l M1.empty r s1 /\ V.ice s1.get 20 r = some d' /\ FS d' x
theorem W3 {pairs i t f args rest s Q} {env : Env} {l : List D} {x : List ByteArray} (hr : b3b f l x) (hl : env.evL args = l) (ha : N2 (V.ice s.get 20) l = some l) (hp : pureL l = true)
 (h : ∀ d, FS d x -> WQ vfs pairs rest ((t, d) :: env) s Q) : WQ vfs pairs ((i, ⟨some t, .m (.call .iso (.cst (.fn f [])) args), none⟩) :: rest) env s Q := by
 obtain ⟨s1, r, d', h1, h2, h3⟩ := hr
 exact a1I hl ha h1 h2 (by rw [hp, Bool.or_true]) (h d' h3)
theorem W2 {d : D} {t : List Nd} (hT : N7 d t) (hR : O0 t) {i : Nat} (hi : i < t.length) {kind : Int} (hk : kind = 1 ∨ kind = 2 ∨ kind = 3) : b3b 126 [d, .int .i64 (i : Int), .int .i64 kind] (U2 t i kind i) := by
 have main : EvP vfs 126 [d, .int .i64 (i : Int), .int .i64 kind] M1.empty fun r s' => ∃ ids, Sl s' r ((U2 t i kind i).map .str) ids := by
  have hit := a68 hT hR hi
  have hle := hR.ok.le
  refine M8 (vf := a7f) rfl ?_
  unfold a7f; refine zE ?_
  repeat first
  |(apply M5 hit rfl rfl (fz2 hT.fz M3))
  |refine zW0 ?_
  refine S9 (Q := N4 0 _) (fun n env s => ∃ (j : Nat) (dn : D) (ids : List Nat), j <= i /\ n = i - j /\ Sl s dn ((U2 t i kind j).map .str) ids /\ (env.get 0 = d /\ env.get 1 = .int .i64 (i : Int) /\ env.get 2 = .int .i64 kind /\ env.get 7 = dn /\ env.get 8 = .int .i64 (item t i : Int) /\ env.get 9 = .int .i64 (j : Int))) ?_ i _ _ ⟨0, .nils, [], by omega, rfl, .inl ⟨rfl, rfl, rfl⟩, by simp [Env.get]⟩
  rintro n env s ⟨j, dn, ids, hj, rfl, hS, hE⟩
  have hnl := a7H t i kind j
  by_cases c1 : j < i
  ·have c1' : ((j : Int) < (i : Int)) = True := eq_true (by omega)
   have hs : IntKind.i64.wrap ((j : Int) + 1) = ((j + 1 : Nat) : Int) := by rw [O4 (by omega) (by omega)]; omega
   have hidx := hT.at (z := (j : Int)) (by omega) (by omega) (k := .i64)
   rw [Int.toNat_natCast] at hidx
   have hx := hT.nd (i := j) (by omega)
   have o1 := FL.one hx.w
   have o2 := FL.one hx.n
   have o3 := FL.one hx.k
   have hnode := hR.ok.node j (by omega)
   have hitj := a68 hT hR (i := j) (by omega)
   by_cases c2 : (nd t j).kind = kind
   ·have c2' : ((nd t j).kind != kind) = false := by rw [c2]; simp
    have hwl : (nd t j).words.length = 1 := by
     rw [hnode.wl, c2]
     rcases hk with rfl | rfl | rfl <;> rfl
    have hw0 : N3 1 (nd t j).dw (.int .i64 0) = some (.fp [.str ((nd t j).word 0)] 0) := by
     rw [a1Z (by omega)]; exact FS.idx hx.w (i := 0) (by omega)
    obtain ⟨dn', hi1, hi2⟩ := b3N hS
    obtain ⟨s1, hin⟩ := a0S (x := (nd t j).word 0) hi2 (by have : maxLen = 9223372036854775807 := rfl; omega)
    obtain ⟨s', d', e1, e2, e3, e4⟩ := hS.push1 (.str ((nd t j).word 0)) (bytes := 16) (by decide) (by rw [List.length_map]; omega)
    have hone := hS.one
    by_cases b1 : item t j = j
    ·have c3 : item t j = j ∨ item t j = item t i := .inl b1
     have b1' : (item t j = j) = True := eq_true b1
     cases hr : inB (U2 t i kind j) ((nd t j).word 0)
     ·rw [hr] at hin
      repeat first
      |(apply M5 hitj rfl; (focus (simp only [Env.evL, Env.ev, Env.get, Nat.reduceEqDiff, ↓reduceIte, hE])); (focus exact fz2 hT.fz M3))
      |(refine a1A (l := [dn, .str ((nd t j).word 0)]) hin rfl ?_ ?_ ?_; (focus (simp only [Env.evL, Env.ev, Env.get, Nat.reduceEqDiff, ↓reduceIte, hE])); (focus (simp only [N2, hi1]; rfl)))
      |(apply a8t; (focus (simp only [Env.ev, Env.get, Nat.reduceEqDiff, ↓reduceIte, hE]; rfl)); (focus rfl); (focus exact e1))
      |refine zW (aN hE (aN c1' (aN hidx (aN o1 (aN o2 (aN o3 (aN c2' (aN b1' (aN hw0 (aN hs hone)))))))))) ?_
      refine ⟨i - (j + 1), by omega, j + 1, d', [s.next + 1], by omega, rfl, ?_, (rG hE)⟩
      rw [U2, if_pos ⟨c2, c3, hr⟩, List.map_append]
      exact e2
     ·rw [hr] at hin
      repeat first
      |(apply M5 hitj rfl; (focus (simp only [Env.evL, Env.ev, Env.get, Nat.reduceEqDiff, ↓reduceIte, hE])); (focus exact fz2 hT.fz M3))
      |(refine a1A (l := [dn, .str ((nd t j).word 0)]) hin rfl ?_ ?_ ?_; (focus (simp only [Env.evL, Env.ev, Env.get, Nat.reduceEqDiff, ↓reduceIte, hE])); (focus (simp only [N2, hi1]; rfl)))
      |refine zW (aN hE (aN c1' (aN hidx (aN o1 (aN o2 (aN o3 (aN c2' (aN b1' (aN hw0 (aN hs hone)))))))))) ?_
      refine ⟨i - (j + 1), by omega, j + 1, dn, ids, by omega, rfl, ?_, (rG hE)⟩
      rw [U2, if_neg (by rw [hr]; simp)]
      exact hS
    ·have b1' : (item t j = j) = False := eq_false b1
     by_cases b2 : item t j = item t i
     ·have b2' : (item t j = item t i) = True := eq_true b2
      have c3 : item t j = j ∨ item t j = item t i := .inr b2
      cases hr : inB (U2 t i kind j) ((nd t j).word 0)
      ·rw [hr] at hin
       repeat first
       |(apply M5 hitj rfl; (focus (simp only [Env.evL, Env.ev, Env.get, Nat.reduceEqDiff, ↓reduceIte, hE])); (focus exact fz2 hT.fz M3))
       |(refine a1A (l := [dn, .str ((nd t j).word 0)]) hin rfl ?_ ?_ ?_; (focus (simp only [Env.evL, Env.ev, Env.get, Nat.reduceEqDiff, ↓reduceIte, hE])); (focus (simp only [N2, hi1]; rfl)))
       |(apply a8t; (focus (simp only [Env.ev, Env.get, Nat.reduceEqDiff, ↓reduceIte, hE]; rfl)); (focus rfl); (focus exact e1))
       |refine zW (aN hE (aN c1' (aN hidx (aN o1 (aN o2 (aN o3 (aN c2' (aN b1' (aN b2' (aN hw0 (aN hs hone))))))))))) ?_
       refine ⟨i - (j + 1), by omega, j + 1, d', [s.next + 1], by omega, rfl, ?_, (rG hE)⟩
       rw [U2, if_pos ⟨c2, c3, hr⟩, List.map_append]
       exact e2
      ·rw [hr] at hin
       repeat first
       |(apply M5 hitj rfl; (focus (simp only [Env.evL, Env.ev, Env.get, Nat.reduceEqDiff, ↓reduceIte, hE])); (focus exact fz2 hT.fz M3))
       |(refine a1A (l := [dn, .str ((nd t j).word 0)]) hin rfl ?_ ?_ ?_; (focus (simp only [Env.evL, Env.ev, Env.get, Nat.reduceEqDiff, ↓reduceIte, hE])); (focus (simp only [N2, hi1]; rfl)))
       |refine zW (aN hE (aN c1' (aN hidx (aN o1 (aN o2 (aN o3 (aN c2' (aN b1' (aN b2' (aN hw0 (aN hs hone))))))))))) ?_
       refine ⟨i - (j + 1), by omega, j + 1, dn, ids, by omega, rfl, ?_, (rG hE)⟩
       rw [U2, if_neg (by rw [hr]; simp)]
       exact hS
     ·have b2' : (item t j = item t i) = False := eq_false b2
      repeat first
      |(apply M5 hitj rfl; (focus (simp only [Env.evL, Env.ev, Env.get, Nat.reduceEqDiff, ↓reduceIte, hE])); (focus exact fz2 hT.fz M3))
      |refine zW (aN hE (aN c1' (aN hidx (aN o1 (aN o2 (aN o3 (aN c2' (aN b1' (aN b2' hs))))))))) ?_
      refine ⟨i - (j + 1), by omega, j + 1, dn, ids, by omega, rfl, ?_, (rG hE)⟩
      rw [U2, if_neg fun h => by rcases h.2.1 with h | h; exact b1 h; exact b2 h]
      exact hS
   ·have c2' : ((nd t j).kind != kind) = true := by rw [bne_iff_ne]; exact c2
    try refine zW (aN hE (aN c1' (aN hidx (aN o1 (aN o2 (aN o3 (aN c2' hs))))))) ?_
    refine ⟨i - (j + 1), by omega, j + 1, dn, ids, by omega, rfl, ?_, (rG hE)⟩
    rw [U2, if_neg fun h => c2 h.1]
    exact hS
  ·have c1' : ((j : Int) < (i : Int)) = False := eq_false (by omega)
   obtain rfl : j = i := by omega
   try refine zW (aN hE c1') ?_
   exact ⟨.inr trivial, _, rR, ids, hS⟩
 obtain ⟨r, s', h, ids, hS⟩ := main
 obtain ⟨d', h1, h2⟩ := b3N hS
 exact ⟨s', r, d', h, h1, h2⟩
end Go.Proofs.YtnjlhebkhjcagaaGreat
namespace Go.Proofs.YtnjlhebkhjcagaaGreat
open Go.V
set_option maxRecDepth 100000
set_option maxHeartbeats 4000000
structure a11 (t : List Nd) (i : Nat) : Prop where
 use : (nd t i).kind = 6 ∨ (nd t i).kind = 18 -> a0L t 2 i ((nd t i).word 0)
 chan : (nd t i).kind = 7 ∨ (nd t i).kind = 19 ∨ (nd t i).kind = 8 -> a0L t 1 i ((nd t i).word 0)
 recv : (nd t i).kind = 8 -> a0L t 2 i ((nd t i).word 1)
 once : (nd t i).kind = 1 ∨ (nd t i).kind = 2 ∨ (nd t i).kind = 3 -> ¬ a0L t 1 i ((nd t i).word 0) /\ ¬ a0L t 2 i ((nd t i).word 0) /\ ¬ a0L t 3 i ((nd t i).word 0)
theorem a3c {t : List Nd} {i : Nat} {k : Int} {s : ByteArray} : inB (U2 t i k i) s = true ↔ a0L t k i s := by rw [a7O, b1n]; rfl
theorem a2z {t : List Nd} {i : Nat} {k : Int} {s : ByteArray} : inB (U2 t i k i) s = false ↔ ¬ a0L t k i s := by rw [<- a3c]; simp
theorem a0Y {t : List Nd} (hR : O0 t) {i : Nat} {k : Int} (hi : i < t.length) : (U2 t i k i).length <= maxLen := by
 have h1 := a7H t i k i
 have h2 := hR.ok.le
 have : maxLen = 9223372036854775807 := rfl
 omega
theorem b9C {d : D} {t : List Nd} (hT : N7 d t) (hR : O0 t) {i : Nat} (hi : i < t.length) (hK : (nd t i).kind = 1) : P5 109 [d, .int .i64 (i : Int)] fun b => b = false -> a11 t i := by
 refine Q3 ?_
 have hidx := hT.at (z := (i : Int)) (by omega) (by omega) (k := .i64)
 rw [Int.toNat_natCast] at hidx
 have hx := hT.nd hi
 have hnode := hR.ok.node i hi
 have o1 := FL.one hx.w
 have o2 := FL.one hx.n
 have o3 := FL.one hx.k
 have hpu : ∀ n m : Int, pureL [d, .int .i64 n, .int .i64 m] = true := fun n m => by simp [pureL, S8, hT.fl.pure]
 have hwl : (nd t i).words.length = 1 := by rw [hnode.wl, hK]; rfl
 have w0 : N3 1 (nd t i).dw (.int .i64 0) = some (.fp [.str ((nd t i).word 0)] 0) := by
  rw [a1Z (by omega)]; exact FS.idx hx.w (i := 0) (by omega)
 rw [hK] at hidx
 refine M8 (vf := a0r) rfl ?_
 unfold a0r; refine zE ?_
 try refine zW (aN hidx (aN o1 (aN o2 o3))) ?_
 refine W3 (W2 hT hR hi (.inl rfl)) rfl (fz3 hT.fz M3 M3) (hpu _ _) ?_
 intro dc hdc
 try refine zW0 ?_
 refine W3 (W2 hT hR hi (.inr (.inl rfl))) rfl (fz3 hT.fz M3 M3) (hpu _ _) ?_
 intro dv hdv
 try refine zW0 ?_
 refine W3 (W2 hT hR hi (.inr (.inr rfl))) rfl (fz3 hT.fz M3 M3) (hpu _ _) ?_
 intro dp hdp
 have fc := FL.fz hdc
 have fv := FL.fz hdv
 have fp := FL.fz hdp
 have hc := a0S (x := (nd t i).word 0) hdc (a0Y hR hi)
 have hv := a0S (x := (nd t i).word 0) hdv (a0Y hR hi)
 have hp := a0S (x := (nd t i).word 0) hdp (a0Y hR hi)
 cases r1 : inB (U2 t i 1 i) ((nd t i).word 0)
 ·rw [r1] at hc
  cases r2 : inB (U2 t i 2 i) ((nd t i).word 0)
  ·rw [r2] at hv
   repeat first
   |(apply M5 hc rfl rfl (fz2 fc S5))
   |(apply M5 hv rfl rfl (fz2 fv S5))
   |(apply M5 hp rfl rfl (fz2 fp S5))
   |refine zW (aN o1 (aN o2 (aN o3 w0))) ?_
   exact ⟨.inr trivial, _, rR, _, rfl, fun h => ⟨fun e => by omega, fun e => by omega, fun e => by omega, fun _ => ⟨a2z.1 r1, a2z.1 r2, a2z.1 h⟩⟩⟩
  ·rw [r2] at hv
   repeat first
   |(apply M5 hc rfl rfl (fz2 fc S5))
   |(apply M5 hv rfl rfl (fz2 fv S5))
   |(apply M5 hp rfl rfl (fz2 fp S5))
   |refine zW (aN o1 (aN o2 (aN o3 w0))) ?_
   exact ⟨.inr trivial, _, rR, _, rfl, by simp⟩
 ·rw [r1] at hc
  repeat first
  |(apply M5 hc rfl rfl (fz2 fc S5))
  |(apply M5 hv rfl rfl (fz2 fv S5))
  |(apply M5 hp rfl rfl (fz2 fp S5))
  |refine zW (aN o1 (aN o2 (aN o3 w0))) ?_
  exact ⟨.inr trivial, _, rR, _, rfl, by simp⟩
theorem b7H {d : D} {t : List Nd} (hT : N7 d t) (hR : O0 t) {i : Nat} (hi : i < t.length) (hK : (nd t i).kind = 2) : P5 109 [d, .int .i64 (i : Int)] fun b => b = false -> a11 t i := by
 refine Q3 ?_
 have hidx := hT.at (z := (i : Int)) (by omega) (by omega) (k := .i64)
 rw [Int.toNat_natCast] at hidx
 have hx := hT.nd hi
 have hnode := hR.ok.node i hi
 have o1 := FL.one hx.w
 have o2 := FL.one hx.n
 have o3 := FL.one hx.k
 have hpu : ∀ n m : Int, pureL [d, .int .i64 n, .int .i64 m] = true := fun n m => by simp [pureL, S8, hT.fl.pure]
 have hwl : (nd t i).words.length = 1 := by rw [hnode.wl, hK]; rfl
 have w0 : N3 1 (nd t i).dw (.int .i64 0) = some (.fp [.str ((nd t i).word 0)] 0) := by
  rw [a1Z (by omega)]; exact FS.idx hx.w (i := 0) (by omega)
 rw [hK] at hidx
 refine M8 (vf := a0r) rfl ?_
 unfold a0r; refine zE ?_
 try refine zW (aN hidx (aN o1 (aN o2 o3))) ?_
 refine W3 (W2 hT hR hi (.inl rfl)) rfl (fz3 hT.fz M3 M3) (hpu _ _) ?_
 intro dc hdc
 try refine zW0 ?_
 refine W3 (W2 hT hR hi (.inr (.inl rfl))) rfl (fz3 hT.fz M3 M3) (hpu _ _) ?_
 intro dv hdv
 try refine zW0 ?_
 refine W3 (W2 hT hR hi (.inr (.inr rfl))) rfl (fz3 hT.fz M3 M3) (hpu _ _) ?_
 intro dp hdp
 have fc := FL.fz hdc
 have fv := FL.fz hdv
 have fp := FL.fz hdp
 have hc := a0S (x := (nd t i).word 0) hdc (a0Y hR hi)
 have hv := a0S (x := (nd t i).word 0) hdv (a0Y hR hi)
 have hp := a0S (x := (nd t i).word 0) hdp (a0Y hR hi)
 cases r1 : inB (U2 t i 1 i) ((nd t i).word 0)
 ·rw [r1] at hc
  cases r2 : inB (U2 t i 2 i) ((nd t i).word 0)
  ·rw [r2] at hv
   repeat first
   |(apply M5 hc rfl rfl (fz2 fc S5))
   |(apply M5 hv rfl rfl (fz2 fv S5))
   |(apply M5 hp rfl rfl (fz2 fp S5))
   |refine zW (aN o1 (aN o2 (aN o3 w0))) ?_
   exact ⟨.inr trivial, _, rR, _, rfl, fun h => ⟨fun e => by omega, fun e => by omega, fun e => by omega, fun _ => ⟨a2z.1 r1, a2z.1 r2, a2z.1 h⟩⟩⟩
  ·rw [r2] at hv
   repeat first
   |(apply M5 hc rfl rfl (fz2 fc S5))
   |(apply M5 hv rfl rfl (fz2 fv S5))
   |(apply M5 hp rfl rfl (fz2 fp S5))
   |refine zW (aN o1 (aN o2 (aN o3 w0))) ?_
   exact ⟨.inr trivial, _, rR, _, rfl, by simp⟩
 ·rw [r1] at hc
  repeat first
  |(apply M5 hc rfl rfl (fz2 fc S5))
  |(apply M5 hv rfl rfl (fz2 fv S5))
  |(apply M5 hp rfl rfl (fz2 fp S5))
  |refine zW (aN o1 (aN o2 (aN o3 w0))) ?_
  exact ⟨.inr trivial, _, rR, _, rfl, by simp⟩
theorem b9u {d : D} {t : List Nd} (hT : N7 d t) (hR : O0 t) {i : Nat} (hi : i < t.length) (hK : (nd t i).kind = 3) : P5 109 [d, .int .i64 (i : Int)] fun b => b = false -> a11 t i := by
 refine Q3 ?_
 have hidx := hT.at (z := (i : Int)) (by omega) (by omega) (k := .i64)
 rw [Int.toNat_natCast] at hidx
 have hx := hT.nd hi
 have hnode := hR.ok.node i hi
 have o1 := FL.one hx.w
 have o2 := FL.one hx.n
 have o3 := FL.one hx.k
 have hpu : ∀ n m : Int, pureL [d, .int .i64 n, .int .i64 m] = true := fun n m => by simp [pureL, S8, hT.fl.pure]
 have hwl : (nd t i).words.length = 1 := by rw [hnode.wl, hK]; rfl
 have w0 : N3 1 (nd t i).dw (.int .i64 0) = some (.fp [.str ((nd t i).word 0)] 0) := by
  rw [a1Z (by omega)]; exact FS.idx hx.w (i := 0) (by omega)
 rw [hK] at hidx
 refine M8 (vf := a0r) rfl ?_
 unfold a0r; refine zE ?_
 try refine zW (aN hidx (aN o1 (aN o2 o3))) ?_
 refine W3 (W2 hT hR hi (.inl rfl)) rfl (fz3 hT.fz M3 M3) (hpu _ _) ?_
 intro dc hdc
 try refine zW0 ?_
 refine W3 (W2 hT hR hi (.inr (.inl rfl))) rfl (fz3 hT.fz M3 M3) (hpu _ _) ?_
 intro dv hdv
 try refine zW0 ?_
 refine W3 (W2 hT hR hi (.inr (.inr rfl))) rfl (fz3 hT.fz M3 M3) (hpu _ _) ?_
 intro dp hdp
 have fc := FL.fz hdc
 have fv := FL.fz hdv
 have fp := FL.fz hdp
 have hc := a0S (x := (nd t i).word 0) hdc (a0Y hR hi)
 have hv := a0S (x := (nd t i).word 0) hdv (a0Y hR hi)
 have hp := a0S (x := (nd t i).word 0) hdp (a0Y hR hi)
 cases r1 : inB (U2 t i 1 i) ((nd t i).word 0)
 ·rw [r1] at hc
  cases r2 : inB (U2 t i 2 i) ((nd t i).word 0)
  ·rw [r2] at hv
   repeat first
   |(apply M5 hc rfl rfl (fz2 fc S5))
   |(apply M5 hv rfl rfl (fz2 fv S5))
   |(apply M5 hp rfl rfl (fz2 fp S5))
   |refine zW (aN o1 (aN o2 (aN o3 w0))) ?_
   exact ⟨.inr trivial, _, rR, _, rfl, fun h => ⟨fun e => by omega, fun e => by omega, fun e => by omega, fun _ => ⟨a2z.1 r1, a2z.1 r2, a2z.1 h⟩⟩⟩
  ·rw [r2] at hv
   repeat first
   |(apply M5 hc rfl rfl (fz2 fc S5))
   |(apply M5 hv rfl rfl (fz2 fv S5))
   |(apply M5 hp rfl rfl (fz2 fp S5))
   |refine zW (aN o1 (aN o2 (aN o3 w0))) ?_
   exact ⟨.inr trivial, _, rR, _, rfl, by simp⟩
 ·rw [r1] at hc
  repeat first
  |(apply M5 hc rfl rfl (fz2 fc S5))
  |(apply M5 hv rfl rfl (fz2 fv S5))
  |(apply M5 hp rfl rfl (fz2 fp S5))
  |refine zW (aN o1 (aN o2 (aN o3 w0))) ?_
  exact ⟨.inr trivial, _, rR, _, rfl, by simp⟩
theorem c3S {d : D} {t : List Nd} (hT : N7 d t) (hR : O0 t) {i : Nat} (hi : i < t.length) (hK : (nd t i).kind = 6) : P5 109 [d, .int .i64 (i : Int)] fun b => b = false -> a11 t i := by
 refine Q3 ?_
 have hidx := hT.at (z := (i : Int)) (by omega) (by omega) (k := .i64)
 rw [Int.toNat_natCast] at hidx
 have hx := hT.nd hi
 have hnode := hR.ok.node i hi
 have o1 := FL.one hx.w
 have o2 := FL.one hx.n
 have o3 := FL.one hx.k
 have hpu : ∀ n m : Int, pureL [d, .int .i64 n, .int .i64 m] = true := fun n m => by simp [pureL, S8, hT.fl.pure]
 have hwl : (nd t i).words.length = 1 := by rw [hnode.wl, hK]; rfl
 have w0 : N3 1 (nd t i).dw (.int .i64 0) = some (.fp [.str ((nd t i).word 0)] 0) := by
  rw [a1Z (by omega)]; exact FS.idx hx.w (i := 0) (by omega)
 rw [hK] at hidx
 refine M8 (vf := a0r) rfl ?_
 unfold a0r; refine zE ?_
 try refine zW (aN hidx (aN o1 (aN o2 o3))) ?_
 refine W3 (W2 hT hR hi (.inl rfl)) rfl (fz3 hT.fz M3 M3) (hpu _ _) ?_
 intro dc hdc
 try refine zW0 ?_
 refine W3 (W2 hT hR hi (.inr (.inl rfl))) rfl (fz3 hT.fz M3 M3) (hpu _ _) ?_
 intro dv hdv
 try refine zW0 ?_
 refine W3 (W2 hT hR hi (.inr (.inr rfl))) rfl (fz3 hT.fz M3 M3) (hpu _ _) ?_
 intro dp hdp
 have fc := FL.fz hdc
 have fv := FL.fz hdv
 have fp := FL.fz hdp
 have hc := a0S (x := (nd t i).word 0) hdv (a0Y hR hi)
 repeat first
 |(apply M5 hc rfl rfl (fz2 fv S5))
 |refine zW (aN o1 (aN o2 (aN o3 w0))) ?_
 exact ⟨.inr trivial, _, rR, _, rfl, fun h => ⟨fun _ => a3c.1 (by simpa using h), fun e => by omega, fun e => by omega, fun e => by omega⟩⟩
theorem c3Z {d : D} {t : List Nd} (hT : N7 d t) (hR : O0 t) {i : Nat} (hi : i < t.length) (hK : (nd t i).kind = 18) : P5 109 [d, .int .i64 (i : Int)] fun b => b = false -> a11 t i := by
 refine Q3 ?_
 have hidx := hT.at (z := (i : Int)) (by omega) (by omega) (k := .i64)
 rw [Int.toNat_natCast] at hidx
 have hx := hT.nd hi
 have hnode := hR.ok.node i hi
 have o1 := FL.one hx.w
 have o2 := FL.one hx.n
 have o3 := FL.one hx.k
 have hpu : ∀ n m : Int, pureL [d, .int .i64 n, .int .i64 m] = true := fun n m => by simp [pureL, S8, hT.fl.pure]
 have hwl : (nd t i).words.length = 1 := by rw [hnode.wl, hK]; rfl
 have w0 : N3 1 (nd t i).dw (.int .i64 0) = some (.fp [.str ((nd t i).word 0)] 0) := by
  rw [a1Z (by omega)]; exact FS.idx hx.w (i := 0) (by omega)
 rw [hK] at hidx
 refine M8 (vf := a0r) rfl ?_
 unfold a0r; refine zE ?_
 try refine zW (aN hidx (aN o1 (aN o2 o3))) ?_
 refine W3 (W2 hT hR hi (.inl rfl)) rfl (fz3 hT.fz M3 M3) (hpu _ _) ?_
 intro dc hdc
 try refine zW0 ?_
 refine W3 (W2 hT hR hi (.inr (.inl rfl))) rfl (fz3 hT.fz M3 M3) (hpu _ _) ?_
 intro dv hdv
 try refine zW0 ?_
 refine W3 (W2 hT hR hi (.inr (.inr rfl))) rfl (fz3 hT.fz M3 M3) (hpu _ _) ?_
 intro dp hdp
 have fc := FL.fz hdc
 have fv := FL.fz hdv
 have fp := FL.fz hdp
 have hc := a0S (x := (nd t i).word 0) hdv (a0Y hR hi)
 repeat first
 |(apply M5 hc rfl rfl (fz2 fv S5))
 |refine zW (aN o1 (aN o2 (aN o3 w0))) ?_
 exact ⟨.inr trivial, _, rR, _, rfl, fun h => ⟨fun _ => a3c.1 (by simpa using h), fun e => by omega, fun e => by omega, fun e => by omega⟩⟩
theorem c1l {d : D} {t : List Nd} (hT : N7 d t) (hR : O0 t) {i : Nat} (hi : i < t.length) (hK : (nd t i).kind = 7) : P5 109 [d, .int .i64 (i : Int)] fun b => b = false -> a11 t i := by
 refine Q3 ?_
 have hidx := hT.at (z := (i : Int)) (by omega) (by omega) (k := .i64)
 rw [Int.toNat_natCast] at hidx
 have hx := hT.nd hi
 have hnode := hR.ok.node i hi
 have o1 := FL.one hx.w
 have o2 := FL.one hx.n
 have o3 := FL.one hx.k
 have hpu : ∀ n m : Int, pureL [d, .int .i64 n, .int .i64 m] = true := fun n m => by simp [pureL, S8, hT.fl.pure]
 have hwl : (nd t i).words.length = 1 := by rw [hnode.wl, hK]; rfl
 have w0 : N3 1 (nd t i).dw (.int .i64 0) = some (.fp [.str ((nd t i).word 0)] 0) := by
  rw [a1Z (by omega)]; exact FS.idx hx.w (i := 0) (by omega)
 rw [hK] at hidx
 refine M8 (vf := a0r) rfl ?_
 unfold a0r; refine zE ?_
 try refine zW (aN hidx (aN o1 (aN o2 o3))) ?_
 refine W3 (W2 hT hR hi (.inl rfl)) rfl (fz3 hT.fz M3 M3) (hpu _ _) ?_
 intro dc hdc
 try refine zW0 ?_
 refine W3 (W2 hT hR hi (.inr (.inl rfl))) rfl (fz3 hT.fz M3 M3) (hpu _ _) ?_
 intro dv hdv
 try refine zW0 ?_
 refine W3 (W2 hT hR hi (.inr (.inr rfl))) rfl (fz3 hT.fz M3 M3) (hpu _ _) ?_
 intro dp hdp
 have fc := FL.fz hdc
 have fv := FL.fz hdv
 have fp := FL.fz hdp
 have hc := a0S (x := (nd t i).word 0) hdc (a0Y hR hi)
 repeat first
 |(apply M5 hc rfl rfl (fz2 fc S5))
 |refine zW (aN o1 (aN o2 (aN o3 w0))) ?_
 exact ⟨.inr trivial, _, rR, _, rfl, fun h => ⟨fun e => by omega, fun _ => a3c.1 (by simpa using h), fun e => by omega, fun e => by omega⟩⟩
theorem c1Q {d : D} {t : List Nd} (hT : N7 d t) (hR : O0 t) {i : Nat} (hi : i < t.length) (hK : (nd t i).kind = 19) : P5 109 [d, .int .i64 (i : Int)] fun b => b = false -> a11 t i := by
 refine Q3 ?_
 have hidx := hT.at (z := (i : Int)) (by omega) (by omega) (k := .i64)
 rw [Int.toNat_natCast] at hidx
 have hx := hT.nd hi
 have hnode := hR.ok.node i hi
 have o1 := FL.one hx.w
 have o2 := FL.one hx.n
 have o3 := FL.one hx.k
 have hpu : ∀ n m : Int, pureL [d, .int .i64 n, .int .i64 m] = true := fun n m => by simp [pureL, S8, hT.fl.pure]
 have hwl : (nd t i).words.length = 1 := by rw [hnode.wl, hK]; rfl
 have w0 : N3 1 (nd t i).dw (.int .i64 0) = some (.fp [.str ((nd t i).word 0)] 0) := by
  rw [a1Z (by omega)]; exact FS.idx hx.w (i := 0) (by omega)
 rw [hK] at hidx
 refine M8 (vf := a0r) rfl ?_
 unfold a0r; refine zE ?_
 try refine zW (aN hidx (aN o1 (aN o2 o3))) ?_
 refine W3 (W2 hT hR hi (.inl rfl)) rfl (fz3 hT.fz M3 M3) (hpu _ _) ?_
 intro dc hdc
 try refine zW0 ?_
 refine W3 (W2 hT hR hi (.inr (.inl rfl))) rfl (fz3 hT.fz M3 M3) (hpu _ _) ?_
 intro dv hdv
 try refine zW0 ?_
 refine W3 (W2 hT hR hi (.inr (.inr rfl))) rfl (fz3 hT.fz M3 M3) (hpu _ _) ?_
 intro dp hdp
 have fc := FL.fz hdc
 have fv := FL.fz hdv
 have fp := FL.fz hdp
 have hc := a0S (x := (nd t i).word 0) hdc (a0Y hR hi)
 repeat first
 |(apply M5 hc rfl rfl (fz2 fc S5))
 |refine zW (aN o1 (aN o2 (aN o3 w0))) ?_
 exact ⟨.inr trivial, _, rR, _, rfl, fun h => ⟨fun e => by omega, fun _ => a3c.1 (by simpa using h), fun e => by omega, fun e => by omega⟩⟩
theorem b4y {d : D} {t : List Nd} (hT : N7 d t) (hR : O0 t) {i : Nat} (hi : i < t.length) (hK : (nd t i).kind = 8) : P5 109 [d, .int .i64 (i : Int)] fun b => b = false -> a11 t i := by
 refine Q3 ?_
 have hidx := hT.at (z := (i : Int)) (by omega) (by omega) (k := .i64)
 rw [Int.toNat_natCast] at hidx
 have hx := hT.nd hi
 have hnode := hR.ok.node i hi
 have o1 := FL.one hx.w
 have o2 := FL.one hx.n
 have o3 := FL.one hx.k
 have hpu : ∀ n m : Int, pureL [d, .int .i64 n, .int .i64 m] = true := fun n m => by simp [pureL, S8, hT.fl.pure]
 have hwl : (nd t i).words.length = 2 := by rw [hnode.wl, hK]; rfl
 have w0 : N3 1 (nd t i).dw (.int .i64 0) = some (.fp [.str ((nd t i).word 0)] 0) := by
  rw [a1Z (by omega)]; exact FS.idx hx.w (i := 0) (by omega)
 have w1 : N3 1 (nd t i).dw (.int .i64 1) = some (.fp [.str ((nd t i).word 1)] 0) := by
  rw [a1Z (by omega)]; exact FS.idx hx.w (i := 1) (by omega)
 rw [hK] at hidx
 refine M8 (vf := a0r) rfl ?_
 unfold a0r; refine zE ?_
 try refine zW (aN hidx (aN o1 (aN o2 o3))) ?_
 refine W3 (W2 hT hR hi (.inl rfl)) rfl (fz3 hT.fz M3 M3) (hpu _ _) ?_
 intro dc hdc
 try refine zW0 ?_
 refine W3 (W2 hT hR hi (.inr (.inl rfl))) rfl (fz3 hT.fz M3 M3) (hpu _ _) ?_
 intro dv hdv
 try refine zW0 ?_
 refine W3 (W2 hT hR hi (.inr (.inr rfl))) rfl (fz3 hT.fz M3 M3) (hpu _ _) ?_
 intro dp hdp
 have fc := FL.fz hdc
 have fv := FL.fz hdv
 have fp := FL.fz hdp
 have hc := a0S (x := (nd t i).word 0) hdc (a0Y hR hi)
 have hv := a0S (x := (nd t i).word 1) hdv (a0Y hR hi)
 cases r1 : inB (U2 t i 1 i) ((nd t i).word 0)
 ·rw [r1] at hc
  repeat first
  |(apply M5 hc rfl rfl (fz2 fc S5))
  |(apply M5 hv rfl rfl (fz2 fv S5))
  |refine zW (aN o1 (aN o2 (aN o3 (aN w0 w1)))) ?_
  exact ⟨.inr trivial, _, rR, _, rfl, by simp⟩
 ·rw [r1] at hc
  repeat first
  |(apply M5 hc rfl rfl (fz2 fc S5))
  |(apply M5 hv rfl rfl (fz2 fv S5))
  |refine zW (aN o1 (aN o2 (aN o3 (aN w0 w1)))) ?_
  exact ⟨.inr trivial, _, rR, _, rfl, fun h => ⟨fun e => by omega, fun _ => a3c.1 r1, fun _ => a3c.1 (by simpa using h), fun e => by omega⟩⟩
theorem b60 {d : D} {t : List Nd} (hT : N7 d t) (hR : O0 t) {i : Nat} (hi : i < t.length) (hK : (nd t i).kind ≠ 1 /\ (nd t i).kind ≠ 2 /\ (nd t i).kind ≠ 3 /\ (nd t i).kind ≠ 6 /\ (nd t i).kind ≠ 18 /\ (nd t i).kind ≠ 7 /\ (nd t i).kind ≠ 19 /\ (nd t i).kind ≠ 8) : P5 109 [d, .int .i64 (i : Int)] fun b => b = false -> a11 t i := by
 refine Q3 ?_
 have hidx := hT.at (z := (i : Int)) (by omega) (by omega) (k := .i64)
 rw [Int.toNat_natCast] at hidx
 have hx := hT.nd hi
 have hnode := hR.ok.node i hi
 have o1 := FL.one hx.w
 have o2 := FL.one hx.n
 have o3 := FL.one hx.k
 have hpu : ∀ n m : Int, pureL [d, .int .i64 n, .int .i64 m] = true := fun n m => by simp [pureL, S8, hT.fl.pure]
 have n1 : ((nd t i).kind == 1) = false := by rw [beq_eq_false_iff_ne]; omega
 have n2 : ((nd t i).kind == 2) = false := by rw [beq_eq_false_iff_ne]; omega
 have n3 : ((nd t i).kind == 3) = false := by rw [beq_eq_false_iff_ne]; omega
 have n6 : ((nd t i).kind == 6) = false := by rw [beq_eq_false_iff_ne]; omega
 have n18 : ((nd t i).kind == 18) = false := by rw [beq_eq_false_iff_ne]; omega
 have n7 : ((nd t i).kind == 7) = false := by rw [beq_eq_false_iff_ne]; omega
 have n19 : ((nd t i).kind == 19) = false := by rw [beq_eq_false_iff_ne]; omega
 have n8 : ((nd t i).kind == 8) = false := by rw [beq_eq_false_iff_ne]; omega
 refine M8 (vf := a0r) rfl ?_
 unfold a0r; refine zE ?_
 try refine zW (aN hidx (aN o1 (aN o2 o3))) ?_
 refine W3 (W2 hT hR hi (.inl rfl)) rfl (fz3 hT.fz M3 M3) (hpu _ _) ?_
 intro dc hdc
 try refine zW0 ?_
 refine W3 (W2 hT hR hi (.inr (.inl rfl))) rfl (fz3 hT.fz M3 M3) (hpu _ _) ?_
 intro dv hdv
 try refine zW0 ?_
 refine W3 (W2 hT hR hi (.inr (.inr rfl))) rfl (fz3 hT.fz M3 M3) (hpu _ _) ?_
 intro dp hdp
 have fc := FL.fz hdc
 have fv := FL.fz hdv
 have fp := FL.fz hdp
 try refine zW (aN o1 (aN o2 (aN o3 (aN n1 (aN n2 (aN n3 (aN n6 (aN n18 (aN n7 (aN n19 n8)))))))))) ?_
 exact ⟨.inr trivial, _, rR, _, rfl, fun _ => ⟨fun e => by omega, fun e => by omega, fun e => by omega, fun e => by omega⟩⟩
theorem c1N {d : D} {t : List Nd} (hT : N7 d t) (hR : O0 t) {i : Nat} (hi : i < t.length) : P5 109 [d, .int .i64 (i : Int)] fun b => b = false -> a11 t i := by
 by_cases k1 : (nd t i).kind = 1
 ·exact b9C hT hR hi k1
 by_cases k2 : (nd t i).kind = 2
 ·exact b7H hT hR hi k2
 by_cases k3 : (nd t i).kind = 3
 ·exact b9u hT hR hi k3
 by_cases k6 : (nd t i).kind = 6
 ·exact c3S hT hR hi k6
 by_cases k18 : (nd t i).kind = 18
 ·exact c3Z hT hR hi k18
 by_cases k7 : (nd t i).kind = 7
 ·exact c1l hT hR hi k7
 by_cases k19 : (nd t i).kind = 19
 ·exact c1Q hT hR hi k19
 by_cases k8 : (nd t i).kind = 8
 ·exact b4y hT hR hi k8
 exact b60 hT hR hi ⟨k1, k2, k3, k6, k18, k7, k19, k8⟩
def a69 (f : Nat) (l : List D) (P : Prop) : Prop := ∃ (e a : Int), Iso f l (.agg [.int .i64 e, .int .i64 a]) /\ (e = 0 -> P)
theorem b3v {f : Nat} {l : List D} {P : Prop} (h : EvP vfs f l M1.empty fun d _ => ∃ (e a : Int), d = .agg [.int .i64 e, .int .i64 a] /\ (e = 0 -> P)) : a69 f l P := by
 obtain ⟨d, s', h, e, a, rfl, hp⟩ := h
 exact ⟨e, a, ⟨s', h⟩, hp⟩
theorem b4G {d : D} {t : List Nd} (hT : N7 d t) (hR : O0 t) : a69 85 [d] (a1F t) := by
 refine b3v ?_
 have hlen := hT.len
 have hle := hR.ok.le
 refine M8 (vf := a8P) rfl ?_
 unfold a8P; refine zE ?_
 try refine zW0 ?_
 refine S9 (Q := N4 0 _) (fun n env s => ∃ i : Nat, i <= t.length /\ n = t.length - i /\ (∀ j, j < i -> a11 t j) /\ s.get 0 = some (.cells [.int .i64 0, .int .i64 0]) /\ (env.get 0 = d /\ env.get 2 = .ptr 0 0 /\ env.get 3 = .int .i64 (i : Int))) ?_ t.length _ _ ⟨0, by omega, rfl, fun j h => by omega, O5 rfl, by simp [Env.get, O8.at]; rfl⟩
 rintro n env s ⟨i, hi, rfl, hall, hg, hE⟩
 have hgl := M7 hg
 by_cases c1 : i < t.length
 ·have c1' : ((i : Int) < (t.length : Int)) = True := eq_true (by omega)
  have hs : IntKind.i64.wrap ((i : Int) + 1) = ((i + 1 : Nat) : Int) := by rw [O4 (by omega) (by omega)]; omega
  have hidx := hT.at (z := (i : Int)) (by omega) (by omega) (k := .i64)
  rw [Int.toNat_natCast] at hidx
  have hx := hT.nd c1
  have o1 := FL.one hx.w
  have o2 := FL.one hx.n
  have o3 := FL.one hx.k
  obtain ⟨b, hb, hp⟩ := c1N hT hR c1
  cases b
  ·repeat first
   |(apply M5 hb rfl; (focus (simp only [Env.evL, Env.ev, Env.get, Nat.reduceEqDiff, ↓reduceIte, hE])); (focus exact fz2 hT.fz M3))
   |refine zW (aN hE (aN hlen (aN c1' hs))) ?_
   refine ⟨t.length - (i + 1), by omega, i + 1, by omega, rfl, fun j h => ?_, hg, (rG hE)⟩
   by_cases e : j = i
   ·subst e; exact hp rfl
   ·exact hall j (by omega)
  ·repeat first
   |(apply M5 hb rfl; (focus (simp only [Env.evL, Env.ev, Env.get, Nat.reduceEqDiff, ↓reduceIte, hE])); (focus exact fz2 hT.fz M3))
   |refine zW (aN hE (aN hlen (aN c1' (aN hidx (aN o1 (aN o2 (aN o3 hg))))))) ?_
   refine ⟨.inr trivial, _, ?_, 20, (nd t i).pos, rfl, by simp⟩
   simp only [R9, S1, T0, Env.get, Nat.reduceEqDiff, ↓reduceIte, hE, P6 hgl]
   rfl
 ·have c1' : ((i : Int) < (t.length : Int)) = False := eq_false (by omega)
  try refine zW (aN hE (aN hlen (aN c1' hg))) ?_
  refine ⟨.inr trivial, _, ?_, 0, 0, rfl, fun _ => ?_⟩
  ·simp only [R9, S1, T0, Env.get, Nat.reduceEqDiff, ↓reduceIte, hE, P6 hgl]
   rfl
  ·exact ⟨fun j h => (hall j (by omega)).use, fun j h => (hall j (by omega)).chan, fun j h => (hall j (by omega)).recv, fun j h => (hall j (by omega)).once⟩
end Go.Proofs.YtnjlhebkhjcagaaGreat
namespace Go.V
def b2n (b : Bool) : Nat := if b then 1 else 0
@[simp] theorem c4f : b2n true = 1 := rfl
@[simp] theorem c4g : b2n false = 0 := rfl
def num (f : Nat -> Bool) : Nat -> Nat
 | 0 => 0
 | n + 1 => num f n + b2n (f n) * 2 ^ n
def b17 (A B : Nat -> Bool) (c : Bool) : Nat -> Bool
 | 0 => c
 | i + 1 => (A i && B i) || ((A i != B i) && b17 A B c i)
def b5N (A B : Nat -> Bool) (c : Bool) (i : Nat) : Bool := (A i != B i) != b17 A B c i
def b3Y (A B : Nat -> Bool) : Nat -> Bool
 | 0 => false
 | i + 1 => if A i != B i then B i else b3Y A B i
def O2 (n : Int) (w : Nat) : Int := (n + 2 ^ (w - 1)) % 2 ^ w - 2 ^ (w - 1)
theorem a4P (w : Nat) : (0 : Int) < 2 ^ w := by
 have : (0 : Int) < ((2 ^ w : Nat) : Int) := by exact_mod_cast Nat.pos_of_ne_zero (by simp)
 simpa using this
theorem a6W {w : Nat} (h : 0 < w) : (2 : Int) ^ w = 2 * 2 ^ (w - 1) := by
 obtain ⟨k, rfl⟩ : ∃ k, w = k + 1 := ⟨w - 1, by omega⟩
 rw [Int.pow_succ, Nat.add_sub_cancel]; omega
theorem b1D {a b : Int} {w : Nat} (h : a % 2 ^ w = b % 2 ^ w) : O2 a w = O2 b w := by
 unfold O2
 rw [Int.add_emod, h, <- Int.add_emod]
theorem a7M {n : Int} {w : Nat} (h : 0 < w) (h1 : -2 ^ (w - 1) <= n) (h2 : n < 2 ^ (w - 1)) : O2 n w = n := by
 unfold O2
 rw [Int.emod_eq_of_lt (by omega) (by have := a6W h; omega)]; omega
theorem a9c {n : Int} {w : Nat} (h : 0 < w) : -2 ^ (w - 1) <= O2 n w /\ O2 n w < 2 ^ (w - 1) := by
 unfold O2
 have hp := a4P w
 have h1 := Int.emod_nonneg (n + 2 ^ (w - 1)) (b := 2 ^ w) (by omega)
 have h2 := Int.emod_lt_of_pos (n + 2 ^ (w - 1)) hp
 have := a6W h
 omega
def a8z (r : Nat -> Bool) (d : Bool) (j : Nat) : Bool := if j = 0 then d else r (j - 1)
def b6t (c : Bool) (A B : Nat -> Bool) (j : Nat) : Bool := if c then A j else B j
mutual
def a6X (X Y : Nat -> Bool) (w : Nat) : Nat -> (Nat -> Bool)
 | 0 => fun _ => false
 | k + 1 => b6t (!b3Y (a8z (a6X X Y w k) (X (w - 1 - k))) Y w) (b5N (a8z (a6X X Y w k) (X (w - 1 - k))) (fun j => !Y j) true) (a8z (a6X X Y w k) (X (w - 1 - k)))
end
end Go.V
namespace Go.Proofs.YtnjlhebkhjcagaaGreat
open Go.V
set_option maxRecDepth 100000
set_option maxHeartbeats 4000000
theorem b0g {v w : Nat} (h : w <= v) : (2 : Int) ^ w <= 2 ^ v := by
 have : (2 : Nat) ^ w <= 2 ^ v := Nat.pow_le_pow_right (by omega) h
 exact_mod_cast this
theorem b2M {v w : Nat} (h : w <= v) : (2 : Int) ^ w ∣ 2 ^ v := by
 obtain ⟨k, rfl⟩ : ∃ k, v = w + k := ⟨v - w, by omega⟩
 rw [Int.pow_add]; exact Int.dvd_mul_right _ _
theorem a9o {n : Int} {w : Nat} (h : 0 < w) : O2 n w = if 2 ^ (w - 1) <= n % 2 ^ w then n % 2 ^ w - 2 ^ w else n % 2 ^ w := by
 have hp := a6W h
 have p := a4P w
 have h1 := Int.emod_nonneg n (b := 2 ^ w) (by omega)
 have h2 := Int.emod_lt_of_pos n p
 have e : O2 n w = O2 (n % 2 ^ w) w := (b1D (by rw [Int.emod_emod_of_dvd _ (Int.dvd_refl _)])).symm
 rw [e]
 generalize n % 2 ^ w = r at *
 split
 ·rw [<- b1D (a := r - 2 ^ w) (b := r) (by rw [Int.sub_emod, Int.emod_self]; simp), a7M h (by omega) (by omega)]
 ·rw [a7M h (by omega) (by omega)]
theorem b58 {n m : Int} (h : 0 < m) : (if n.tmod m < 0 then n.tmod m + m else n.tmod m) = n % m := by
 have h1 := Int.mul_tdiv_add_tmod n m
 have h2 := Int.tmod_lt_of_pos n h
 have h3 : -m < n.tmod m := by
  have := Int.tmod_lt_of_pos (-n) h
  rw [Int.neg_tmod] at this
  omega
 have e : n % m = n.tmod m % m := by
  conv => lhs; rw [<- h1]
  rw [Int.add_comm, Int.add_mul_emod_self_left]
 rw [e]
 generalize n.tmod m = r at *
 split
 ·rw [<- Int.add_emod_right, Int.emod_eq_of_lt (by omega) (by omega)]
 ·rw [Int.emod_eq_of_lt (by omega) (by omega)]
theorem b3p {w : Nat} (h : w <= 16) : (2 : Int) ^ w <= 65536 := by
 have := b0g (w := w) (v := 16) h
 omega
theorem b18 {s : M1} {x n : Int} {w : Nat} (hn : (w : Int) = min (max n 1) 16) (hx : a0p x) :
 Ev vfs 38 [.int .i64 x, .int .i64 n] s (.int .i64 (O2 x w)) s := by
 obtain ⟨hx1, hx2⟩ := hx
 have hw1 : 1 <= w := by omega
 have hwl : w <= 16 := by omega
 have hp := b3p hwl
 have hp0 := a4P w
 rw [a9o hw1]
 refine a4U (vf := a9B) rfl ?_
 unfold a9B; refine zE ?_
 try refine zW0 ?_
 refine WP.mono (Q := fun e env s' => e = .normal /\ s' = s /\ (env.get 0 = .int .i64 x /\ env.get 1 = .int .i64 (max n 1))) ?_ ?_
 ·by_cases h : n < 1
  ·have b1 : (n < 1) = True := eq_true h
   try refine zW b1 ?_
   exact ⟨trivial, trivial, by simp [Env.get]; omega⟩
  ·have b1 : (n < 1) = False := eq_false h
   try refine zW b1 ?_
   exact ⟨trivial, trivial, by simp [Env.get]; omega⟩
 rintro e env s' ⟨rfl, rfl, hE⟩
 simp only [P0]
 try refine zW hE ?_
 refine WP.mono (Q := fun e env s1 => e = .normal /\ s1 = s' /\ (env.get 0 = .int .i64 x /\ env.get 1 = .int .i64 (w : Int))) ?_ ?_
 ·by_cases h : 16 < max n 1
  ·have b1 : (16 < max n 1) = True := eq_true h
   try refine zW (aN hE b1) ?_
   exact ⟨trivial, trivial, by simp [Env.get, hE]; omega⟩
  ·have b1 : (16 < max n 1) = False := eq_false h
   try refine zW (aN hE b1) ?_
   exact ⟨trivial, trivial, by simp [Env.get, hE]; omega⟩
 clear hE
 rintro e env s1 ⟨rfl, rfl, hE⟩
 simp only [P0]
 try refine zW hE ?_
 refine S9 (fun k env s2 => ∃ (i : Nat), i <= w /\ k = w - i /\ s2 = s1 /\ (env.get 0 = .int .i64 x /\ env.get 1 = .int .i64 (w : Int) /\ env.get 5 = .int .i64 (2 ^ i) /\ env.get 6 = .int .i64 (i : Int))) ?_ w _ _
  ⟨0, Nat.zero_le _, by omega, rfl, by simp [Env.get, hE]⟩
 clear hE
 rintro k env s2 ⟨i, hi, rfl, rfl, hE⟩
 by_cases hci : i < w
 ·have hci' : (i : Int) < (w : Int) := by omega
  have hs := (by rw [O4 (by omega) (by omega)]; omega : IntKind.i64.wrap ((i : Int) + 1) = ((i + 1 : Nat) : Int))
  have hpi := b3p (w := i) (by omega)
  have hpi0 := a4P i
  have hmul : IntKind.i64.wrap ((2 : Int) ^ i * 2) = 2 ^ (i + 1) := by rw [O4 (by omega) (by omega), Int.pow_succ]
  try refine zW (aN hE (aN hci' (aN hs hmul))) ?_
  exact ⟨w - (i + 1), by omega, i + 1, by omega, rfl, trivial, (rG hE)⟩
 ·have hci' : ¬ (i : Int) < (w : Int) := by omega
  obtain rfl : i = w := by omega
  have hne : ((2 : Int) ^ i = 0) = False := eq_false (by omega)
  have hm := b58 (n := x) hp0
  have h1 := Int.emod_nonneg x (b := 2 ^ i) (by omega)
  have h2 := Int.emod_lt_of_pos x hp0
  have hh := a6W (w := i) (by omega)
  have hdiv : ((2 : Int) ^ i).tdiv 2 = 2 ^ (i - 1) := by
   rw [Int.tdiv_eq_ediv_of_nonneg (by omega)]; omega
  have hwd : IntKind.i64.wrap ((2 : Int) ^ (i - 1)) = 2 ^ (i - 1) := O4 (by omega) (by omega)
  have hs2 : IntKind.i64.wrap (x % 2 ^ i - 2 ^ i) = x % 2 ^ i - 2 ^ i := O4 (by omega) (by omega)
  by_cases hneg : x.tmod (2 ^ i) < 0
  ·rw [if_pos hneg] at hm
   have hadd : IntKind.i64.wrap (x.tmod (2 ^ i) + 2 ^ i) = x % 2 ^ i := by rw [hm]; exact O4 (by omega) (by omega)
   by_cases hc : 2 ^ (i - 1) <= x % 2 ^ i
   ·try refine zW (aN hE (aN hci' (aN hne (aN hneg (aN hadd (aN hdiv (aN hwd (aN hc hs2)))))))) ?_
    exact ⟨.inr trivial, trivial, (by simp only [R9, S1, T0, Env.get, Nat.reduceEqDiff, ↓reduceIte, hc] <;> rfl)⟩
   ·try refine zW (aN hE (aN hci' (aN hne (aN hneg (aN hadd (aN hdiv (aN hwd (aN hc hs2)))))))) ?_
    exact ⟨.inr trivial, trivial, (by simp only [R9, S1, T0, Env.get, Nat.reduceEqDiff, ↓reduceIte, hc] <;> rfl)⟩
  ·rw [if_neg hneg] at hm
   have hneg : (x % 2 ^ i < 0) = False := eq_false (by omega)
   by_cases hc : 2 ^ (i - 1) <= x % 2 ^ i
   ·try refine zW (aN hE (aN hci' (aN hne (aN hneg (aN hm (aN hdiv (aN hwd (aN hc hs2)))))))) ?_
    exact ⟨.inr trivial, trivial, (by simp only [R9, S1, T0, Env.get, Nat.reduceEqDiff, ↓reduceIte, hc] <;> rfl)⟩
   ·try refine zW (aN hE (aN hci' (aN hne (aN hneg (aN hm (aN hdiv (aN hwd (aN hc hs2)))))))) ?_
    exact ⟨.inr trivial, trivial, (by simp only [R9, S1, T0, Env.get, Nat.reduceEqDiff, ↓reduceIte, hc] <;> rfl)⟩
theorem a9z {x n : Int} {w : Nat} (hn : (w : Int) = min (max n 1) 16) (hx : a0p x) : Iso 38 [.int .i64 x, .int .i64 n] (.int .i64 (O2 x w)) := ⟨_, b18 hn hx⟩
end Go.Proofs.YtnjlhebkhjcagaaGreat
namespace Go.V
def a1M (t : List Nd) (i : Nat) : Int := if (nd t (item t i)).kind = 3 then (nd t (item t i)).num 0 else 1
def a0V (t : List Nd) (kind : Int) (i : Nat) : Int := if kind = 1 then 1 else min (a1M t i) 100
def P7 (t : List Nd) (kind : Int) : Nat -> Int
 | 0 => 0
 | i + 1 => if P7 t kind i < 100 /\ (nd t i).kind = kind then P7 t kind i + a0V t kind i else P7 t kind i
theorem b2f {t : List Nd} {kind : Int} {i : Nat} (h : 100 <= P7 t kind i) : ∀ {j : Nat}, i <= j -> P7 t kind j = P7 t kind i
 | 0, hj => by
   obtain rfl : i = 0 := by omega
   rfl
 | j + 1, hj => by
   by_cases e : i = j + 1
   ·subst e; rfl
   ·have ih := b2f h (j := j) (by omega)
    rw [P7, if_neg (by omega), ih]
structure a2C (t : List Nd) (i : Nat) : Prop where
 chan : (nd t i).kind = 1 -> 1 <= (nd t i).num 0 /\ (nd t i).num 0 <= 3 /\ 1 <= (nd t i).num 1 /\ (nd t i).num 1 <= 8 /\ P7 t 1 (i + 1) <= 3
 var : (nd t i).kind = 2 -> 1 <= (nd t i).num 0 /\ (nd t i).num 0 <= 8 /\ O2 ((nd t i).num 1) ((nd t i).num 0).toNat = (nd t i).num 1 /\ P7 t 2 (i + 1) <= 8
 proc : (nd t i).kind = 3 -> 1 <= (nd t i).num 0 /\ P7 t 3 (i + 1) <= 4
 lit : (nd t i).kind = 17 -> (nd t i).num 0 <= 127
structure a0O (t : List Nd) : Prop where
 fine : ∀ i, i < t.length -> a2C t i
theorem b0B {t : List Nd} (h : O0 t) {i : Nat} (hi : i < t.length) : item t i <= i := by
 by_cases h0 : i = 0
 ·subst h0
  have : item t 0 = 0 := a6c fun k hk => by have := h.subs.mem k hk; omega
  omega
 ·obtain ⟨b, _, _, h3, _⟩ := b6s h (by omega) hi
  exact h3
theorem b2R {t : List Nd} (h : O0 t) {i : Nat} (hi : i < t.length) : 0 <= a1M t i /\ a1M t i <= 999999 := by
 have := b0B h hi
 unfold a1M
 split
 ·rename_i h3
  exact (h.ok.node _ (by omega)).copies h3
 ·omega
theorem b2m {t : List Nd} (h : O0 t) {kind : Int} {i : Nat} (hi : i < t.length) : 0 <= a0V t kind i /\ a0V t kind i <= 100 := by
 have := b2R h hi
 unfold a0V
 split <;> omega
theorem a8m {t : List Nd} (h : O0 t) {kind : Int} : ∀ {i : Nat}, i <= t.length -> 0 <= P7 t kind i /\ P7 t kind i < 200
 | 0, _ => by simp [P7]
 | i + 1, hi => by
   have ih := a8m h (kind := kind) (i := i) (by omega)
   have := b2m h (kind := kind) (i := i) (by omega)
   rw [P7]
   split <;> omega
end Go.V
namespace Go.Proofs.YtnjlhebkhjcagaaGreat
open Go.V
set_option maxRecDepth 100000
set_option maxHeartbeats 4000000
theorem a2n {x : Nd} (hx : x.Ok) {i : Nat} (h : i < x.nums.length) : N3 1 x.dn (.int .i64 (i : Int)) = some (.fp [.int .i64 (x.num i)] 0) := by rw [a3z h]; exact FI.idx hx.n h
theorem b5b {d : D} {t : List Nd} (hT : N7 d t) (hR : O0 t) {i : Nat} (hi : i < t.length) : Iso 128 [d, .int .i64 (i : Int)] (.int .i64 (a1M t i)) := by
 refine a1Q ?_
 have hit := a68 hT hR hi
 have hle := b0B hR hi
 have hidx := hT.at (z := (item t i : Int)) (by omega) (by omega) (k := .i64)
 rw [Int.toNat_natCast] at hidx
 have hx := hT.nd (i := item t i) (by omega)
 have o1 := FL.one hx.w
 have o2 := FL.one hx.n
 have o3 := FL.one hx.k
 unfold a1M
 by_cases c : (nd t (item t i)).kind = 3
 ·have c' : ((nd t (item t i)).kind == 3) = true := by rw [c]; rfl
  have hnl : (nd t (item t i)).nums.length = 1 := by rw [(hR.ok.node _ (by omega)).nl, c]; rfl
  have n0 := a2n hx (i := 0) (by omega)
  have z0 : ((0 : Nat) : Int) = 0 := rfl
  rw [z0] at n0
  rw [if_pos c]
  refine M8 (vf := a5i) rfl ?_
  unfold a5i; refine zE ?_
  repeat first
  |(apply M5 hit rfl rfl (fz2 hT.fz M3))
  |refine zW (aN hidx (aN o1 (aN o2 (aN o3 (aN c' n0))))) ?_
  exact ⟨.inr trivial, _, rR, rfl⟩
 ·have c' : ((nd t (item t i)).kind == 3) = false := by rw [beq_eq_false_iff_ne]; exact c
  rw [if_neg c]
  refine M8 (vf := a5i) rfl ?_
  unfold a5i; refine zE ?_
  repeat first
  |(apply M5 hit rfl rfl (fz2 hT.fz M3))
  |refine zW (aN hidx (aN o1 (aN o2 (aN o3 c')))) ?_
  exact ⟨.inr trivial, _, rR, rfl⟩
theorem a7a {d : D} {t : List Nd} (hT : N7 d t) (hR : O0 t) {i : Nat} (hi : i < t.length) {kind : Int} : Iso 110 [d, .int .i64 (i : Int), .int .i64 kind] (.int .i64 (P7 t kind (i + 1))) := by
 refine a1Q ?_
 have hle := hR.ok.le
 refine M8 (vf := a9l) rfl ?_
 unfold a9l; refine zE ?_
 try refine zW0 ?_
 refine S9 (Q := N4 0 _) (fun n env s => ∃ j : Nat, j <= i + 1 /\ n = i + 1 - j /\ (env.get 0 = d /\ env.get 1 = .int .i64 (i : Int) /\ env.get 2 = .int .i64 kind /\ env.get 7 = .int .i64 (P7 t kind j) /\ env.get 8 = .int .i64 (j : Int))) ?_ (i + 1) _ _ ⟨0, by omega, rfl, by simp [Env.get, P7]⟩
 rintro n env s ⟨j, hj, rfl, hE⟩
 have hsi := a8m hR (kind := kind) (i := j) (by omega)
 by_cases c1 : j <= i
 ·have c1' : ((j : Int) <= (i : Int)) = True := eq_true (by omega)
  have hs : IntKind.i64.wrap ((j : Int) + 1) = ((j + 1 : Nat) : Int) := by rw [O4 (by omega) (by omega)]; omega
  by_cases c2 : P7 t kind j < 100
  ·have hidx := hT.at (z := (j : Int)) (by omega) (by omega) (k := .i64)
   rw [Int.toNat_natCast] at hidx
   have hx := hT.nd (i := j) (by omega)
   have o1 := FL.one hx.w
   have o2 := FL.one hx.n
   have o3 := FL.one hx.k
   by_cases c3 : (nd t j).kind = kind
   ·have c3' : ((nd t j).kind != kind) = false := by rw [c3]; simp
    have hst : P7 t kind (j + 1) = P7 t kind j + a0V t kind j := by rw [P7, if_pos ⟨c2, c3⟩]
    have hsr := b2m hR (kind := kind) (i := j) (by omega)
    by_cases c4 : kind = 1
    ·have c4' : (kind == 1) = true := by rw [c4]; rfl
     have hw : IntKind.i64.wrap (P7 t kind j + 1) = P7 t kind (j + 1) := by rw [O4 (by omega) (by omega), hst, a0V, if_pos c4]
     try refine zW (aN hE (aN c1' (aN c2 (aN hidx (aN o1 (aN o2 (aN o3 (aN c3' (aN c4' (aN hw hs)))))))))) ?_
     exact ⟨i + 1 - (j + 1), by omega, j + 1, by omega, rfl, (rG hE)⟩
    ·have c4' : (kind == 1) = false := by rw [beq_eq_false_iff_ne]; exact c4
     have hc := b5b hT hR (i := j) (by omega)
     have hcr := b2R hR (i := j) (by omega)
     have hw : IntKind.i64.wrap (P7 t kind j + min (a1M t j) 100) = P7 t kind (j + 1) := by rw [O4 (by omega) (by omega), hst, a0V, if_neg c4]
     repeat first
     |(apply M5 hc rfl; (focus (simp only [Env.evL, Env.ev, Env.get, Nat.reduceEqDiff, ↓reduceIte, hE])); (focus exact fz2 hT.fz M3))
     |refine zW (aN hE (aN c1' (aN c2 (aN hidx (aN o1 (aN o2 (aN o3 (aN c3' (aN c4' (aN hw hs)))))))))) ?_
     exact ⟨i + 1 - (j + 1), by omega, j + 1, by omega, rfl, (rG hE)⟩
   ·have c3' : ((nd t j).kind != kind) = true := by rw [bne_iff_ne]; exact c3
    have hst : P7 t kind (j + 1) = P7 t kind j := by rw [P7, if_neg fun h => c3 h.2]
    try refine zW (aN hE (aN c1' (aN c2 (aN hidx (aN o1 (aN o2 (aN o3 (aN c3' hs)))))))) ?_
    exact ⟨i + 1 - (j + 1), by omega, j + 1, by omega, rfl, by simp only [Env.get, Nat.reduceEqDiff, ↓reduceIte, hE, hst, and_self]⟩
  ·have hb := b2f (t := t) (kind := kind) (i := j) (by omega) (j := i + 1) (by omega)
   try refine zW (aN hE (aN c1' c2)) ?_
   exact ⟨.inr trivial, _, rR, by rw [hb]⟩
 ·have c1' : ((j : Int) <= (i : Int)) = False := eq_false (by omega)
  obtain rfl : j = i + 1 := by omega
  try refine zW (aN hE c1') ?_
  exact ⟨.inr trivial, _, rR, rfl⟩
theorem b2k {d : D} {t : List Nd} (hT : N7 d t) (hR : O0 t) {z : Int} : ∀ (f a : Nat), a < t.length -> t.length - a < f -> P5 111 [d, .int .i64 z, .int .i64 (a : Int)] fun _ => True
 | 0, a, _, h => by omega
 | f + 1, a, ha, hf => by
   refine Q3 ?_
   have hidx := hT.at (z := (a : Int)) (by omega) (by omega) (k := .i64)
   rw [Int.toNat_natCast] at hidx
   have hx := hT.nd ha
   have o1 := FL.one hx.w
   have o2 := FL.one hx.n
   have o3 := FL.one hx.k
   have hlk := FI.len hx.k
   refine M8 (vf := a9D) rfl ?_
   unfold a9D; refine zE ?_
   try refine zW0 ?_
   refine S9 (Q := N4 0 _) (fun n env s => ∃ j : Nat, j <= (nd t a).kids.length /\ n = (nd t a).kids.length - j /\ (env.get 0 = d /\ env.get 1 = .int .i64 z /\ env.get 2 = .int .i64 (a : Int) /\ env.get 7 = .int .i64 (j : Int))) ?_ (nd t a).kids.length _ _ ⟨0, by omega, rfl, by simp [Env.get]⟩
   rintro n env s ⟨j, hj, rfl, hE⟩
   by_cases c1 : j < (nd t a).kids.length
   ·have c1' : ((j : Int) < ((nd t a).kids.length : Int)) = True := eq_true (by omega)
    have hki := FI.idx hx.k c1 (k := .i64)
    have hs := a1v c1 hx.kl
    have hkr := hR.ok.kids a ha _ (List.getElem_mem c1)
    obtain ⟨k, hk⟩ : ∃ k : Nat, (nd t a).kids[j] = (k : Int) := ⟨(nd t a).kids[j].toNat, by omega⟩
    rw [hk] at hki hkr
    obtain ⟨b, hb, _⟩ := b2k hT hR (z := z) f k (by omega) (by omega)
    cases c2 : ((k : Int) == z)
    ·cases b
     ·repeat first
      |(apply M5 hb rfl; (focus (simp only [Env.evL, Env.ev, Env.get, Nat.reduceEqDiff, ↓reduceIte, hE])); (focus exact fz3 hT.fz M3 M3))
      |refine zW (aN hE (aN hidx (aN o1 (aN o2 (aN o3 (aN hlk (aN c1' (aN hki (aN c2 hs))))))))) ?_
      exact ⟨(nd t a).kids.length - (j + 1), by omega, j + 1, by omega, rfl, (rG hE)⟩
     ·repeat first
      |(apply M5 hb rfl; (focus (simp only [Env.evL, Env.ev, Env.get, Nat.reduceEqDiff, ↓reduceIte, hE])); (focus exact fz3 hT.fz M3 M3))
      |refine zW (aN hE (aN hidx (aN o1 (aN o2 (aN o3 (aN hlk (aN c1' (aN hki c2)))))))) ?_
      exact ⟨.inr trivial, _, rR, _, rfl, trivial⟩
    ·try refine zW (aN hE (aN hidx (aN o1 (aN o2 (aN o3 (aN hlk (aN c1' (aN hki c2)))))))) ?_
     exact ⟨.inr trivial, _, rR, _, rfl, trivial⟩
   ·have c1' : ((j : Int) < ((nd t a).kids.length : Int)) = False := eq_false (by omega)
    try refine zW (aN hE (aN hidx (aN o1 (aN o2 (aN o3 (aN hlk c1')))))) ?_
    exact ⟨.inr trivial, _, rR, _, rfl, trivial⟩
end Go.Proofs.YtnjlhebkhjcagaaGreat
namespace Go.Proofs.YtnjlhebkhjcagaaGreat
open Go.V
set_option maxRecDepth 100000
set_option maxHeartbeats 4000000
def a2T (f : Nat) (l : List D) (P : Prop) : Prop := ∃ e : Int, Iso f l (.int .i64 e) /\ (e = 0 -> P)
theorem a3L {f : Nat} {l : List D} {P : Prop} (h : EvP vfs f l M1.empty fun d _ => ∃ e : Int, d = .int .i64 e /\ (e = 0 -> P)) : a2T f l P := by
 obtain ⟨d, s', h, e, rfl, hp⟩ := h
 exact ⟨e, ⟨s', h⟩, hp⟩
theorem c2T {d : D} {t : List Nd} (hT : N7 d t) (hR : O0 t) {i : Nat} (hi : i < t.length) (hK : (nd t i).kind = 1) : a2T 86 [d, .int .i64 (i : Int)] (a2C t i) := by
 refine a3L ?_
 have hidx := hT.at (z := (i : Int)) (by omega) (by omega) (k := .i64)
 rw [Int.toNat_natCast] at hidx
 have hx := hT.nd hi
 have hnode := hR.ok.node i hi
 have hle := hR.ok.le
 have o1 := FL.one hx.w
 have o2 := FL.one hx.n
 have o3 := FL.one hx.k
 have hnl : (nd t i).nums.length = 4 := by rw [hnode.nl, hK]; rfl
 have n0 : N3 1 (nd t i).dn (.int .i64 0) = some (.fp [.int .i64 ((nd t i).num 0)] 0) := a2n hx (i := 0) (by omega)
 have n1 : N3 1 (nd t i).dn (.int .i64 1) = some (.fp [.int .i64 ((nd t i).num 1)] 0) := a2n hx (i := 1) (by omega)
 rw [hK] at hidx
 have hs := a7a hT hR hi (kind := 1)
 by_cases e0 : (nd t i).num 0 < 1
 ·have d0 : ((nd t i).num 0 < 1) = True := eq_true e0
  refine M8 (vf := S0) rfl ?_
  unfold S0; refine zE ?_
  repeat first
  |(apply M5 hs rfl rfl (fz3 hT.fz M3 M3))
  |refine zW (aN hidx (aN o1 (aN o2 (aN o3 (aN n0 (aN n1 d0)))))) ?_
  exact ⟨.inr trivial, _, rR, _, rfl, by simp⟩
 have d0 : ((nd t i).num 0 < 1) = False := eq_false e0
 by_cases e1 : 3 < (nd t i).num 0
 ·have d1 : (3 < (nd t i).num 0) = True := eq_true e1
  refine M8 (vf := S0) rfl ?_
  unfold S0; refine zE ?_
  repeat first
  |(apply M5 hs rfl rfl (fz3 hT.fz M3 M3))
  |refine zW (aN hidx (aN o1 (aN o2 (aN o3 (aN n0 (aN n1 (aN d0 d1))))))) ?_
  exact ⟨.inr trivial, _, rR, _, rfl, by simp⟩
 have d1 : (3 < (nd t i).num 0) = False := eq_false e1
 by_cases e2 : (nd t i).num 1 < 1
 ·have d2 : ((nd t i).num 1 < 1) = True := eq_true e2
  refine M8 (vf := S0) rfl ?_
  unfold S0; refine zE ?_
  repeat first
  |(apply M5 hs rfl rfl (fz3 hT.fz M3 M3))
  |refine zW (aN hidx (aN o1 (aN o2 (aN o3 (aN n0 (aN n1 (aN d0 (aN d1 d2)))))))) ?_
  exact ⟨.inr trivial, _, rR, _, rfl, by simp⟩
 have d2 : ((nd t i).num 1 < 1) = False := eq_false e2
 by_cases e3 : 8 < (nd t i).num 1
 ·have d3 : (8 < (nd t i).num 1) = True := eq_true e3
  refine M8 (vf := S0) rfl ?_
  unfold S0; refine zE ?_
  repeat first
  |(apply M5 hs rfl rfl (fz3 hT.fz M3 M3))
  |refine zW (aN hidx (aN o1 (aN o2 (aN o3 (aN n0 (aN n1 (aN d0 (aN d1 (aN d2 d3))))))))) ?_
  exact ⟨.inr trivial, _, rR, _, rfl, by simp⟩
 have d3 : (8 < (nd t i).num 1) = False := eq_false e3
 by_cases e4 : 3 < P7 t 1 (i + 1)
 ·have d4 : (3 < P7 t 1 (i + 1)) = True := eq_true e4
  refine M8 (vf := S0) rfl ?_
  unfold S0; refine zE ?_
  repeat first
  |(apply M5 hs rfl rfl (fz3 hT.fz M3 M3))
  |refine zW (aN hidx (aN o1 (aN o2 (aN o3 (aN n0 (aN n1 (aN d0 (aN d1 (aN d2 (aN d3 d4)))))))))) ?_
  exact ⟨.inr trivial, _, rR, _, rfl, by simp⟩
 have d4 : (3 < P7 t 1 (i + 1)) = False := eq_false e4
 refine M8 (vf := S0) rfl ?_
 unfold S0; refine zE ?_
 repeat first
 |(apply M5 hs rfl rfl (fz3 hT.fz M3 M3))
 |refine zW (aN hidx (aN o1 (aN o2 (aN o3 (aN n0 (aN n1 (aN d0 (aN d1 (aN d2 (aN d3 d4)))))))))) ?_
 exact ⟨.inr trivial, _, rR, _, rfl, fun _ => ⟨fun _ => by omega, fun h => by omega, fun h => by omega, fun h => by omega⟩⟩
theorem b9B {d : D} {t : List Nd} (hT : N7 d t) (hR : O0 t) {i : Nat} (hi : i < t.length) (hK : (nd t i).kind = 2) : a2T 86 [d, .int .i64 (i : Int)] (a2C t i) := by
 refine a3L ?_
 have hidx := hT.at (z := (i : Int)) (by omega) (by omega) (k := .i64)
 rw [Int.toNat_natCast] at hidx
 have hx := hT.nd hi
 have hnode := hR.ok.node i hi
 have hle := hR.ok.le
 have o1 := FL.one hx.w
 have o2 := FL.one hx.n
 have o3 := FL.one hx.k
 have hnl : (nd t i).nums.length = 2 := by rw [hnode.nl, hK]; rfl
 have n0 : N3 1 (nd t i).dn (.int .i64 0) = some (.fp [.int .i64 ((nd t i).num 0)] 0) := a2n hx (i := 0) (by omega)
 have n1 : N3 1 (nd t i).dn (.int .i64 1) = some (.fp [.int .i64 ((nd t i).num 1)] 0) := a2n hx (i := 1) (by omega)
 rw [hK] at hidx
 have hs := a7a hT hR hi (kind := 2)
 have hv := hnode.var hK
 by_cases e0 : (nd t i).num 0 < 1
 ·have d0 : ((nd t i).num 0 < 1) = True := eq_true e0
  refine M8 (vf := S0) rfl ?_
  unfold S0; refine zE ?_
  repeat first
  |(apply M5 hs rfl rfl (fz3 hT.fz M3 M3))
  |refine zW (aN hidx (aN o1 (aN o2 (aN o3 (aN n0 (aN n1 d0)))))) ?_
  exact ⟨.inr trivial, _, rR, _, rfl, by simp⟩
 have d0 : ((nd t i).num 0 < 1) = False := eq_false e0
 by_cases e1 : 8 < (nd t i).num 0
 ·have d1 : (8 < (nd t i).num 0) = True := eq_true e1
  refine M8 (vf := S0) rfl ?_
  unfold S0; refine zE ?_
  repeat first
  |(apply M5 hs rfl rfl (fz3 hT.fz M3 M3))
  |refine zW (aN hidx (aN o1 (aN o2 (aN o3 (aN n0 (aN n1 (aN d0 d1))))))) ?_
  exact ⟨.inr trivial, _, rR, _, rfl, by simp⟩
 have d1 : (8 < (nd t i).num 0) = False := eq_false e1
 have ht := a9z (x := (nd t i).num 1) (n := (nd t i).num 0) (w := ((nd t i).num 0).toNat) (by omega) ⟨by omega, by omega⟩
 by_cases e2 : O2 ((nd t i).num 1) ((nd t i).num 0).toNat = (nd t i).num 1
 ·have d2 : (O2 ((nd t i).num 1) ((nd t i).num 0).toNat != (nd t i).num 1) = false := by rw [e2]; simp
  by_cases e3 : 8 < P7 t 2 (i + 1)
  ·have d3 : (8 < P7 t 2 (i + 1)) = True := eq_true e3
   refine M8 (vf := S0) rfl ?_
   unfold S0; refine zE ?_
   repeat first
   |(apply M5 hs rfl rfl (fz3 hT.fz M3 M3))
   |(apply M5 ht rfl rfl (fz2 M3 M3))
   |refine zW (aN hidx (aN o1 (aN o2 (aN o3 (aN n0 (aN n1 (aN d0 (aN d1 (aN d2 d3))))))))) ?_
   exact ⟨.inr trivial, _, rR, _, rfl, by simp⟩
  ·have d3 : (8 < P7 t 2 (i + 1)) = False := eq_false e3
   refine M8 (vf := S0) rfl ?_
   unfold S0; refine zE ?_
   repeat first
   |(apply M5 hs rfl rfl (fz3 hT.fz M3 M3))
   |(apply M5 ht rfl rfl (fz2 M3 M3))
   |refine zW (aN hidx (aN o1 (aN o2 (aN o3 (aN n0 (aN n1 (aN d0 (aN d1 (aN d2 d3))))))))) ?_
   exact ⟨.inr trivial, _, rR, _, rfl, fun _ => ⟨fun h => by omega, fun _ => ⟨by omega, by omega, e2, by omega⟩, fun h => by omega, fun h => by omega⟩⟩
 ·have d2 : (O2 ((nd t i).num 1) ((nd t i).num 0).toNat != (nd t i).num 1) = true := by rw [bne_iff_ne]; exact e2
  refine M8 (vf := S0) rfl ?_
  unfold S0; refine zE ?_
  repeat first
  |(apply M5 hs rfl rfl (fz3 hT.fz M3 M3))
  |(apply M5 ht rfl rfl (fz2 M3 M3))
  |refine zW (aN hidx (aN o1 (aN o2 (aN o3 (aN n0 (aN n1 (aN d0 (aN d1 d2)))))))) ?_
  exact ⟨.inr trivial, _, rR, _, rfl, by simp⟩
theorem b8y {d : D} {t : List Nd} (hT : N7 d t) (hR : O0 t) {i : Nat} (hi : i < t.length) (hK : (nd t i).kind = 3) : a2T 86 [d, .int .i64 (i : Int)] (a2C t i) := by
 refine a3L ?_
 have hidx := hT.at (z := (i : Int)) (by omega) (by omega) (k := .i64)
 rw [Int.toNat_natCast] at hidx
 have hx := hT.nd hi
 have hnode := hR.ok.node i hi
 have hle := hR.ok.le
 have o1 := FL.one hx.w
 have o2 := FL.one hx.n
 have o3 := FL.one hx.k
 have hnl : (nd t i).nums.length = 1 := by rw [hnode.nl, hK]; rfl
 have n0 : N3 1 (nd t i).dn (.int .i64 0) = some (.fp [.int .i64 ((nd t i).num 0)] 0) := a2n hx (i := 0) (by omega)
 rw [hK] at hidx
 have hs := a7a hT hR hi (kind := 3)
 by_cases e0 : (nd t i).num 0 < 1
 ·have d0 : ((nd t i).num 0 < 1) = True := eq_true e0
  refine M8 (vf := S0) rfl ?_
  unfold S0; refine zE ?_
  repeat first
  |(apply M5 hs rfl rfl (fz3 hT.fz M3 M3))
  |refine zW (aN hidx (aN o1 (aN o2 (aN o3 (aN n0 d0))))) ?_
  exact ⟨.inr trivial, _, rR, _, rfl, by simp⟩
 have d0 : ((nd t i).num 0 < 1) = False := eq_false e0
 by_cases e1 : 4 < P7 t 3 (i + 1)
 ·have d1 : (4 < P7 t 3 (i + 1)) = True := eq_true e1
  refine M8 (vf := S0) rfl ?_
  unfold S0; refine zE ?_
  repeat first
  |(apply M5 hs rfl rfl (fz3 hT.fz M3 M3))
  |refine zW (aN hidx (aN o1 (aN o2 (aN o3 (aN n0 (aN d0 d1)))))) ?_
  exact ⟨.inr trivial, _, rR, _, rfl, by simp⟩
 have d1 : (4 < P7 t 3 (i + 1)) = False := eq_false e1
 refine M8 (vf := S0) rfl ?_
 unfold S0; refine zE ?_
 repeat first
 |(apply M5 hs rfl rfl (fz3 hT.fz M3 M3))
 |refine zW (aN hidx (aN o1 (aN o2 (aN o3 (aN n0 (aN d0 d1)))))) ?_
 exact ⟨.inr trivial, _, rR, _, rfl, fun _ => ⟨fun h => by omega, fun h => by omega, fun _ => by omega, fun h => by omega⟩⟩
theorem c2t {d : D} {t : List Nd} (hT : N7 d t) (hR : O0 t) {i : Nat} (hi : i < t.length) (hK : (nd t i).kind = 17) : a2T 86 [d, .int .i64 (i : Int)] (a2C t i) := by
 refine a3L ?_
 have hidx := hT.at (z := (i : Int)) (by omega) (by omega) (k := .i64)
 rw [Int.toNat_natCast] at hidx
 have hx := hT.nd hi
 have hnode := hR.ok.node i hi
 have hle := hR.ok.le
 have o1 := FL.one hx.w
 have o2 := FL.one hx.n
 have o3 := FL.one hx.k
 have hnl : (nd t i).nums.length = 1 := by rw [hnode.nl, hK]; rfl
 have n0 : N3 1 (nd t i).dn (.int .i64 0) = some (.fp [.int .i64 ((nd t i).num 0)] 0) := a2n hx (i := 0) (by omega)
 rw [hK] at hidx
 by_cases e0 : 127 < (nd t i).num 0
 ·have d0 : (127 < (nd t i).num 0) = True := eq_true e0
  refine M8 (vf := S0) rfl ?_
  unfold S0; refine zE ?_
  try refine zW (aN hidx (aN o1 (aN o2 (aN o3 (aN n0 d0))))) ?_
  exact ⟨.inr trivial, _, rR, _, rfl, by simp⟩
 have d0 : (127 < (nd t i).num 0) = False := eq_false e0
 refine M8 (vf := S0) rfl ?_
 unfold S0; refine zE ?_
 try refine zW (aN hidx (aN o1 (aN o2 (aN o3 (aN n0 d0))))) ?_
 exact ⟨.inr trivial, _, rR, _, rfl, fun _ => ⟨fun h => by omega, fun h => by omega, fun h => by omega, fun _ => by omega⟩⟩
theorem c0X {d : D} {t : List Nd} (hT : N7 d t) (hR : O0 t) {i : Nat} (hi : i < t.length) (hK : (nd t i).kind = 13) : a2T 86 [d, .int .i64 (i : Int)] (a2C t i) := by
 refine a3L ?_
 have hidx := hT.at (z := (i : Int)) (by omega) (by omega) (k := .i64)
 rw [Int.toNat_natCast] at hidx
 have hx := hT.nd hi
 have hnode := hR.ok.node i hi
 have hle := hR.ok.le
 have o1 := FL.one hx.w
 have o2 := FL.one hx.n
 have o3 := FL.one hx.k
 rw [hK] at hidx
 refine M8 (vf := S0) rfl ?_
 unfold S0; refine zE ?_
 try refine zW (aN hidx (aN o1 (aN o2 o3))) ?_
 refine S9 (Q := N4 1 _) (fun n env s => ∃ j : Nat, j <= i /\ n = i - j /\ (env.get 0 = d /\ env.get 1 = .int .i64 (i : Int) /\ env.get 6 = .bool false /\ env.get 7 = .int .i64 (j : Int))) ?_ i _ _ ⟨0, by omega, rfl, by simp [Env.get]⟩
 rintro n env s ⟨j, hj, rfl, hE⟩
 by_cases c1 : j < i
 ·have c1' : ((j : Int) < (i : Int)) = True := eq_true (by omega)
  have hs : IntKind.i64.wrap ((j : Int) + 1) = ((j + 1 : Nat) : Int) := by rw [O4 (by omega) (by omega)]; omega
  have hjdx := hT.at (z := (j : Int)) (by omega) (by omega) (k := .i64)
  rw [Int.toNat_natCast] at hjdx
  have hy := hT.nd (i := j) (by omega)
  have q1 := FL.one hy.w
  have q2 := FL.one hy.n
  have q3 := FL.one hy.k
  obtain ⟨b, hb, _⟩ := b2k hT hR (z := (i : Int)) (t.length + 1) j (by omega) (by omega)
  by_cases c2 : (nd t j).kind = 13
  ·have c2' : ((nd t j).kind == 13) = true := by rw [c2]; rfl
   cases b
   ·repeat first
    |(apply M5 hb rfl; (focus (simp only [Env.evL, Env.ev, Env.get, Nat.reduceEqDiff, ↓reduceIte, hE])); (focus exact fz3 hT.fz M3 M3))
    |refine zW (aN hE (aN hjdx (aN q1 (aN q2 (aN q3 (aN c1' (aN c2' hs))))))) ?_
    exact ⟨i - (j + 1), by omega, j + 1, by omega, rfl, (rG hE)⟩
   ·repeat first
    |(apply M5 hb rfl; (focus (simp only [Env.evL, Env.ev, Env.get, Nat.reduceEqDiff, ↓reduceIte, hE])); (focus exact fz3 hT.fz M3 M3))
    |refine zW (aN hE (aN hjdx (aN q1 (aN q2 (aN q3 (aN c1' c2')))))) ?_
    exact ⟨.inr trivial, _, rR, _, rfl, by simp⟩
  ·have c2' : ((nd t j).kind == 13) = false := by rw [beq_eq_false_iff_ne]; exact c2
   try refine zW (aN hE (aN hjdx (aN q1 (aN q2 (aN q3 (aN c1' (aN c2' hs))))))) ?_
   exact ⟨i - (j + 1), by omega, j + 1, by omega, rfl, (rG hE)⟩
 ·have c1' : ((j : Int) < (i : Int)) = False := eq_false (by omega)
  try refine zW (aN hE c1') ?_
  exact ⟨.inr trivial, _, rR, _, rfl, fun _ => ⟨fun h => by omega, fun h => by omega, fun h => by omega, fun h => by omega⟩⟩
theorem b9L {d : D} {t : List Nd} (hT : N7 d t) (hR : O0 t) {i : Nat} (hi : i < t.length) (hK : (nd t i).kind ≠ 1 /\ (nd t i).kind ≠ 2 /\ (nd t i).kind ≠ 3 /\ (nd t i).kind ≠ 13 /\ (nd t i).kind ≠ 17) : a2T 86 [d, .int .i64 (i : Int)] (a2C t i) := by
 refine a3L ?_
 have hidx := hT.at (z := (i : Int)) (by omega) (by omega) (k := .i64)
 rw [Int.toNat_natCast] at hidx
 have hx := hT.nd hi
 have hnode := hR.ok.node i hi
 have hle := hR.ok.le
 have o1 := FL.one hx.w
 have o2 := FL.one hx.n
 have o3 := FL.one hx.k
 have n1 : ((nd t i).kind == 1) = false := by rw [beq_eq_false_iff_ne]; omega
 have n2 : ((nd t i).kind == 2) = false := by rw [beq_eq_false_iff_ne]; omega
 have n3 : ((nd t i).kind == 3) = false := by rw [beq_eq_false_iff_ne]; omega
 have n13 : ((nd t i).kind == 13) = false := by rw [beq_eq_false_iff_ne]; omega
 have n17 : ((nd t i).kind == 17) = false := by rw [beq_eq_false_iff_ne]; omega
 refine M8 (vf := S0) rfl ?_
 unfold S0; refine zE ?_
 try refine zW (aN hidx (aN o1 (aN o2 (aN o3 (aN n1 (aN n2 (aN n3 (aN n13 n17)))))))) ?_
 exact ⟨.inr trivial, _, rR, _, rfl, fun _ => ⟨fun h => by omega, fun h => by omega, fun h => by omega, fun h => by omega⟩⟩
theorem b5h {d : D} {t : List Nd} (hT : N7 d t) (hR : O0 t) {i : Nat} (hi : i < t.length) : a2T 86 [d, .int .i64 (i : Int)] (a2C t i) := by
 by_cases k1 : (nd t i).kind = 1
 ·exact c2T hT hR hi k1
 by_cases k2 : (nd t i).kind = 2
 ·exact b9B hT hR hi k2
 by_cases k3 : (nd t i).kind = 3
 ·exact b8y hT hR hi k3
 by_cases k13 : (nd t i).kind = 13
 ·exact c0X hT hR hi k13
 by_cases k17 : (nd t i).kind = 17
 ·exact c2t hT hR hi k17
 exact b9L hT hR hi ⟨k1, k2, k3, k13, k17⟩
theorem b5E {d : D} {t : List Nd} (hT : N7 d t) (hR : O0 t) : a69 58 [d] (a1F t /\ a0O t) := by
 refine b3v ?_
 have hlen := hT.len
 have hle := hR.ok.le
 obtain ⟨e, a, hc, hp⟩ := b4G hT hR
 obtain ⟨sc, hc⟩ := hc
 by_cases c0 : e = 0
 ·subst c0
  refine M8 (vf := a4A) rfl ?_
  unfold a4A; refine zE ?_
  repeat first
  |(refine a1I rfl (fz1 hT.fz) hc rfl rfl ?_)
  |refine zW0 ?_
  refine S9 (Q := N4 0 _) (fun n env s => ∃ i : Nat, i <= t.length /\ n = t.length - i /\ (∀ j, j < i -> a2C t j) /\ s.get 0 = some (.cells [.int .i64 0, .int .i64 0]) /\ (env.get 0 = d /\ env.get 2 = .ptr 0 0 /\ env.get 4 = .int .i64 (i : Int))) ?_ t.length _ _ ⟨0, by omega, rfl, fun j h => by omega, rfl, by simp [Env.get, O8.at]; rfl⟩
  rintro n env s ⟨i, hi, rfl, hall, hg, hE⟩
  have hgl := M7 hg
  by_cases c1 : i < t.length
  ·have c1' : ((i : Int) < (t.length : Int)) = True := eq_true (by omega)
   have hs : IntKind.i64.wrap ((i : Int) + 1) = ((i + 1 : Nat) : Int) := by rw [O4 (by omega) (by omega)]; omega
   have hidx := hT.at (z := (i : Int)) (by omega) (by omega) (k := .i64)
   rw [Int.toNat_natCast] at hidx
   have hx := hT.nd c1
   have o1 := FL.one hx.w
   have o2 := FL.one hx.n
   have o3 := FL.one hx.k
   obtain ⟨e, hb, hq⟩ := b5h hT hR c1
   by_cases c2 : e = 0
   ·subst c2
    repeat first
    |(apply M5 hb rfl; (focus (simp only [Env.evL, Env.ev, Env.get, Nat.reduceEqDiff, ↓reduceIte, hE])); (focus exact fz2 hT.fz M3))
    |refine zW (aN hE (aN hlen (aN c1' hs))) ?_
    refine ⟨t.length - (i + 1), by omega, i + 1, by omega, rfl, fun j h => ?_, hg, (rG hE)⟩
    by_cases e : j = i
    ·subst e; exact hq rfl
    ·exact hall j (by omega)
   ·have c2' : (e != 0) = true := by rw [bne_iff_ne]; exact c2
    repeat first
    |(apply M5 hb rfl; (focus (simp only [Env.evL, Env.ev, Env.get, Nat.reduceEqDiff, ↓reduceIte, hE])); (focus exact fz2 hT.fz M3))
    |refine zW (aN hE (aN hlen (aN c1' (aN c2' (aN hidx (aN o1 (aN o2 (aN o3 hg)))))))) ?_
    refine ⟨.inr trivial, _, ?_, e, (nd t i).pos, rfl, fun h => (c2 h).elim⟩
    simp only [R9, S1, T0, Env.get, Nat.reduceEqDiff, ↓reduceIte, hE, P6 hgl]
    rfl
  ·have c1' : ((i : Int) < (t.length : Int)) = False := eq_false (by omega)
   try refine zW (aN hE (aN hlen (aN c1' hg))) ?_
   refine ⟨.inr trivial, _, ?_, 0, 0, rfl, fun _ => ⟨hp rfl, ⟨fun j h => hall j (by omega)⟩⟩⟩
   simp only [R9, S1, T0, Env.get, Nat.reduceEqDiff, ↓reduceIte, hE, P6 hgl]
   rfl
 ·have c0' : (e != 0) = true := by rw [bne_iff_ne]; exact c0
  refine M8 (vf := a4A) rfl ?_
  unfold a4A; refine zE ?_
  repeat first
  |(refine a1I rfl (fz1 hT.fz) hc rfl rfl ?_)
  |refine zW c0' ?_
  exact ⟨.inr trivial, _, rR, e, a, rfl, fun h => (c0 h).elim⟩
end Go.Proofs.YtnjlhebkhjcagaaGreat
namespace Go.V
def SN (s : M1) (sz : Nat) (d : D) (rows : List (List D)) : Prop := (d = .nils /\ rows = []) ∨ (∃ id, d = .arr id 0 rows.length sz /\ s.get id = some (.cells rows.flatten)) ∨ d = .lst sz rows
theorem SN.one {s : M1} {sz : Nat} {d : D} {rows : List (List D)} (h : SN s sz d rows) : M9 d = true := by
 rcases h with ⟨rfl, _⟩ | ⟨id, rfl, _⟩ | rfl <;> rfl
theorem SN.stay {s s' : M1} {sz : Nat} {d : D} {rows : List (List D)} (h : SN s sz d rows) (hf : Fr [] s s') : SN s' sz d rows := by
 rcases h with h | ⟨id, rfl, h⟩ | h
 ·exact .inl h
 ·exact .inr (.inl ⟨id, rfl, by rw [hf.2 id (M7 h) (by simp), h]⟩)
 ·exact .inr (.inr h)
theorem SN.len {s : M1} {sz : Nat} {d : D} {rows : List (List D)} (h : SN s sz d rows) : S6 false d = some (.int .i64 (rows.length : Int)) := by
 rcases h with ⟨rfl, rfl⟩ | ⟨id, rfl, _⟩ | rfl <;> rfl
theorem SN.row {s : M1} {sz : Nat} {d : D} {rows : List (List D)} (h : SN s sz d rows) (hr : ∀ r ∈ rows, r.length = sz) : X0 s.get d = some rows.flatten /\ a1h d = some rows.length /\ a0l sz d = true := by
 rcases h with ⟨rfl, rfl⟩ | ⟨id, rfl, h⟩ | rfl
 ·exact ⟨rfl, rfl, rfl⟩
 rotate_left
 ·exact ⟨rfl, rfl, by simp [a0l]⟩
 ·refine ⟨?_, rfl, by simp [a0l]⟩
  have hl : rows.flatten.length = rows.length * sz := by
   clear h
   induction rows with
   | nil => simp
   | cons a r ih =>
     rw [List.flatten_cons, List.length_append, ih fun x hx => hr x (by simp [hx]), hr a (by simp), List.length_cons, Nat.succ_mul]
     omega
  simp only [X0, h]
  rw [if_pos (by omega), List.drop_zero, List.take_of_length_le (by omega)]
theorem a4Y {sz : Nat} {rows : List (List D)} (hr : ∀ r ∈ rows, r.length = sz) : rows.flatten.length = rows.length * sz := by
 induction rows with
 | nil => simp
 | cons a r ih =>
   rw [List.flatten_cons, List.length_append, ih fun x hx => hr x (by simp [hx]), hr a (by simp), List.length_cons, Nat.succ_mul]
   omega
theorem a46 {s : M1} {sz bytes id : Nat} {d : D} {old rows : List (List D)} (h : s.get id = some (.cells old.flatten)) (ho : ∀ r ∈ old, r.length = sz) (hd : SN s sz d rows) (hr : ∀ r ∈ rows, r.length = sz) (hb : bytes <= 128) (hl : old.length + rows.length <= 2 ^ 30) :
 ∃ d' s', S7 sz bytes (.arr id 0 old.length sz) d s = some (d', s') /\ ∃ id', d' = .arr id' 0 (old ++ rows).length sz /\ s'.get id' = some (.cells (old ++ rows).flatten) /\ Fr [id] s s' /\ (id' = id ∨ s.next <= id') := by
 have b1 : (old.length + rows.length) * bytes <= 2 ^ 45 := Nat.le_trans (Nat.mul_le_mul hl hb) (by decide)
 have b2 : old.length + rows.length <= 2 ^ 45 := Nat.le_trans hl (by decide)
 have b3 : bytes <= 2 ^ 20 := Nat.le_trans hb (by decide)
 obtain ⟨r1, r2, r3⟩ := hd.row hr
 have hf := a4Y ho
 by_cases hn : rows.length = 0
 ·obtain rfl := List.length_eq_zero_iff.1 hn
  refine ⟨.arr id 0 old.length sz, s, ?_, id, by simp, by simpa using h, Fr.refl _ _, .inl rfl⟩
  unfold S7
  simp only [r1, r2, r3, b3, decide_true, Bool.and_self, if_true, h, Nat.zero_add, hf, and_self, List.length_nil]
 ·refine ⟨.arr s.next 0 (old.length + rows.length) sz, (s.set id none).push (.cells (old.flatten ++ rows.flatten)), ?_, s.next, by simp, ?_, (Fr.set _ (by simp)).thenPush _, .inr (Nat.le_refl _)⟩
  ·unfold S7
   simp only [r1, r2, r3, b3, decide_true, Bool.and_self, if_true, h, Nat.zero_add, hf, and_self, hn, if_false, b1, b2, List.drop_zero]
  ·rw [O5 (by simp), List.flatten_append]
theorem a02 {fs : FuncId -> Option M6} {i t sz bytes a x rest s Q} {env : Env} {da dx : D} {Φ : D -> M1 -> Prop} (hr : ∃ d s', S7 sz bytes da dx s = some (d, s') /\ Φ d s') (ha : env.ev a = da) (hx : env.ev x = dx)
 (h : ∀ d s', Φ d s' -> WQ fs [] rest ((t, d) :: env) s' Q) : WQ fs [] ((i, ⟨some t, .m (.append sz bytes a x), none⟩) :: rest) env s Q := by
 obtain ⟨d, s', h1, h2⟩ := hr
 exact a8t ha hx h1 (h d s' h2)
theorem SN.of {s : M1} {sz id n : Nat} {rows : List (List D)} (h : s.get id = some (.cells rows.flatten)) (hn : rows.length = n) : SN s sz (.arr id 0 n sz) rows := .inr (.inl ⟨id, by rw [hn], h⟩)
theorem a43 : ∀ {sz : Nat} {rows : List (List D)}, (∀ r ∈ rows, r.length = sz) -> ∀ {i f : Nat} (hi : i < rows.length), f < sz -> rows.flatten[i * sz + f]? = rows[i][f]?
 | sz, [], _, i, f, hi, _ => by simp at hi
 | sz, a :: r, hr, 0, f, _, hf => by
   rw [Nat.zero_mul, Nat.zero_add, List.flatten_cons, List.getElem?_append_left (by rw [hr a (by simp)]; exact hf)]
   rfl
 | sz, a :: r, hr, i + 1, f, hi, hf => by
   have ha := hr a (by simp)
   rw [List.flatten_cons, List.getElem?_append_right (by rw [ha, Nat.succ_mul]; omega), ha, show (i + 1) * sz + f - sz = i * sz + f by rw [Nat.succ_mul]; omega]
   exact a43 (fun x hx => hr x (by simp [hx])) (by simpa using hi) hf
theorem SN.get1 {s : M1} {sz : Nat} {d : D} {rows : List (List D)} (h : SN s sz d rows) (hr : ∀ r ∈ rows, r.length = sz) {i : Nat} (hi : i < rows.length) {c : D} (hc : (rows[i])[0]? = some c) (ho : M9 c = true) (hz : 0 < sz) : ∃ p, N3 sz d (.int .i64 (i : Int)) = some p /\ ldV s.get none p = some c /\ ∀ id off, p = .ptr id off -> id < s.next := by
 rcases h with ⟨_, rfl⟩ | ⟨id, rfl, hg⟩ | rfl
 ·simp at hi
 ·refine ⟨.ptr id (i * sz), ?_, ?_, ?_⟩
  ·simp only [N3]
   rw [if_pos ⟨trivial, by omega, by omega⟩]
   simp
  ·simp only [ldV, hg, Y9]
   have := a43 hr hi (f := 0) hz
   rw [Nat.add_zero] at this
   rw [this, hc]
   simp [ho]
  ·rintro a b e
   cases e
   exact M7 hg
 ·refine ⟨.fp rows[i] 0, by simp [N3, hi], ?_, by simp⟩
  simp only [ldV, Y9, hc, ho, if_true]
def P3 (l : List Nat) : List (List D) := l.map fun (n : Nat) => [.int .i64 (n : Int)]
def S2 (l : List Bool) : List (List D) := l.map fun b => [.bool b]
def V9 (l : List ByteArray) : List (List D) := l.map fun x => [.str x]
def Q5 (l : List Ed) : List (List D) := l.map Ed.row
theorem a3j (l : List Bool) : ∀ r ∈ S2 l, r.length = 1 := by intro r h; obtain ⟨b, _, rfl⟩ := List.mem_map.1 h; rfl
theorem a2V (l : List Ed) : ∀ r ∈ Q5 l, r.length = 8 := by intro r h; obtain ⟨b, _, rfl⟩ := List.mem_map.1 h; rfl
@[simp] theorem a4s (l : List Bool) : (S2 l).length = l.length := by simp [S2]
@[simp] theorem a2B (l : List Ed) : (Q5 l).length = l.length := by simp [Q5]
theorem b2g (a b : List Bool) : S2 (a ++ b) = S2 a ++ S2 b := by simp [S2]
theorem b25 (a b : List Ed) : Q5 (a ++ b) = Q5 a ++ Q5 b := by simp [Q5]
structure PrD where
 dl : D
 dr : D
 de : D
 dn : D
 dv : D
def M4 (p : Pr) (x : PrD) : List D := [.str p.name, .int .i64 (p.copy : Int), x.dl, .int .i64 (p.places : Int), x.dr, x.de, x.dn, x.dv]
structure N8 (s : M1) (p : Pr) (x : PrD) : Prop where
 l : SN s 1 x.dl (P3 p.locals)
 r : SN s 1 x.dr (S2 p.rest)
 e : SN s 8 x.de (Q5 p.edges)
 n : SN s 1 x.dn (V9 p.names)
 v : SN s 1 x.dv (P3 p.vars)
theorem N8.stay {s s' : M1} {p : Pr} {x : PrD} (h : N8 s p x) (hf : Fr [] s s') : N8 s' p x := ⟨h.l.stay hf, h.r.stay hf, h.e.stay hf, h.n.stay hf, h.v.stay hf⟩
theorem a2f (l : List Nat) : ∀ r ∈ P3 l, r.length = 1 := by intro r h; obtain ⟨b, _, rfl⟩ := List.mem_map.1 h; rfl
theorem a6n (l : List ByteArray) : ∀ r ∈ V9 l, r.length = 1 := by intro r h; obtain ⟨b, _, rfl⟩ := List.mem_map.1 h; rfl
@[simp] theorem a4c (l : List Nat) : (P3 l).length = l.length := by simp [P3]
@[simp] theorem a8L (l : List ByteArray) : (V9 l).length = l.length := by simp [V9]
def a0f (l : List Ch) : List (List D) := l.map Ch.row
theorem a9m (l : List Ch) : ∀ r ∈ a0f l, r.length = 5 := by intro r h; obtain ⟨b, _, rfl⟩ := List.mem_map.1 h; rfl
@[simp] theorem a4Q (l : List Ch) : (a0f l).length = l.length := by simp [a0f]
structure MdX where
 dt : D
 dc : D
 dv : D
 dp : D
 ds : D
 g : Int
 b : Bool
def N6 (m : MdX) : List D := [m.dt, .int .i64 m.g, m.dc, m.dv, m.dp, m.ds, .bool m.b]
structure a0g (s : M1) (m : MdX) (t : List Nd) (ch : List Ch) : Prop where
 tr : N7 m.dt t
 c : SN s 5 m.dc (a0f ch)
 ov : M9 m.dv = true
 op : M9 m.dp = true
 os : M9 m.ds = true
theorem a0g.stay {s s' : M1} {m : MdX} {t : List Nd} {ch : List Ch} (h : a0g s m t ch) (hf : Fr [] s s') : a0g s' m t ch := ⟨h.tr, h.c.stay hf, h.ov, h.op, h.os⟩
structure Q2 (p : Pr) (n : Nat) : Prop where
 pl : p.places <= n
 rl : p.rest.length <= n
 el : p.edges.length <= n
end Go.V
namespace Go.V
variable {fs : FuncId -> Option M6}
def WQT (fs : FuncId -> Option M6) (pairs : List (Nat × Nat)) (R : List Nat) (ops : List (Nat × O6)) (env : Env) (s : M1) (Q : Env -> M1 -> Prop) : Prop :=
 ∀ tr : List Tr, (∀ x ∈ tr, x.pre = x.post /\ ∀ id, x.rd = some id -> id ∈ R) -> WO fs pairs ops tr env s Q
theorem a7D {vars ops p pairs dr env s Q} (h : WQT fs (p :: pairs) [] ops env s fun env' s' => Q .normal (env'.keep vars) s') : WP fs vars (.region ⟨ops, p :: pairs, dr⟩) env s Q := a8B (h [] (by simp))
theorem a4E {R : List Nat} {pairs : List (Nat × Nat)} {tr : List Tr} {t : Tr} (h : ∀ x ∈ tr, x.pre = x.post /\ ∀ id, x.rd = some id -> id ∈ R) (ht : t.pre = t.post /\ ∀ id, t.rd = some id -> id ∈ R) : ∀ x ∈ (if pairs.isEmpty then tr else t :: tr), x.pre = x.post /\ ∀ id, x.rd = some id -> id ∈ R := by
 split
 ·exact h
 ·intro x hx
  rcases List.mem_cons.1 hx with rfl | hx
  ·exact ht
  ·exact h x hx
theorem a7l {pairs R i t o rest s Q} {env : Env} {d : D} (hr : evP env o = some d) (h : WQT fs pairs R rest ((t, d) :: env) s Q) : WQT fs pairs R ((i, ⟨some t, .p o, none⟩) :: rest) env s Q := by
 intro tr ht
 exact a07 rfl 0 (d := d) (s' := s) (by simp only [P1, hr, Option.map_some]) (a23 rfl fun t hm => (ht t hm).1) (h _ (a4E ht ⟨rfl, by simp [V2]⟩))
theorem a63 {pairs R i t n x rest s Q} {env : Env} {d : D} {id off : Nat} (hx : env.ev x = .ptr id off) (hr : evR env s.get (.load n x) = some d) (h : WQT fs pairs (id :: R) rest ((t, d) :: env) s Q) : WQT fs pairs R ((i, ⟨some t, .r (.load n x), none⟩) :: rest) env s Q := by
 intro tr ht
 refine a07 rfl 0 (d := d) (s' := s) (by simp only [P1, hr, Option.map_some]) (a23 rfl fun t hm => (ht t hm).1) (h _ (a4E (fun y hy => ⟨(ht y hy).1, fun id h => List.mem_cons_of_mem _ ((ht y hy).2 id h)⟩) ⟨rfl, fun j hj => ?_⟩))
 simp only [V2, rdR, hx, Option.some.injEq] at hj
 simp [hj]
theorem c2W {pairs R i n a v rest s Q} {env : Env} {id : Nat} {ob : N9} (hr : evW env s.get n a v = some (id, ob)) (hid : id ∉ R) (hp : (rest.all fun o => pairs.all fun p => p.2 != o.1) = true) (h : WQ fs [] rest env (s.set id (some ob)) Q) : WQT fs pairs R ((i, ⟨none, .w n a v, none⟩) :: rest) env s Q := by
 intro tr ht
 refine a07 rfl 0 (d := .tup []) (s' := s.set id (some ob)) (by simp only [P1, hr]) ?_ ?_
 ·have key : ∀ {l : List Tr}, (∀ x ∈ l, x.pre = x.post /\ ∀ j, x.rd = some j -> j ∈ R) -> Y8 pairs ⟨i, V2 env (.w n a v), s, s.set id (some ob)⟩ l = true := by
   intro l
   induction l with
   | nil => intro _; rfl
   | cons t r ih =>
     intro hl
     have h1 := hl t (by simp)
     have st1 : X3 s (s.set id (some ob)) t.rd = true := by
      cases hrd : t.rd with
      | none => rfl
      | some j =>
        have hj := h1.2 j hrd
        have hne : j ≠ id := fun e => hid (e ▸ hj)
        simp only [X3]
        rw [O9 hne]
        exact a4X _
     have st2 : X3 t.pre t.post (V2 env (.w n a v)) = true := by rw [h1.1]; exact a96 _ _
     simp only [Y8, st1, st2, Bool.and_self, ite_self, Bool.true_and]
     exact ih fun x hx => hl x (by simp [hx])
  exact key ht
 ·obtain ⟨m, env', s', h1, h2⟩ := h [] a6l
  exact ⟨m, env', s', a4R hp h1, h2⟩
theorem a8h {pairs R i t n x rest s Q} {env : Env} {d : D} {cs : List D} {off : Nat} (hx : env.ev x = .fp cs off) (hr : evR env s.get (.load n x) = some d) (h : WQT fs pairs R rest ((t, d) :: env) s Q) : WQT fs pairs R ((i, ⟨some t, .r (.load n x), none⟩) :: rest) env s Q := by
 intro tr ht
 refine a07 rfl 0 (d := d) (s' := s) (by simp only [P1, hr, Option.map_some]) (a23 rfl fun t hm => (ht t hm).1) (h _ (a4E ht ⟨rfl, fun j hj => ?_⟩))
 simp only [V2, rdR, hx] at hj
 cases hj
def a40 : D -> List Nat
 | .ptr id _ => [id]
 | _ => []
theorem b76 {p : D} {id : Nat} (h : id ∈ a40 p) : ∃ off, p = .ptr id off := by
 cases p <;> simp [a40] at h
 subst h
 exact ⟨_, rfl⟩
theorem c2j {pairs R i t n x rest s Q} {env : Env} {d p : D} (hl : ldV s.get n p = some d) (hx : env.ev x = p) (h : WQT fs pairs (a40 p ++ R) rest ((t, d) :: env) s Q) : WQT fs pairs R ((i, ⟨some t, .r (.load n x), none⟩) :: rest) env s Q := by
 intro tr ht
 refine a07 rfl 0 (d := d) (s' := s) (by simp only [P1, a4H, hx, hl, Option.map_some]) (a23 rfl fun t hm => (ht t hm).1) (h _ (a4E (fun y hy => ⟨(ht y hy).1, fun id h => List.mem_append_right _ ((ht y hy).2 id h)⟩) ⟨rfl, fun j hj => ?_⟩))
 simp only [V2, rdR, hx] at hj
 refine List.mem_append_left _ ?_
 cases p <;> simp_all [a40]
theorem b74 {pairs R i t f args rest s Q} {env : Env} {l : List D} {d : D} (hr : Ev fs f l s d s) (ha : env.evL args = l) (h : WQT fs pairs R rest ((t, d) :: env) s Q) : WQT fs pairs R ((i, ⟨some t, .m (.call .raw (.cst (.fn f [])) args), none⟩) :: rest) env s Q := by
 subst ha
 obtain ⟨n, hn⟩ := hr
 intro tr ht
 exact a07 rfl n (d := d) (s' := s) (by simp only [P1, evM, a0K, Env.ev, List.append_nil]; exact hn) (a23 rfl fun t hm => (ht t hm).1) (h _ (a4E ht ⟨rfl, by simp [V2]⟩))
theorem b3e {pairs R i t f args rest s Q} {env : Env} {l : List D} {P : D -> M1 -> Prop} (hr : EvP fs f l s P) (hP : ∀ d s', P d s' -> Fr [] s s') (hR : ∀ id ∈ R, id < s.next) (hp : (rest.all fun o => pairs.all fun p => p.2 != o.1) = true) (ha : env.evL args = l)
 (h : ∀ d s', P d s' -> WQ fs [] rest ((t, d) :: env) s' Q) : WQT fs pairs R ((i, ⟨some t, .m (.call .raw (.cst (.fn f [])) args), none⟩) :: rest) env s Q := by
 subst ha
 obtain ⟨d, s', ⟨n, hn⟩, hd⟩ := hr
 have hF := hP d s' hd
 intro tr ht
 refine a07 rfl n (d := d) (s' := s') (by simp only [P1, evM, a0K, Env.ev, List.append_nil]; exact hn) ?_ ?_
 ·have key : ∀ {l : List Tr}, (∀ x ∈ l, x.pre = x.post /\ ∀ j, x.rd = some j -> j ∈ R) -> Y8 pairs ⟨i, none, s, s'⟩ l = true := by
   intro l
   induction l with
   | nil => intro _; rfl
   | cons t r ih =>
     intro hl
     have h1 := hl t (by simp)
     have st1 : X3 s s' t.rd = true := by
      cases hrd : t.rd with
      | none => rfl
      | some j =>
        have hj := hR j (h1.2 j hrd)
        simp only [X3]
        rw [hF.2 j hj (by simp)]
        exact a4X _
     have st2 : X3 t.pre t.post none = true := rfl
     simp only [Y8, st1, st2, Bool.and_self, ite_self, Bool.true_and]
     exact ih fun x hx => hl x (by simp [hx])
  exact key ht
 ·obtain ⟨m, env', s2, h1, h2⟩ := h d s' hd [] a6l
  exact ⟨m, env', s2, a4R hp h1, h2⟩
theorem U3 {pairs ops env s Q} {Φ : M1 -> Prop} (h : Φ s) (k : ∀ s', Φ s' -> WQ fs pairs ops env s' Q) : WQ fs pairs ops env s Q := k s h
theorem b0n {pairs R ops env s Q} {Φ : M1 -> Prop} (h : Φ s) (k : ∀ s', Φ s' -> WQT fs pairs R ops env s' Q) : WQT fs pairs R ops env s Q := k s h
theorem c0G {vars c env s Q} {Φ : M1 -> Prop} (h : Φ s) (k : ∀ s', Φ s' -> WP fs vars c env s' Q) : WP fs vars c env s Q := k s h
theorem zT {F P Q : Prop} (f : F) (k : Q) (h : F -> Q -> P := by
 intro f k
 (first|(with_reducible refine a7D ?_)|((with_reducible apply a7l); (focus (simp (disch := (first|with_reducible assumption|omega|((repeat (first|rw [nP]|rw [nS]))<;>omega)|fail)) only [go_sem, Env.ev, Env.get, ↓reduceIte, f] <;> rfl)))|((with_reducible apply a63); (focus (simp only [Env.ev, Env.get, Nat.reduceEqDiff, ↓reduceIte, O8.at, Nat.add_zero, Nat.zero_add, f] <;> rfl)); (focus (simp (disch := (first|with_reducible assumption|omega|((repeat (first|rw [nP]|rw [nS]))<;>omega)|fail)) only [go_sem, Env.ev, Env.get, ↓reduceIte, f] <;> rfl)))|((with_reducible apply a8h); (focus (simp only [Env.ev, Env.get, Nat.reduceEqDiff, ↓reduceIte, O8.at, Nat.add_zero, Nat.zero_add, f] <;> rfl)); (focus (simp (disch := (first|with_reducible assumption|omega|((repeat (first|rw [nP]|rw [nS]))<;>omega)|fail)) only [go_sem, Env.ev, Env.get, ↓reduceIte, f] <;> rfl)))|(with_reducible first|apply vA|apply vB|apply vC)|((with_reducible apply vD); (focus rfl))|((with_reducible first|apply vE|apply vF|apply vG|apply vH); simp only [Env.keep, Env.get, Env.ev, List.map, Nat.reduceEqDiff, ↓reduceIte, P0, N4])|((with_reducible first|apply vI|apply vJ|apply vK|apply vL|apply vM|apply vN); (focus (simp (disch := (first|with_reducible assumption|omega|((repeat (first|rw [nP]|rw [nS]))<;>omega)|fail)) only [go_sem, Env.ev, Env.get, ↓reduceIte, f] <;> rfl)); (first|(with_reducible (first|apply vO|apply vP|apply vQ|apply vR|apply vS|apply vT|apply vU); try simp only [Env.put])|with_reducible refine (?_ : WQ _ _ _ _ _ _))))
 repeat (first|(with_reducible refine a7D ?_)|((with_reducible apply a7l); (focus (simp (disch := (first|with_reducible assumption|omega|((repeat (first|rw [nP]|rw [nS]))<;>omega)|fail)) only [go_sem, Env.ev, Env.get, ↓reduceIte, f] <;> rfl)))|((with_reducible apply a63); (focus (simp only [Env.ev, Env.get, Nat.reduceEqDiff, ↓reduceIte, O8.at, Nat.add_zero, Nat.zero_add, f] <;> rfl)); (focus (simp (disch := (first|with_reducible assumption|omega|((repeat (first|rw [nP]|rw [nS]))<;>omega)|fail)) only [go_sem, Env.ev, Env.get, ↓reduceIte, f] <;> rfl)))|((with_reducible apply a8h); (focus (simp only [Env.ev, Env.get, Nat.reduceEqDiff, ↓reduceIte, O8.at, Nat.add_zero, Nat.zero_add, f] <;> rfl)); (focus (simp (disch := (first|with_reducible assumption|omega|((repeat (first|rw [nP]|rw [nS]))<;>omega)|fail)) only [go_sem, Env.ev, Env.get, ↓reduceIte, f] <;> rfl)))|(with_reducible first|apply vA|apply vB|apply vC)|((with_reducible apply vD); (focus rfl))|((with_reducible first|apply vE|apply vF|apply vG|apply vH); simp only [Env.keep, Env.get, Env.ev, List.map, Nat.reduceEqDiff, ↓reduceIte, P0, N4])|((with_reducible first|apply vI|apply vJ|apply vK|apply vL|apply vM|apply vN); (focus (simp (disch := (first|with_reducible assumption|omega|((repeat (first|rw [nP]|rw [nS]))<;>omega)|fail)) only [go_sem, Env.ev, Env.get, ↓reduceIte, f] <;> rfl)); (first|(with_reducible (first|apply vO|apply vP|apply vQ|apply vR|apply vS|apply vT|apply vU); try simp only [Env.put])|with_reducible refine (?_ : WQ _ _ _ _ _ _))))
 exact k) : P := h f k
end Go.V
namespace Go.Proofs.YtnjlhebkhjcagaaGreat
open Go.V
set_option maxRecDepth 100000
set_option maxHeartbeats 4000000
theorem a5e {s : M1} {p : Pr} {x : PrD} (hp : N8 s p x) (hl : Q2 p 1000000) :
 EvP vfs 89 [.agg (M4 p x)] s fun r s' => ∃ x', r = .tup [.agg (M4 p.place x'), .int .i64 (p.places : Int)] /\ Fr [] s s' /\ N8 s' p.place x' := by
 have o1 := hp.l.one
 have o2 := hp.r.one
 have o3 := hp.e.one
 have o4 := hp.n.one
 have o5 := hp.v.one
 have hpl := hl.pl
 have hrl := hl.rl
 have e1 : IntKind.i64.wrap ((p.places : Int) + 1) = ((p.places + 1 : Nat) : Int) := by rw [O4 (by omega) (by omega)]; omega
 have e2 : IntKind.i64.wrap (((p.places + 1 : Nat) : Int) - 1) = (p.places : Int) := by rw [O4 (by omega) (by omega)]; omega
 unfold M4
 refine M8 (vf := a7h) rfl ?_
 unfold a7h; refine zE ?_
 try refine zW (aN o1 (aN o2 (aN o3 (aN o4 (aN o5 e1))))) ?_
 refine a02 (a46 (old := []) (rows := S2 p.rest) (sz := 1) (bytes := 1) (d := x.dr) ?_ (by simp) ?_ (a3j _) (by decide) (by simp; omega)) rfl rfl ?_
 ·exact O5 rfl
 ·exact hp.r.stay ((((Fr.push _).thenPush _).thenSet _ (.inr (Nat.le_refl _))).thenPush _)
 rintro d1 s1 ⟨id1, rfl, k1, f1, g1⟩
 have fr1 : Fr [] s s1 := Fr.trans ((((Fr.push _).thenPush _).thenSet _ (.inr (Nat.le_refl _))).thenPush _) f1 (by simp; omega)
 have n1 := f1.1
 have kb := f1.2 s.next (by simp only [M1.next_push, M1.next_set]; omega) (by simp only [M1.next_push, M1.next_set, List.mem_singleton]; omega)
 have kz := f1.2 (s.next + 1) (by simp only [M1.next_push, M1.next_set]; omega) (by simp only [M1.next_push, M1.next_set, List.mem_singleton]; omega)
 simp only [M1.next_push, M1.next_set] at n1 g1
 rw [R7 (by simp only [M1.next_push, M1.next_set]; omega), P6 (by simp only [M1.next_push]; omega)] at kb
 rw [R7 (by simp only [M1.next_push, M1.next_set]; omega), O9 (by omega), O5 (by simp only [M1.next_push])] at kz
 have hid1 : s.next + 2 <= id1 := by omega
 clear f1 g1
 rw [List.nil_append] at k1
 simp only [List.nil_append, a4s]
 have lid := M7 k1
 try refine zW0 ?_
 refine a02 (a46 (old := S2 p.rest) (rows := S2 [false]) (sz := 1) (bytes := 1) (d := .arr s1.next 0 1 1) ?_ (a3j _) (SN.of (O5 rfl) rfl) (a3j _) (by decide) (by simp; omega)) (by rw [a4s]; rfl) rfl ?_
 ·rw [R7 lid, k1]
 rintro d2 s2 ⟨id2, rfl, k2, f2, g2⟩
 have fr2 : Fr [] s s2 := (fr1.thenPush _).trans f2 (by simp; omega)
 have n2 := f2.1
 have kb2 := f2.2 s.next (by simp only [M1.next_push]; omega) (by simp only [List.mem_singleton]; omega)
 have kz2 := f2.2 (s.next + 1) (by simp only [M1.next_push]; omega) (by simp only [List.mem_singleton]; omega)
 simp only [M1.next_push] at n2 g2
 rw [R7 (by omega), kb] at kb2
 rw [R7 (by omega), kz] at kz2
 have hid2 : s.next + 2 <= id2 := by omega
 clear f2 g2 kb kz
 rw [<- b2g] at k2
 rw [<- b2g, a4s]
 have lid2 := M7 k2
 try refine zT (aN kb2 (aN kz2 (aN o1 (aN o3 (aN o4 (aN o5 e2)))))) ?_
 refine c2W (id := s.next + 1) (ob := .cells [.str p.name, .int .i64 (p.copy : Int), x.dl, .int .i64 ((p.places + 1 : Nat) : Int), .arr id2 0 (p.rest ++ [false]).length 1, x.de, x.dn, x.dv]) ?_ (by simp) rfl ?_
 ·simp (disch := (first|with_reducible assumption|omega|((repeat (first|rw [nP]|rw [nS]))<;>omega)|fail)) only [go_sem, Env.ev, Env.get, ↓reduceIte, kz2, o1, o3, o4, o5]
 try refine zW0 ?_
 have fr3 : Fr [] s ((s2.set s.next (some (.cells [.str p.name, .int .i64 (p.copy : Int), x.dl, .int .i64 ((p.places + 1 : Nat) : Int), .arr id2 0 (p.rest ++ [false]).length 1, x.de, x.dn, x.dv]))).set (s.next + 1) (some (.cells [.str p.name, .int .i64 (p.copy : Int), x.dl, .int .i64 ((p.places + 1 : Nat) : Int), .arr id2 0 (p.rest ++ [false]).length 1, x.de, x.dn, x.dv]))) := (fr2.thenSet _ (.inr (Nat.le_refl _))).thenSet _ (.inr (Nat.le_succ _))
 refine ⟨.inr trivial, _, ?_, ⟨x.dl, .arr id2 0 (p.rest ++ [false]).length 1, x.de, x.dn, x.dv⟩, rfl, fr3, ?_⟩
 ·simp only [R9, S1, T0, Env.get, Nat.reduceEqDiff, ↓reduceIte, O8.at, M1.next_push, P6 (s := s2.set s.next _) (i := s.next + 1) (by simp only [M1.next_set]; omega)]
  rfl
 refine ⟨hp.l.stay fr3, SN.of ?_ (by simp [Pr.place]), hp.e.stay fr3, hp.n.stay fr3, hp.v.stay fr3⟩
 rw [O9 (by omega), O9 (by omega), k2]
 rfl
end Go.Proofs.YtnjlhebkhjcagaaGreat
