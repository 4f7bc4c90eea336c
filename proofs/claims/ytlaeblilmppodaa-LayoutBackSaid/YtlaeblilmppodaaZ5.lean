/- Texts one behind the other. -/
import Derived.Test.YtlaeblilmppodaaZ4
import Derived.Test.YtlaeblilmppodaaZ3
import Derived.Test.YtlaeblilmppodaaVt
import Derived.Test.YtlaeblilmppodaaZ1
set_option linter.unusedSimpArgs false
set_option linter.unusedVariables false
namespace Go.V
structure PrF (p : Pr) (x : PrD) : Prop where
 l : FL 1 x.dl (rowsN p.locals)
 r : FL 1 x.dr (rowsB p.rest)
 e : FL 8 x.de (rowsE p.edges)
 n : FL 1 x.dn (rowsS p.names)
 v : FL 1 x.dv (rowsN p.vars)
structure MoF (m : MdX) (mo : Mo) (ps : List (Pr × PrD)) : Prop where
 tr : TreeAt m.dt mo.tree
 c : FL 5 m.dc (rowsC mo.chans)
 v : FL 3 m.dv (rowsV mo.vars)
 p : FL 8 m.dp (rowsP ps)
 eq : ps.map Prod.fst = mo.procs
 at' : ∀ q ∈ ps, PrF q.1 q.2
 sf : FL 1 m.ds (rowsN mo.safe)
 g : m.g = (mo.globals : Int)
 b : m.b = mo.dead
def mapL (f : D -> Option D) : List (List D) -> Option (List (List D))
 | [] => some []
 | r :: rs => match mapO f r, mapL f rs with
   | some a, some b => some (a :: b)
   | _, _ => none
theorem mapO_append {f : D -> Option D} : ∀ {a b a' b' : List D}, mapO f a = some a' -> mapO f b = some b' -> mapO f (a ++ b) = some (a' ++ b')
 | [], b, a', b', h1, h2 => by simp only [mapO, Option.some.injEq] at h1; subst h1; simpa using h2
 | d :: r, b, a', b', h1, h2 => by
   simp only [mapO] at h1
   split at h1
   ·rename_i x l e1 e2
    simp only [Option.some.injEq] at h1
    subst h1
    rw [List.cons_append, mapO, e1, mapO_append e2 h2]
    rfl
   ·cases h1
theorem mapO_len {f : D -> Option D} : ∀ {a a' : List D}, mapO f a = some a' -> a'.length = a.length
 | [], a', h => by simp only [mapO, Option.some.injEq] at h; subst h; rfl
 | d :: r, a', h => by
   simp only [mapO] at h
   split at h
   ·rename_i x l e1 e2
    simp only [Option.some.injEq] at h
    subst h
    simp [mapO_len e2]
   ·cases h
theorem mapL_flat {f : D -> Option D} : ∀ {rows rows' : List (List D)}, mapL f rows = some rows' -> mapO f rows.flatten = some rows'.flatten /\ rows'.length = rows.length
 | [], rows', h => by simp only [mapL, Option.some.injEq] at h; subst h; exact ⟨rfl, rfl⟩
 | r :: rs, rows', h => by
   simp only [mapL] at h
   split at h
   ·rename_i a b e1 e2
    simp only [Option.some.injEq] at h
    subst h
    obtain ⟨h1, h2⟩ := mapL_flat e2
    exact ⟨by simp only [List.flatten_cons]; exact mapO_append e1 h1, by simp [h2]⟩
   ·cases h
theorem mapL_len {f : D -> Option D} {sz : Nat} : ∀ {rows rows' : List (List D)}, mapL f rows = some rows' -> (∀ r ∈ rows, r.length = sz) -> ∀ r ∈ rows', r.length = sz
 | [], rows', h, _ => by simp only [mapL, Option.some.injEq] at h; subst h; simp
 | r :: rs, rows', h, hr => by
   simp only [mapL] at h
   split at h
   ·rename_i a b e1 e2
    simp only [Option.some.injEq] at h
    subst h
    intro y hy
    rcases List.mem_cons.1 hy with rfl | hy
    ·rw [mapO_len e1]; exact hr r (by simp)
    ·exact mapL_len e2 (fun x hx => hr x (by simp [hx])) y hy
   ·cases h
theorem chunk_flat {sz : Nat} : ∀ {rows : List (List D)}, (∀ r ∈ rows, r.length = sz) -> chunk sz rows.length rows.flatten = rows
 | [], _ => rfl
 | r :: rs, h => by
   have hr := h r (by simp)
   rw [List.length_cons, chunk, List.flatten_cons]
   rw [List.take_append_of_le_length (by omega), List.take_of_length_le (by omega), List.drop_append_of_le_length (by omega), List.drop_of_length_le (by omega), List.nil_append, chunk_flat fun x hx => h x (by simp [hx])]
theorem SN.frz {s : Store} {sz : Nat} {d : D} {rows rows' : List (List D)} {n : Nat} (h : SN s sz d rows) (hr : ∀ r ∈ rows, r.length = sz) (hm : mapL (ice s.get n) rows = some rows') (hl : d = .lst sz rows -> rows' = rows) : ∃ d', ice s.get (n + 1) d = some d' /\ FL sz d' rows' := by
 rcases h with ⟨rfl, rfl⟩ | ⟨id, rfl, hg⟩ | rfl
 ·simp only [mapL, Option.some.injEq] at hm
  exact ⟨.nils, rfl, .inl ⟨rfl, hm.symm⟩⟩
 ·have hrow := (SN.row (s := s) (.inr (.inl ⟨id, rfl, hg⟩)) hr).1
  obtain ⟨h1, h2⟩ := mapL_flat hm
  refine ⟨.lst sz rows', ?_, .inr rfl⟩
  simp only [ice, hrow, h1, Option.map_some]
  rw [<- h2, chunk_flat (mapL_len hm hr)]
 ·exact ⟨.lst sz rows, rfl, .inr (by rw [hl rfl])⟩
theorem mapL_scal {g : Look} {n : Nat} : ∀ {rows : List (List D)}, (∀ r ∈ rows, r.all scal1 = true) -> mapL (ice g (n + 1)) rows = some rows
 | [], _ => rfl
 | r :: rs, h => by
   rw [mapL, mapO_ice (h r (by simp)), mapL_scal fun x hx => h x (by simp [hx])]
theorem SN.frz1 {s : Store} {sz : Nat} {d : D} {rows : List (List D)} {n : Nat} (h : SN s sz d rows) (hr : ∀ r ∈ rows, r.length = sz) (hs : ∀ r ∈ rows, r.all scal1 = true) : ∃ d', ice s.get (n + 2) d = some d' /\ FL sz d' rows := h.frz hr (mapL_scal hs) fun _ => rfl
theorem rowsN_scal (l : List Nat) : ∀ r ∈ rowsN l, r.all scal1 = true := by intro r h; obtain ⟨b, _, rfl⟩ := List.mem_map.1 h; rfl
theorem rowsB_scal (l : List Bool) : ∀ r ∈ rowsB l, r.all scal1 = true := by intro r h; obtain ⟨b, _, rfl⟩ := List.mem_map.1 h; rfl
theorem rowsS_scal (l : List ByteArray) : ∀ r ∈ rowsS l, r.all scal1 = true := by intro r h; obtain ⟨b, _, rfl⟩ := List.mem_map.1 h; rfl
theorem rowsE_scal (l : List Ed) : ∀ r ∈ rowsE l, r.all scal1 = true := by intro r h; obtain ⟨b, _, rfl⟩ := List.mem_map.1 h; rfl
theorem rowsC_scal (l : List Ch) : ∀ r ∈ rowsC l, r.all scal1 = true := by intro r h; obtain ⟨b, _, rfl⟩ := List.mem_map.1 h; rfl
theorem rowsV_scal (l : List Vr) : ∀ r ∈ rowsV l, r.all scal1 = true := by intro r h; obtain ⟨b, _, rfl⟩ := List.mem_map.1 h; rfl
theorem PrAt.frz {s : Store} {p : Pr} {x : PrD} (h : PrAt s p x) (n : Nat) : ∃ x', mapO (ice s.get (n + 2)) (prRow p x) = some (prRow p x') /\ PrF p x' := by
 obtain ⟨dl, a1, b1⟩ := h.l.frz1 (n := n) (rowsN_len _) (rowsN_scal _)
 obtain ⟨dr, a2, b2⟩ := h.r.frz1 (n := n) (rowsB_len _) (rowsB_scal _)
 obtain ⟨de, a3, b3⟩ := h.e.frz1 (n := n) (rowsE_len _) (rowsE_scal _)
 obtain ⟨dn, a4, b4⟩ := h.n.frz1 (n := n) (rowsS_len _) (rowsS_scal _)
 obtain ⟨dv, a5, b5⟩ := h.v.frz1 (n := n) (rowsN_len _) (rowsN_scal _)
 refine ⟨⟨dl, dr, de, dn, dv⟩, ?_, b1, b2, b3, b4, b5⟩
 simp only [prRow, mapO, ice, a1, a2, a3, a4, a5]
theorem procs_frz {s : Store} (n : Nat) : ∀ {ps : List (Pr × PrD)}, (∀ q ∈ ps, PrAt s q.1 q.2) -> ∃ ps', mapL (ice s.get (n + 2)) (rowsP ps) = some (rowsP ps') /\ ps'.map Prod.fst = ps.map Prod.fst /\ ∀ q ∈ ps', PrF q.1 q.2
 | [], _ => ⟨[], rfl, rfl, by simp⟩
 | q :: qs, h => by
   obtain ⟨x', h1, h2⟩ := (h q (by simp)).frz n
   obtain ⟨ps', h3, h4, h5⟩ := procs_frz n (ps := qs) fun y hy => h y (by simp [hy])
   refine ⟨(q.1, x') :: ps', ?_, by simp [h4], ?_⟩
   ·simp only [rowsP, List.map_cons] at h3 ⊢
    simp only [mapL, h1, h3]
   ·intro y hy
    rcases List.mem_cons.1 hy with rfl | hy
    ·exact h2
    ·exact h5 y hy
theorem MoAt.frz {s : Store} {m : MdX} {mo : Mo} {ps : List (Pr × PrD)} (h : MoAt s m mo ps) (hn : m.dp ≠ .lst 8 (rowsP ps)) (b : Bool) : ∃ m' ps', ice s.get 20 (.tup [.agg (mdRow m), .bool b]) = some (.tup [.agg (mdRow m'), .bool b]) /\ MoF m' mo ps' := by
 obtain ⟨dc, a1, b1⟩ := h.c.frz1 (n := 16) (rowsC_len _) (rowsC_scal _)
 obtain ⟨dv, a2, b2⟩ := h.v.frz1 (n := 16) (rowsV_len _) (rowsV_scal _)
 obtain ⟨ds, a3, b3⟩ := h.sf.frz1 (n := 16) (rowsN_len _) (rowsN_scal _)
 obtain ⟨ps', h1, h2, h3⟩ := procs_frz 15 h.at'
 obtain ⟨dp, a4, b4⟩ := h.p.frz (n := 17) (rowsP_len _) h1 (fun e => (hn e).elim)
 have a5 : ice s.get 18 m.dt = some m.dt := h.tr.fl.ice
 refine ⟨⟨m.dt, dc, dv, dp, ds, m.g, m.b⟩, ps', ?_, ⟨h.tr, b1, b2, b4, h2.trans h.eq, h3, b3, h.g, h.b⟩⟩
 have e1 : ice s.get 18 (.int .i64 m.g) = some (.int .i64 m.g) := rfl
 have e2 : ice s.get 18 (.bool m.b) = some (.bool m.b) := rfl
 have e3 : mapO (ice s.get 18) (mdRow m) = some (mdRow ⟨m.dt, dc, dv, dp, ds, m.g, m.b⟩) := by
  simp only [mdRow, mapO, a5, e1, a1, a2, a4, a3, e2]
 have e4 : ice s.get 19 (.agg (mdRow m)) = some (.agg (mdRow ⟨m.dt, dc, dv, dp, ds, m.g, m.b⟩)) := by
  simp only [ice, e3, Option.map_some]
 have e5 : ice s.get 19 (.bool b) = some (.bool b) := rfl
 show (mapO (ice s.get 19) [.agg (mdRow m), .bool b]).map D.tup = _
 simp only [mapO, e4, e5, Option.map_some]
theorem MoF.fz {m : MdX} {mo : Mo} {ps : List (Pr × PrD)} (h : MoF m mo ps) : Fz (.agg (mdRow m)) := fz_agg fun d hd => by
 simp only [mdRow, List.mem_cons, List.not_mem_nil, or_false] at hd
 rcases hd with rfl | rfl | rfl | rfl | rfl | rfl | rfl
 ·exact FL.ic h.tr.fl
 ·exact fun _ _ => rfl
 ·exact FL.ic h.c
 ·exact FL.ic h.v
 ·exact FL.ic h.p
 ·exact FL.ic h.sf
 ·exact fun _ _ => rfl
theorem MoF.ones {m : MdX} {mo : Mo} {ps : List (Pr × PrD)} (h : MoF m mo ps) : oneCell m.dt = true /\ oneCell m.dc = true /\ oneCell m.dv = true /\ oneCell m.dp = true /\ oneCell m.ds = true := ⟨FL.one h.tr.fl, h.c.one, h.v.one, h.p.one, h.sf.one⟩
theorem PrF.ones {p : Pr} {x : PrD} (h : PrF p x) : oneCell x.dl = true /\ oneCell x.dr = true /\ oneCell x.de = true /\ oneCell x.dn = true /\ oneCell x.dv = true := ⟨h.l.one, h.r.one, h.e.one, h.n.one, h.v.one⟩
theorem PrF.fz {p : Pr} {x : PrD} (h : PrF p x) : Fz (.agg (prRow p x)) := fz_agg fun d hd => by
 simp only [prRow, List.mem_cons, List.not_mem_nil, or_false] at hd
 rcases hd with rfl | rfl | rfl | rfl | rfl | rfl | rfl | rfl
 ·exact fun _ _ => rfl
 ·exact fun _ _ => rfl
 ·exact FL.ic h.l
 ·exact fun _ _ => rfl
 ·exact FL.ic h.r
 ·exact FL.ic h.e
 ·exact FL.ic h.n
 ·exact FL.ic h.v
theorem MoF.plen {m : MdX} {mo : Mo} {ps : List (Pr × PrD)} (h : MoF m mo ps) : ps.length = mo.procs.length := by rw [<- h.eq, List.length_map]
theorem MoF.proc {m : MdX} {mo : Mo} {ps : List (Pr × PrD)} (h : MoF m mo ps) {i : Nat} (hi : i < mo.procs.length) : ∃ x, PrF mo.procs[i] x /\ ∀ k : IntKind, idxAV 8 m.dp (.int k (i : Int)) = some (.fp (prRow mo.procs[i] x) 0) := by
 have hi' : i < ps.length := by rw [h.plen]; exact hi
 have e : mo.procs[i] = ps[i].1 := by simp [<- h.eq]
 rw [e]
 refine ⟨ps[i].2, h.at' _ (List.getElem_mem hi'), fun k => ?_⟩
 rw [h.p.idx (by simpa using hi')]
 simp [rowsP]
theorem MoF.lenP {m : MdX} {mo : Mo} {ps : List (Pr × PrD)} (h : MoF m mo ps) : lenV false m.dp = some (.int .i64 (mo.procs.length : Int)) := by rw [h.p.len, rowsP_length, h.plen]
theorem FLN.idx {d : D} {l : List Nat} (h : FL 1 d (rowsN l)) {i : Nat} (hi : i < l.length) {k : IntKind} : idxAV 1 d (.int k (i : Int)) = some (.fp [.int .i64 (l[i] : Int)] 0) := by
 rw [h.idx (by simpa using hi)]; simp [rowsN]
theorem FLS.idx {d : D} {l : List ByteArray} (h : FL 1 d (rowsS l)) {i : Nat} (hi : i < l.length) {k : IntKind} : idxAV 1 d (.int k (i : Int)) = some (.fp [.str l[i]] 0) := by
 rw [h.idx (by simpa using hi)]; simp [rowsS]
theorem FLB.idx {d : D} {l : List Bool} (h : FL 1 d (rowsB l)) {i : Nat} (hi : i < l.length) {k : IntKind} : idxAV 1 d (.int k (i : Int)) = some (.fp [.bool l[i]] 0) := by
 rw [h.idx (by simpa using hi)]; simp [rowsB]
theorem FLE.idx {d : D} {l : List Ed} (h : FL 8 d (rowsE l)) {i : Nat} (hi : i < l.length) {k : IntKind} : idxAV 8 d (.int k (i : Int)) = some (.fp l[i].row 0) := by
 rw [h.idx (by simpa using hi)]; simp [rowsE]
theorem FLC.idx {d : D} {l : List Ch} (h : FL 5 d (rowsC l)) {i : Nat} (hi : i < l.length) {k : IntKind} : idxAV 5 d (.int k (i : Int)) = some (.fp l[i].row 0) := by
 rw [h.idx (by simpa using hi)]; simp [rowsC]
theorem FLV.idx {d : D} {l : List Vr} (h : FL 3 d (rowsV l)) {i : Nat} (hi : i < l.length) {k : IntKind} : idxAV 3 d (.int k (i : Int)) = some (.fp l[i].row 0) := by
 rw [h.idx (by simpa using hi)]; simp [rowsV]
end Go.V
namespace Go.V
def csum (t : List Nd) (kind : Int) : Nat -> Int
 | 0 => 0
 | i + 1 => csum t kind i + if (nd t i).kind = kind then stepF t kind i else 0
theorem csum_eq {t : List Nd} {kind : Int} : ∀ {n : Nat}, sumF t kind n < 100 -> sumF t kind n = csum t kind n
 | 0, _ => rfl
 | n + 1, h => by
   rw [csum]
   rw [sumF] at h ⊢
   by_cases c : (nd t n).kind = kind
   ·by_cases d : sumF t kind n < 100
    ·rw [if_pos ⟨d, c⟩, if_pos c, csum_eq d]
    ·rw [if_neg (by omega)] at h
     omega
   ·rw [if_neg (by omega)] at h ⊢
    rw [if_neg c, csum_eq h]
    omega
theorem sum_le {t : List Nd} {kind B : Int} (hB : 0 <= B) (h : ∀ i, i < t.length -> (nd t i).kind = kind -> sumF t kind (i + 1) <= B) : ∀ {n : Nat}, n <= t.length -> sumF t kind n <= B
 | 0, _ => by simpa [sumF] using hB
 | n + 1, hn => by
   by_cases c : (nd t n).kind = kind
   ·exact h n (by omega) c
   ·rw [sumF, if_neg (by omega)]
    exact sum_le hB h (by omega)
theorem total_le {t : List Nd} {kind B : Int} (hB : 0 <= B) (hB2 : B < 100) (h : ∀ i, i < t.length -> (nd t i).kind = kind -> sumF t kind (i + 1) <= B) : csum t kind t.length <= B := by
 have := sum_le hB h (Nat.le_refl t.length)
 rw [csum_eq (by omega)] at this
 exact this
def adds (t : List Nd) (kind : Int) (w : Nat -> Nat) (ks : List Int) : Int := (ks.map fun k => ((w k.toNat : Nat) : Int)).sum
theorem csum_items {t : List Nd} {kind : Int} {w : Nat -> Nat} : ∀ {ks : List Int} {a n : Nat}, Subs t ks a n -> (∀ (k b : Nat), (k : Int) ∈ ks -> Sub t k b -> csum t kind b = csum t kind k + ((w k : Nat) : Int)) -> csum t kind n = csum t kind a + adds t kind w ks
 | [], a, n, h, _ => by simp only [Subs] at h; subst h; simp [adds]
 | k :: ks, a, n, h, hw => by
   obtain ⟨rfl, b, h1, h2⟩ := h
   rw [csum_items h2 fun k b hk hs => hw k b (by simp [hk]) hs, hw a b (by simp) h1]
   simp only [adds, List.map_cons, List.sum_cons, Int.toNat_natCast]
   omega
theorem csum_none {t : List Nd} {kind : Int} {a : Nat} : ∀ {b : Nat}, a <= b -> (∀ j, a <= j -> j < b -> (nd t j).kind ≠ kind) -> csum t kind b = csum t kind a
 | 0, h, _ => by
   obtain rfl : a = 0 := by omega
   rfl
 | b + 1, h, hn => by
   by_cases e : a = b + 1
   ·subst e; rfl
   ·rw [csum, if_neg (hn b (by omega) (by omega)), csum_none (b := b) (by omega) fun j h1 h2 => hn j h1 (by omega)]
    omega
theorem loc_kids {t : List Nd} (h : RightT t) {g : Nat} : ∀ {ks : List Int} {a n : Nat}, KF t g ks a n -> n <= t.length -> ∀ l, l < ((ks.map Int.toNat).takeWhile fun k => (nd t k).kind == 2).length -> ∃ hl : l < ks.length, ks[l].toNat = a + l
 | [], a, n, _, _, l, hl => by simp at hl
 | z :: zs, a, n, hk, hn, l, hl => by
   obtain ⟨rfl, h1, b, h2, h3, h4, h5⟩ := hk.cons
   rw [List.map_cons, List.takeWhile_cons] at hl
   split at hl
   ·rename_i h2k
    have hk2 : (nd t a).kind = 2 := by simpa using h2k
    cases l with
    | zero => exact ⟨by simp, by simp⟩
    | succ l =>
      obtain ⟨g', rfl, hkk⟩ := walk_kf h2
      rw [(h.ok.node a h1).none (by omega)] at hkk
      obtain rfl := hkk.nil
      obtain ⟨i1, i2⟩ := loc_kids h h5 hn l (by simpa using hl)
      exact ⟨by simpa using i1, by simp only [List.getElem_cons_succ]; omega⟩
   ·simp at hl
theorem loc_at {t : List Nd} (h : RightT t) {k : Nat} (hk : k ∈ (nd t 0).ks) {l : Nat} (hl : l < locN t (nd t k)) : (nd t k).kid l = k + 1 + l := by
 obtain ⟨k1, k2, b, b1, b2, b3, b4⟩ := h.item hk
 obtain ⟨i1, i2⟩ := loc_kids h b4 b3 l hl
 rw [kid_get i1, i2]
theorem csum_var3 {t : List Nd} (h : RightT t) (hT : Typed t) {k b : Nat} (hk : k ∈ (nd t 0).ks) (h3 : (nd t k).kind = 3) (hs : Sub t k b) : csum t 2 b = csum t 2 k + ((((nd t k).num 0).toNat * locN t (nd t k) : Nat) : Int) := by
 have hc := copies_le h hT hk h3
 have hit := item_range h hk hs
 have hkl : k < t.length := by have := hs.lt; have := hs.le; omega
 have hp := loc_proc ((h.ok.node k hkl).proc h3)
 have hst : ∀ j, k <= j -> j < b -> stepF t 2 j = (nd t k).num 0 := fun j h1 h2 => by
  unfold stepF copiesF
  rw [if_neg (by decide), hit j h1 h2, if_pos h3]
  omega
 have hkb : ∀ l, l < locN t (nd t k) -> k + 1 + l < b /\ (nd t (k + 1 + l)).kind = 2 := fun l hl => by
  have hll := locN_le t (nd t k)
  have hl' : l < (nd t k).ks.length := by omega
  have e := locN_in hl hl'
  have e2 := loc_at h hk hl
  rw [ks_get hl', e2] at e
  have hm : k + 1 + l ∈ (nd t k).ks := by rw [<- e2]; exact kid_mem (by rw [<- ks_len]; exact hl')
  obtain ⟨z, hz, ez⟩ := List.mem_map.1 hm
  have := hs.down k (Nat.le_refl _) hs.lt z hz
  exact ⟨by omega, e⟩
 have pre : ∀ l, l <= locN t (nd t k) -> csum t 2 (k + 1 + l) = csum t 2 k + (nd t k).num 0 * (l : Int) := by
  intro l
  induction l with
  | zero =>
    intro _
    show csum t 2 (k + 1) = _
    rw [csum, if_neg (by omega)]
    simp
  | succ l ih =>
    intro hl
    have hb := hkb l (by omega)
    show csum t 2 (k + 1 + l + 1) = _
    rw [csum, if_pos hb.2, hst (k + 1 + l) (by omega) hb.1, ih (by omega), Int.natCast_succ, Int.mul_add]
    omega
 have hle : k + 1 + locN t (nd t k) <= b := by
  have := hs.lt
  rcases Nat.eq_zero_or_pos (locN t (nd t k)) with e | e
  ·omega
  ·have := hkb (locN t (nd t k) - 1) (by omega)
   omega
 rw [csum_none hle fun j j1 j2 e => ?_, pre _ (Nat.le_refl _)]
 ·rw [Int.natCast_mul, Int.toNat_of_nonneg (by omega)]
 ·have hjl : j < t.length := by have := hs.le; omega
  have hij := hit j (by omega) j2
  rcases var_kind h hjl e with v | ⟨p, p1, p2, p3⟩
  ·have := item_self h (ks_z h v)
   omega
  ·obtain ⟨q1, q2, c, c1, c2, c3, c4⟩ := h.item p1
   have hpm : j ∈ (nd t p).ks := List.mem_of_mem_take p3
   have hsp := (walk_ok 19 q2 c1).1
   obtain ⟨z, hz, ez⟩ := List.mem_map.1 hpm
   have hd := hsp.down p (Nat.le_refl _) hsp.lt z hz
   have := item_range h p1 hsp j (by omega) (by omega)
   obtain rfl : p = k := by omega
   obtain ⟨l, hl, e2⟩ := List.getElem_of_mem p3
   have hl' : l < locN t (nd t p) := by simp at hl; omega
   rw [List.getElem_take, ks_get (by simp at hl; omega), loc_at h p1 hl'] at e2
   omega
def varW (t : List Nd) (k : Nat) : Nat := if (nd t k).kind = 2 then 1 else if (nd t k).kind = 3 then ((nd t k).num 0).toNat * locN t (nd t k) else 0
theorem csum_var {t : List Nd} (h : RightT t) (hT : Typed t) {k b : Nat} (hk : k ∈ (nd t 0).ks) (hs : Sub t k b) : csum t 2 b = csum t 2 k + ((varW t k : Nat) : Int) := by
 unfold varW
 have hkl : k < t.length := by have := hs.lt; have := hs.le; omega
 by_cases c2 : (nd t k).kind = 2
 ·rw [if_pos c2]
  have hb : b = k + 1 := by
   have := hs.lt
   by_cases e : b = k + 1
   ·exact e
   ·obtain ⟨p, p1, p2, p3⟩ := hs.up (k + 1) (by omega) (by omega)
    have := hs.down p p1 p2 _ p3
    obtain rfl : p = k := by omega
    rw [(h.ok.node p hkl).none (by omega)] at p3
    simp at p3
  subst hb
  rw [csum, if_pos c2]
  unfold stepF copiesF
  rw [item_self h (ks_z h hk), if_neg (by decide), if_neg (by omega)]
  rfl
 rw [if_neg c2]
 by_cases c3 : (nd t k).kind = 3
 ·rw [if_pos c3]
  exact csum_var3 h hT hk c3 hs
 rw [if_neg c3]
 rw [csum_none (a := k) (by have := hs.lt; omega)]
 ·simp
 intro j j1 j2 e
 have hjl : j < t.length := by have := hs.le; omega
 have hij := item_range h hk hs j j1 j2
 rcases var_kind h hjl e with v | ⟨p, p1, p2, p3⟩
 ·have := item_self h (ks_z h v)
  obtain rfl : j = k := by omega
  exact c2 e
 ·obtain ⟨q1, q2, c, e1, e2, e3, e4⟩ := h.item p1
  have hpm : j ∈ (nd t p).ks := List.mem_of_mem_take p3
  have hsp := (walk_ok 19 q2 e1).1
  obtain ⟨z, hz, ez⟩ := List.mem_map.1 hpm
  have hd := hsp.down p (Nat.le_refl _) hsp.lt z hz
  have := item_range h p1 hsp j (by omega) (by omega)
  obtain rfl : p = k := by omega
  exact c3 p2
end Go.V
namespace Go.V
structure Org where
 k : Nat
 seen : Nat
 c : Nat
 nv : Nat
def pr1 (t : List Nd) (o : Org) : Pr :=
 ⟨(nd t o.k).word 0, o.c, (List.range (locN t (nd t o.k))).map (o.nv + ·), 2, [false, true], [], ((gat t).vs.take o.seen).map Vr.name ++ (locs t (nd t o.k)).map (fun y => y.word 0), List.range o.seen ++ (List.range (locN t (nd t o.k))).map (o.nv + ·)⟩
def proc1 (t : List Nd) (o : Org) : Pr := sevF (statF t (chs t) (t.length + 1)) o.k (pr1 t o) ((nd t o.k).ks.drop (locN t (nd t o.k))) 0 1
def orgC (t : List Nd) (k seen nv n : Nat) : List Org := (List.range n).map fun c => ⟨k, seen, c, nv + c * locN t (nd t k)⟩
structure Gc where
 seen : Nat
 nv : Nat
 l : List Org
def one3 (t : List Nd) (a : Gc) (k : Nat) : Gc :=
 if (nd t k).kind = 3 then ⟨a.seen, a.nv + ((nd t k).num 0).toNat * locN t (nd t k), a.l ++ orgC t k a.seen a.nv ((nd t k).num 0).toNat⟩
 else if (nd t k).kind = 2 then ⟨a.seen + 1, a.nv, a.l⟩ else a
def pass3 (t : List Nd) (l : List Nat) : Gc := l.foldl (one3 t) ⟨0, (gat t).vs.length, []⟩
def orgs (t : List Nd) : List Org := (pass3 t (nd t 0).ks).l
theorem procF_eq {t : List Nd} {k seen c nv : Nat} {vs : List Vr} (h1 : vs.length = nv) (h2 : vs.take seen = (gat t).vs.take seen) : procF t (chs t) k seen c vs = proc1 t ⟨k, seen, c, nv⟩ := by
 unfold procF proc1 pr0 pr1
 rw [h2, h1, locs_length]
theorem copyF_org {t : List Nd} {k seen nv : Nat} {a : List Vr × List Pr} (h1 : a.1.length = nv) (h2 : a.1.take seen = (gat t).vs.take seen) (h3 : seen <= a.1.length) : ∀ c, (copyF t (chs t) k seen c a).1.length = nv + c * locN t (nd t k) /\ (copyF t (chs t) k seen c a).2 = a.2 ++ (orgC t k seen nv c).map (proc1 t)
 | 0 => by simp [copyF, h1, orgC]
 | c + 1 => by
   obtain ⟨i1, i2⟩ := copyF_org (k := k) h1 h2 h3 c
   have h4 := (copyF_take (t := t) (ch := chs t) (k := k) (c := c) h3).1
   refine ⟨?_, ?_⟩
   ·simp only [copyF, List.length_append, List.length_map, locs_length, i1]
    rw [Nat.succ_mul]; omega
   ·simp only [copyF, i2]
    rw [procF_eq i1 (h4.trans h2)]
    simp [orgC, List.range_succ]
theorem pass3_snoc (t : List Nd) (l : List Nat) (k : Nat) : pass3 t (l ++ [k]) = one3 t (pass3 t l) k := by simp [pass3]
structure GcR (t : List Nd) (b : Gb) (a : Gc) : Prop where
 seen : b.seen = a.seen
 nv : b.vs.length = a.nv
 pre : ∃ m, b.vs = (gat t).vs ++ m
 ps : b.ps = a.l.map (proc1 t)
theorem pass3_eq (t : List Nd) : ∀ (n : Nat), n <= (nd t 0).ks.length -> GcR t (pass2 t (chs t) (gat t).vs ((nd t 0).ks.take n)) (pass3 t ((nd t 0).ks.take n))
 | 0, _ => ⟨rfl, rfl, ⟨[], by simp [pass2]⟩, rfl⟩
 | n + 1, hn => by
   have ih := pass3_eq t n (by omega)
   have htk := pass2_take t (chs t) n
   have e : (nd t 0).ks.take (n + 1) = (nd t 0).ks.take n ++ [(nd t 0).ks[n]] := List.take_succ_eq_append_getElem (by omega)
   obtain ⟨m2, hm2⟩ := pass2_pre t (chs t) (gat t).vs ((nd t 0).ks.take (n + 1))
   rw [e] at hm2 ⊢
   rw [pass2_snoc] at hm2 ⊢
   have e3 : pass3 t ((nd t 0).ks.take n ++ [(nd t 0).ks[n]]) = one3 t (pass3 t ((nd t 0).ks.take n)) (nd t 0).ks[n] := pass3_snoc t _ _
   rw [e3]
   generalize (nd t 0).ks[n] = k at *
   generalize pass2 t (chs t) (gat t).vs ((nd t 0).ks.take n) = b at *
   generalize pass3 t ((nd t 0).ks.take n) = a at *
   obtain ⟨m, hm⟩ := ih.pre
   unfold one2 one3 at *
   by_cases c3 : (nd t k).kind = 3
   ·rw [if_pos c3] at hm2
    rw [if_pos c3, if_pos c3]
    have hs : b.vs.take b.seen = (gat t).vs.take b.seen := by rw [hm, List.take_append_of_le_length htk.2.2]
    obtain ⟨i1, i2⟩ := copyF_org (t := t) (k := k) (seen := b.seen) (nv := a.nv) (a := (b.vs, b.ps)) ih.nv hs htk.2.1 ((nd t k).num 0).toNat
    refine ⟨ih.seen, i1, ⟨m2, hm2⟩, ?_⟩
    show (copyF t (chs t) k b.seen ((nd t k).num 0).toNat (b.vs, b.ps)).2 = _
    rw [i2, List.map_append, <- ih.ps, ih.seen]
   ·rw [if_neg c3, if_neg c3]
    by_cases c2 : (nd t k).kind = 2
    ·rw [if_pos c2, if_pos c2]
     exact ⟨by simp [ih.seen], ih.nv, ih.pre, ih.ps⟩
    ·rw [if_neg c2, if_neg c2]
     exact ih
theorem orgs_eq (t : List Nd) : (gbt t).ps = (orgs t).map (proc1 t) /\ (gbt t).vs.length = (pass3 t (nd t 0).ks).nv := by
 have h := pass3_eq t (nd t 0).ks.length (Nat.le_refl _)
 rw [List.take_length] at h
 exact ⟨h.ps, h.nv⟩
structure OrgOk (t : List Nd) (nv : Nat) (o : Org) : Prop where
 at' : ∃ i, ∃ hi : i < (nd t 0).ks.length, (nd t 0).ks[i] = o.k /\ o.seen = (pass1 t ((nd t 0).ks.take i)).vs.length
 kind : (nd t o.k).kind = 3
 c : (o.c : Int) < (nd t o.k).num 0
 lo : (gat t).vs.length <= o.nv
 hi : o.nv + locN t (nd t o.k) <= nv
theorem orgs_ok (t : List Nd) : ∀ n, n <= (nd t 0).ks.length -> (gat t).vs.length <= (pass3 t ((nd t 0).ks.take n)).nv /\ (pass3 t ((nd t 0).ks.take n)).seen = (pass1 t ((nd t 0).ks.take n)).vs.length /\ ∀ o ∈ (pass3 t ((nd t 0).ks.take n)).l, OrgOk t (pass3 t ((nd t 0).ks.take n)).nv o
 | 0, _ => by simp [pass3, pass1]
 | n + 1, hn => by
   obtain ⟨i1, i2, i3⟩ := orgs_ok t n (by omega)
   have hs := pass3_eq t (n + 1) hn
   have hs1 := hs.seen
   rw [seen_eq] at hs1
   refine ⟨?_, hs1.symm, ?_⟩
   ·obtain ⟨m, hm⟩ := hs.pre
    have := hs.nv
    rw [hm, List.length_append] at this
    omega
   ·rw [List.take_succ_eq_append_getElem (by omega), pass3_snoc]
    intro o ho
    unfold one3 at ho ⊢
    by_cases c3 : (nd t (nd t 0).ks[n]).kind = 3
    ·rw [if_pos c3] at ho ⊢
     rcases List.mem_append.1 ho with ho | ho
     ·have := i3 o ho
      exact ⟨this.at', this.kind, this.c, this.lo, by have := this.hi; simp only; omega⟩
     ·obtain ⟨c, hc, rfl⟩ := List.mem_map.1 ho
      rw [List.mem_range] at hc
      refine ⟨⟨n, by omega, rfl, i2⟩, c3, by simp only; omega, by simp only; omega, ?_⟩
      simp only
      have : (c + 1) * locN t (nd t (nd t 0).ks[n]) <= ((nd t (nd t 0).ks[n]).num 0).toNat * locN t (nd t (nd t 0).ks[n]) := Nat.mul_le_mul_right _ (by omega)
      rw [Nat.succ_mul] at this
      omega
    ·rw [if_neg c3] at ho ⊢
     have key : ∀ (g : Gc), g.nv = (pass3 t ((nd t 0).ks.take n)).nv -> g.l = (pass3 t ((nd t 0).ks.take n)).l -> o ∈ g.l -> OrgOk t g.nv o := fun g e1 e2 h => by
      rw [e1]; rw [e2] at h; exact i3 o h
     split at ho
     ·rename_i h2; rw [if_pos h2]; exact key _ rfl rfl ho
     ·rename_i h2; rw [if_neg h2]; exact key _ rfl rfl ho
theorem org_ok {t : List Nd} {o : Org} (ho : o ∈ orgs t) : OrgOk t (gbt t).vs.length o := by
 have := (orgs_ok t (nd t 0).ks.length (Nat.le_refl _)).2.2
 rw [List.take_length] at this
 rw [(orgs_eq t).2]
 exact this o ho
def procW (t : List Nd) (k : Nat) : Nat := if (nd t k).kind = 3 then ((nd t k).num 0).toNat else 0
theorem pass3_len (t : List Nd) (l : List Nat) : (pass3 t l).nv = (gat t).vs.length + (l.map fun k => if (nd t k).kind = 3 then ((nd t k).num 0).toNat * locN t (nd t k) else 0).sum /\ (pass3 t l).l.length = (l.map (procW t)).sum := by
 have key : ∀ (l : List Nat) (a : Gc), (l.foldl (one3 t) a).nv = a.nv + (l.map fun k => if (nd t k).kind = 3 then ((nd t k).num 0).toNat * locN t (nd t k) else 0).sum /\ (l.foldl (one3 t) a).l.length = a.l.length + (l.map (procW t)).sum := by
  intro l
  induction l with
  | nil => intro a; simp
  | cons k l ih =>
    intro a
    rw [List.foldl_cons, (ih _).1, (ih _).2]
    unfold one3
    simp only [List.map_cons, List.sum_cons, procW]
    by_cases c3 : (nd t k).kind = 3
    ·simp only [c3, if_true, List.length_append, orgC, List.length_map, List.length_range]
     omega
    ·rw [if_neg c3, if_neg c3, if_neg c3]
     split <;> simp
 have := key l ⟨0, (gat t).vs.length, []⟩
 simpa [pass3] using this
theorem adds_eq (t : List Nd) (kind : Int) (w : Nat -> Nat) (ks : List Int) : adds t kind w ks = ((((ks.map Int.toNat).map w).sum : Nat) : Int) := by
 unfold adds
 induction ks with
 | nil => rfl
 | cons k ks ih =>
   simp only [List.map_cons, List.sum_cons, ih]
   omega
theorem csum_root {t : List Nd} (h : RightT t) {kind : Int} (hk : kind ≠ 0) : csum t kind 1 = 0 := by
 show csum t kind 0 + _ = 0
 rw [if_neg (by rw [h.ok.root]; omega)]
 rfl
theorem csum_item {t : List Nd} (h : RightT t) {kind : Int} (hkd : kind = 1 ∨ kind = 3) {k b : Nat} (hk : k ∈ (nd t 0).ks) (hs : Sub t k b) : csum t kind b = csum t kind k + if (nd t k).kind = kind then stepF t kind k else 0 := by
 have hl := hs.lt
 have hle := hs.le
 rw [csum_none (a := k + 1) (by omega)]
 ·rfl
 intro j j1 j2 e
 have hj := item_kind h (j := j) (by omega) (by omega)
 have h1 := item_self h (ks_z h hj)
 have h2 := item_range h hk hs j (by omega) j2
 omega
theorem greatV {t : List Nd} (h : RightT t) (hT : Typed t) : (gbt t).vs.length <= 8 := by
 have h1 := total_le (t := t) (kind := 2) (B := 8) (by decide) (by decide) fun i hi hk => ((hT.fine i hi).var hk).2.2.2
 rw [csum_items (w := varW t) h.subs fun k b hk hs => csum_var h hT (mem_ks hk) hs, csum_root h (by decide), adds_eq] at h1
 rw [(orgs_eq t).2, (pass3_len t _).1]
 have e : (gat t).vs.length = ((nd t 0).ks.map fun k => if (nd t k).kind = 2 then 1 else 0).sum := by
  unfold gat
  rw [pass1_eq]
  simp only [List.length_map]
  generalize (nd t 0).ks = l
  induction l with
  | nil => rfl
  | cons k l ih =>
    by_cases c : (nd t k).kind = 2
    ·rw [List.filter_cons_of_pos (by simpa using c)]; simp only [List.length_cons, ih, List.map_cons, List.sum_cons, c, if_true]; omega
    ·rw [List.filter_cons_of_neg (by simpa using c)]; simp only [ih, List.map_cons, List.sum_cons, c, if_false]; omega
 have e2 : ((nd t 0).ks.map (varW t)).sum = ((nd t 0).ks.map fun k => if (nd t k).kind = 2 then 1 else 0).sum + ((nd t 0).ks.map fun k => if (nd t k).kind = 3 then ((nd t k).num 0).toNat * locN t (nd t k) else 0).sum := by
  generalize (nd t 0).ks = l
  induction l with
  | nil => rfl
  | cons k l ih =>
    simp only [List.map_cons, List.sum_cons, ih, varW]
    by_cases c : (nd t k).kind = 2
    ·have c3 : (nd t k).kind ≠ 3 := by omega
     simp only [c, if_true]
     rw [if_neg (by decide)]
     omega
    ·simp only [c, if_false]; omega
 have h1 : ((((nd t 0).ks.map (varW t)).sum : Nat) : Int) <= 8 := by
  have e0 : (nd t 0).ks = (nd t 0).kids.map Int.toNat := rfl
  rw [e0]; omega
 rw [e]; omega
theorem greatP {t : List Nd} (h : RightT t) (hT : Typed t) : (gbt t).ps.length <= 4 := by
 have h1 := total_le (t := t) (kind := 3) (B := 4) (by decide) (by decide) fun i hi hk => ((hT.fine i hi).proc hk).2
 rw [csum_items (w := procW t) h.subs (fun k b hk hs => by
  rw [csum_item h (.inr rfl) (mem_ks hk) hs]
  unfold procW
  by_cases c : (nd t k).kind = 3
  ·have hc := copies_le h hT (mem_ks hk) c
   rw [if_pos c, if_pos c]
   unfold stepF copiesF
   rw [item_self h hk, if_neg (by decide), if_pos c]
   omega
  ·rw [if_neg c, if_neg c]; rfl), csum_root h (by decide), adds_eq] at h1
 rw [(orgs_eq t).1, List.length_map]
 unfold orgs
 rw [(pass3_len t _).2]
 have e0 : (nd t 0).ks = (nd t 0).kids.map Int.toNat := rfl
 rw [e0]; omega
theorem greatC {t : List Nd} (h : RightT t) (hT : Typed t) : (gat t).ch.length <= 3 := by
 have h1 := total_le (t := t) (kind := 1) (B := 3) (by decide) (by decide) fun i hi hk => ((hT.fine i hi).chan hk).2.2.2.2
 rw [csum_items (w := fun k => if (nd t k).kind = 1 then 1 else 0) h.subs (fun k b hk hs => by
  rw [csum_item h (.inl rfl) (mem_ks hk) hs]
  by_cases c : (nd t k).kind = 1
  ·rw [if_pos c, if_pos c]; rfl
  ·rw [if_neg c, if_neg c]; rfl), csum_root h (by decide), adds_eq] at h1
 have e0 : (nd t 0).ks = (nd t 0).kids.map Int.toNat := rfl
 rw [<- e0] at h1
 unfold gat
 rw [pass1_eq]
 simp only [List.length_map]
 have e : ((nd t 0).ks.filter fun k => (nd t k).kind == 1).length = ((nd t 0).ks.map fun k => if (nd t k).kind = 1 then 1 else 0).sum := by
  generalize (nd t 0).ks = l
  induction l with
  | nil => rfl
  | cons k l ih =>
    by_cases c : (nd t k).kind = 1
    ·rw [List.filter_cons_of_pos (by simpa using c)]; simp only [List.length_cons, ih, List.map_cons, List.sum_cons, c, if_true]; omega
    ·rw [List.filter_cons_of_neg (by simpa using c)]; simp only [ih, List.map_cons, List.sum_cons, c, if_false]; omega
 rw [e]; omega
end Go.V
namespace Go.V
structure PrOk (mo : Mo) (p : Pr) : Prop where
 inv : PInv mo.tree mo.chans.length p
 same : p.names.length = p.vars.length
 var : ∀ v ∈ p.vars, v < mo.vars.length
 loc : ∀ v ∈ p.locals, v ∈ p.vars /\ mo.globals <= v
 pl : p.places <= 4000
 el : p.edges.length <= 4000
 nl : p.names.length <= mo.vars.length
structure MoOk (mo : Mo) : Prop where
 tree : TreeOk mo.tree
 nv : mo.vars.length <= 8
 np : mo.procs.length <= 4
 nc : mo.chans.length <= 3
 gl : mo.globals <= mo.vars.length
 pr : ∀ p ∈ mo.procs, PrOk mo p
 sf : ∀ k ∈ mo.safe, k < mo.tree.length /\ exprK (nd mo.tree k).kind
 sl : mo.safe.length <= 800
theorem gbt_pre (t : List Nd) : ∃ m, (gbt t).vs = (gat t).vs ++ m := pass2_pre t (chs t) (gat t).vs (nd t 0).ks
theorem pr1_pr0 {t : List Nd} {o : Org} (ho : o ∈ orgs t) : ∃ vs : List Vr, vs.length = o.nv /\ vs.take o.seen = (gat t).vs.take o.seen /\ o.seen <= (gat t).vs.length /\ pr1 t o = pr0 (nd t o.k) o.c o.seen vs (locs t (nd t o.k)) := by
 have h := org_ok ho
 obtain ⟨m, hm⟩ := gbt_pre t
 have hlo := h.lo
 have hhi := h.hi
 have hseen : o.seen <= (gat t).vs.length := by
  obtain ⟨i, hi, _, e⟩ := h.at'
  have := pass1_mono t ((nd t 0).ks.take i) ((nd t 0).ks.drop i)
  rw [List.take_append_drop, <- e] at this
  exact this
 have e1 : ((gbt t).vs.take o.nv).length = o.nv := by rw [List.length_take]; omega
 have e2 : ((gbt t).vs.take o.nv).take o.seen = (gat t).vs.take o.seen := by
  rw [List.take_take, Nat.min_eq_left (by omega), hm, List.take_append_of_le_length hseen]
 refine ⟨_, e1, e2, hseen, ?_⟩
 unfold pr0 pr1
 rw [e2, e1, locs_length]
theorem org_sight {t : List Nd} (h : RightT t) (hS : Scoped t) {o : Org} (ho : o ∈ orgs t) : ∃ b, walkF t 19 o.k = (b, true) /\ Sub t o.k b /\ o.k < t.length /\ KF t 18 (nd t o.k).kids (o.k + 1) b /\ ∀ j, o.k <= j /\ j < b -> Sight t (gat t).ch.length (chs t) (pr1 t o).names (pr1 t o).vars j := by
 have hok := org_ok ho
 obtain ⟨i, hi, e, hseen⟩ := hok.at'
 have hkm : o.k ∈ (nd t 0).ks := e ▸ List.getElem_mem hi
 obtain ⟨k1, k2, b, b1, b2, b3, b4⟩ := h.item hkm
 have hsub := (walk_ok 19 k2 b1).1
 obtain ⟨vs, v1, v2, v3, v4⟩ := pr1_pr0 ho
 have hv : vs.take o.seen = (pass1 t ((nd t 0).ks.take i)).vs := by
  rw [v2]
  obtain ⟨r, hr⟩ := pass1_pre t ((nd t 0).ks.take i) ((nd t 0).ks.drop i)
  rw [List.take_append_drop] at hr
  have hg : (gat t).vs = (pass1 t ((nd t 0).ks.take i)).vs ++ r := hr
  rw [hg, hseen, List.take_left]
 refine ⟨b, b1, hsub, k2, b4, ?_⟩
 rw [v4]
 have := hok.lo
 exact sight_ok h hS hi e hok.kind hsub hv (by omega)
theorem org_kids {t : List Nd} (h : RightT t) (hS : Scoped t) {o : Org} (ho : o ∈ orgs t) : ∀ k ∈ (nd t o.k).ks.drop (locN t (nd t o.k)), StOk t (gat t).ch.length (pr1 t o).names (pr1 t o).vars (statF t (chs t) (t.length + 1)) k /\ StG t (statF t (chs t) (t.length + 1)) k := by
 obtain ⟨b, b1, hsub, k2, _, hsg⟩ := org_sight h hS ho
 have hok := org_ok ho
 have hpc := loc_proc ((h.ok.node o.k k2).proc hok.kind)
 have hclo : ∀ j, j < t.length -> (o.k <= j /\ j < b) -> ∀ k ∈ (nd t j).ks, o.k <= k /\ k < b := fun j _ hj k hk => by
  obtain ⟨z, hz, rfl⟩ := List.mem_map.1 hk
  have := hsub.down j hj.1 hj.2 z hz
  omega
 intro k hk
 have hst := hpc.1 k hk
 have hkm := List.mem_of_mem_drop hk
 have hkk := h.ok.ks k2 k hkm
 have hPk := hclo o.k k2 ⟨Nat.le_refl _, hsub.lt⟩ k hkm
 exact ⟨stat_ok h.ok hclo hsg (t.length + 1) k hkk.2 hPk hst (by omega), stat_gw h.ok _ (t.length + 1) k hkk.2 hst (by omega)⟩
theorem proc_inv {t : List Nd} (h : RightT t) (hS : Scoped t) {o : Org} (ho : o ∈ orgs t) : PInv t (gat t).ch.length (proc1 t o) /\ PGrow (pr1 t o) (proc1 t o) := by
 have := org_kids h hS ho
 exact sev_ok (fun k hk => (this k hk).1) ⟨by simp [pr1], by simp [pr1], by simp [pr1]⟩ rfl rfl (by simp [pr1]) (by simp [pr1])
theorem proc_gw {t : List Nd} (h : RightT t) (hS : Scoped t) {o : Org} (ho : o ∈ orgs t) : Gw (pr1 t o) (proc1 t o) 3300 := by
 have hk := org_kids h hS ho
 obtain ⟨b, b1, hsub, k2, hkf, _⟩ := org_sight h hS ho
 obtain ⟨b', hb1, hkf'⟩ := hkf.drop (locN t (nd t o.k))
 have := sev_gw (node := o.k) (p := pr1 t o) (frm := 0) (to := 1) hkf' (st := statF t (chs t) (t.length + 1)) (fun k hm => (hk k (by rw [List.map_drop] at hm; exact hm)).2)
 rw [List.map_drop] at this
 have hle := hsub.le
 have := h.ok.le
 exact Gw.le ‹_› (by omega)
theorem model_ok {t : List Nd} (h : RightT t) (hS : Scoped t) (hT : Typed t) : MoOk (modelOf t) := by
 have hg : (gat t).vs.length <= (gbt t).vs.length := by
  obtain ⟨m, hm⟩ := gbt_pre t
  rw [hm, List.length_append]; omega
 refine ⟨h.ok, greatV h hT, greatP h hT, greatC h hT, hg, fun p hp => ?_, fun k hk => ?_, ?_⟩
 ·have hp : p ∈ (gbt t).ps := hp
  rw [(orgs_eq t).1] at hp
  obtain ⟨o, ho, rfl⟩ := List.mem_map.1 hp
  have hok := org_ok ho
  obtain ⟨i1, g⟩ := proc_inv h hS ho
  have hw := proc_gw h hS ho
  obtain ⟨vs, v1, v2, v3, v4⟩ := pr1_pr0 ho
  have hhi := hok.hi
  have hlo := hok.lo
  refine ⟨i1, ?_, ?_, ?_, ?_, ?_, ?_⟩
  ·rw [g.names, g.vars]
   simp only [pr1, List.length_append, List.length_map, List.length_take, locs_length, List.length_range]
   omega
  ·rw [g.vars]
   intro v hv
   show v < (gbt t).vs.length
   simp only [pr1, List.mem_append, List.mem_range, List.mem_map] at hv
   rcases hv with hv | ⟨l, hl, rfl⟩ <;> omega
  ·rw [g.vars, g.locals]
   intro v hv
   simp only [pr1, List.mem_append, List.mem_range, List.mem_map] at hv ⊢
   obtain ⟨l, hl, rfl⟩ := hv
   exact ⟨.inr ⟨l, hl, rfl⟩, by show (gat t).vs.length <= _; omega⟩
  ·have := hw.pl; simp only [pr1] at this; omega
  ·have := hw.el; simp only [pr1, List.length_nil] at this; omega
  ·rw [g.names]
   show _ <= (gbt t).vs.length
   simp only [pr1, List.length_append, List.length_map, List.length_take, locs_length]
   omega
 ·have hk : k ∈ (gat t).sf := hk
  unfold gat at hk
  rw [pass1_eq] at hk
  simp only [List.mem_map, List.mem_filter, beq_iff_eq] at hk
  obtain ⟨j, ⟨j1, j2⟩, rfl⟩ := hk
  obtain ⟨q1, q2, _⟩ := h.item j1
  have h1 := (h.ok.node j q2).one (.inl j2)
  exact ⟨(h.ok.ks q2 _ (kid_mem (by omega))).2, h1.2⟩
 ·have h1 := (pass1_le t (nd t 0).ks).2.2
  have h2 := h.subs.length
  have h3 := h.ok.le
  rw [ks_len] at h1
  show (gat t).sf.length <= 800
  unfold gat
  omega
end Go.V
namespace Go.V
def idxB (l : List ByteArray) (w : ByteArray) : Nat := l.findIdx fun x => decide (x = w)
end Go.V
namespace Go.Proofs.Ytlaeblilmppodaa
open Go.V
set_option maxRecDepth 100000
set_option maxHeartbeats 4000000
def MadeR (t : List Nd) (r : D) : Prop := r = .tup [.agg [.nils, .int .i64 0, .nils, .nils, .nils, .nils, .bool false], .bool false] ∨ ∃ m ps, r = .tup [.agg (mdRow m), .bool true] /\ RightT t /\ Scoped t /\ Typed t /\ MoF m (modelOf t) ps
theorem makeI {d : D} {t : List Nd} (hT : TreeAt d t) (hR : RightT t) : ∃ r s1 d', Ev vfs 26 [d] Store.empty r s1 /\ V.ice s1.get 20 r = some d' /\ MadeR t d' := by
 obtain ⟨r, s1, h1, h2⟩ := make_ok hT hR
 rcases h2 with rfl | ⟨hS, hY, m, ps, rfl, hm, hn⟩
 ·exact ⟨_, s1, _, h1, rfl, .inl rfl⟩
 ·obtain ⟨m', ps', h3, h4⟩ := hm.frz hn true
  exact ⟨_, s1, _, h1, h3, .inr ⟨m', ps', rfl, hR, hS, hY, h4⟩⟩
end Go.Proofs.Ytlaeblilmppodaa
namespace Go.V
def setF (l : List Nat) : Nat := l.foldl (fun a v => a ||| 2 ^ v) 0
end Go.V
namespace Go.V
structure Stt where
 at' : List Nat
 vars : List Int
 chans : List (List Int)
 hold : Int
 deriving DecidableEq
def doZ (op : Nat) (a b : Int) (w : Nat) : Int := match op with
 | 0 => trimZ (a + b) w
 | 1 => trimZ (a - b) w
 | 2 => trimZ (a * b) w
 | 3 => if b = 0 then 0 else trimZ (a.tdiv b) w
 | _ => if b = 0 then 0 else trimZ (a.tmod b) w
def zAt (l : List Int) (i : Nat) : Int := l.getD i 0
def cAt (l : List (List Int)) (i : Nat) : List Int := l.getD i []
def nAt (l : List Nat) (i : Nat) : Nat := l.getD i 0
def chAt (l : List Ch) (i : Nat) : Ch := l.getD i default
theorem zAt_get {l : List Int} {i : Nat} (h : i < l.length) : zAt l i = l[i] := by simp [zAt, List.getD, h]
theorem cAt_get {l : List (List Int)} {i : Nat} (h : i < l.length) : cAt l i = l[i] := by simp [cAt, List.getD, h]
theorem nAt_get {l : List Nat} {i : Nat} (h : i < l.length) : nAt l i = l[i] := by simp [nAt, List.getD, h]
theorem chAt_get {l : List Ch} {i : Nat} (h : i < l.length) : chAt l i = l[i] := by simp [chAt, List.getD, h]
def oneZ (b : Bool) : Int := if b then 1 else 0
def lookP (p : Pr) (w : ByteArray) : Option Nat := if idxB p.names w < p.names.length then some (p.vars.getD (idxB p.names w) 0) else none
def binZ (op a b : Int) : Int × Bool :=
 if 7 <= op /\ b = 0 then (0, false)
 else if op = 0 then (oneZ (decide (a ≠ 0) || decide (b ≠ 0)), true)
 else if op = 1 then (oneZ (decide (a ≠ 0) && decide (b ≠ 0)), true)
 else if op = 2 then (oneZ (decide (a = b)), true)
 else if op = 3 then (oneZ (decide (a < b)), true)
 else (doZ (op - 4).toNat a b 8, true)
def valF (t : List Nd) (ch : List ByteArray) (look : ByteArray -> Option Nat) (st : Stt) : Nat -> Nat -> Int × Bool
 | 0, _ => (0, false)
 | n + 1, k =>
   let x := nd t k
   if x.kind = 17 then (trimZ (x.num 0) 8, true)
   else if x.kind = 18 then match look (x.word 0) with
    | none => (0, false)
    | some v => (zAt st.vars v, true)
   else if x.kind = 19 then (if idxB ch (x.word 0) < ch.length then (((cAt st.chans (idxB ch (x.word 0))).length : Int), true) else (0, false))
   else if x.kind = 20 then (trimZ (-(valF t ch look st n (x.kid 0)).1) 8, (valF t ch look st n (x.kid 0)).2)
   else if x.kind = 21 then (oneZ ((valF t ch look st n (x.kid 0)).2 && decide ((valF t ch look st n (x.kid 0)).1 = 0)), (valF t ch look st n (x.kid 0)).2)
   else if x.kind = 22 then
    if (valF t ch look st n (x.kid 0)).2 && (valF t ch look st n (x.kid 1)).2 then binZ (x.num 0) (valF t ch look st n (x.kid 0)).1 (valF t ch look st n (x.kid 1)).1 else (0, false)
   else (0, false)
def Mo.ch (mo : Mo) : List ByteArray := mo.chans.map Ch.name
def Mo.val (mo : Mo) (look : ByteArray -> Option Nat) (st : Stt) (k : Nat) : Int × Bool := valF mo.tree mo.ch look st (mo.tree.length + 1) k
def Mo.ex (mo : Mo) (p : Pr) (st : Stt) (e : Ed) (z : Int) : Int × Bool := if 0 <= e.expr then mo.val (lookP p) st e.expr.toNat else (z, true)
structure Mv where
 kind : Nat
 proc : Nat
 edge : Nat
 chan : Nat
 deriving DecidableEq, Inhabited
def Mv.row (v : Mv) : List D := [.int .i64 (v.kind : Int), .int .i64 (v.proc : Int), .int .i64 (v.edge : Int), .int .i64 (v.chan : Int)]
structure Fit (mo : Mo) (st : Stt) : Prop where
 at' : st.at'.length = mo.procs.length
 vars : st.vars.length = mo.vars.length
 chans : st.chans.length = mo.chans.length
 pl : ∀ i (h : i < st.at'.length) (h' : i < mo.procs.length), st.at'[i] < mo.procs[i].places
 vr : ∀ i (h : i < st.vars.length) (h' : i < mo.vars.length), trimZ st.vars[i] mo.vars[i].width.toNat = st.vars[i]
 cl : ∀ i (h : i < st.chans.length) (h' : i < mo.chans.length), (st.chans[i].length : Int) <= mo.chans[i].room
 cv : ∀ i (h : i < st.chans.length) (h' : i < mo.chans.length), ∀ n ∈ st.chans[i], trimZ n mo.chans[i].width.toNat = n
 hold : -1 <= st.hold /\ st.hold < (mo.procs.length : Int)
structure StD where
 da : D
 dv : D
 dc : D
def stRow (x : StD) (st : Stt) : List D := [x.da, x.dv, x.dc, .int .i64 st.hold]
structure StF (x : StD) (st : Stt) : Prop where
 a : FL 1 x.da (rowsN st.at')
 v : FI x.dv st.vars
 c : ∃ ds : List D, FL 1 x.dc (ds.map fun d => [d]) /\ ds.length = st.chans.length /\ ∀ i (h : i < ds.length) (h' : i < st.chans.length), FI ds[i] st.chans[i]
theorem StF.ones {x : StD} {st : Stt} (h : StF x st) : oneCell x.da = true /\ oneCell x.dv = true /\ oneCell x.dc = true := by
 obtain ⟨ds, h1, _⟩ := h.c
 exact ⟨h.a.one, FL.one h.v, h1.one⟩
theorem StF.fz {x : StD} {st : Stt} (h : StF x st) : Fz (.agg (stRow x st)) := fz_agg fun d hd => by
 obtain ⟨ds, h1, _⟩ := h.c
 simp only [stRow, List.mem_cons, List.not_mem_nil, or_false] at hd
 rcases hd with rfl | rfl | rfl | rfl
 ·exact FL.ic h.a
 ·exact FL.ic h.v
 ·exact FL.ic h1
 ·exact fun _ _ => rfl
theorem StF.chan {x : StD} {st : Stt} (h : StF x st) {i : Nat} (hi : i < st.chans.length) : ∃ d, FI d st.chans[i] /\ ∀ k : IntKind, idxAV 1 x.dc (.int k (i : Int)) = some (.fp [d] 0) := by
 obtain ⟨ds, h1, h2, h3⟩ := h.c
 have hi' : i < ds.length := by omega
 refine ⟨ds[i], h3 i hi' hi, fun k => ?_⟩
 rw [h1.idx (by simpa using hi')]
 simp
def I8 (n : Int) : Prop := -128 <= n /\ n <= 127
structure St8 (st : Stt) : Prop where
 v : ∀ n ∈ st.vars, I8 n
 c : ∀ l ∈ st.chans, l.length <= 3 /\ ∀ n ∈ l, I8 n
end Go.V
namespace Go.Proofs.Ytlaeblilmppodaa
open Go.V
set_option maxRecDepth 100000
set_option maxHeartbeats 4000000
end Go.Proofs.Ytlaeblilmppodaa
namespace Go.V
variable {fs : FuncId -> Option VFunc}
structure Ent where
 i : Nat
 rd : Option Nat
 eff : List Nat
structure TrE (n : Nat) (e : Ent) (t : Tr) : Prop where
 i : t.idx = e.i
 rd : t.rd = e.rd
 ef : ∀ id, id ∉ e.eff -> t.pre.get id = t.post.get id
 lt : ∀ id, e.rd = some id -> id < n
def TrM (n : Nat) (T : List Ent) (tr : List Tr) : Prop := ∀ t ∈ tr, (t.rd = none /\ ∀ id, t.pre.get id = t.post.get id) ∨ ∃ e ∈ T, TrE n e t
def WX (fs : FuncId -> Option VFunc) (pairs : List (Nat × Nat)) (T : List Ent) (ops : List (Nat × VOper)) (env : Env) (s : Store) (Q : Env -> Store -> Prop) : Prop := ∀ tr, TrM s.next T tr -> WO fs pairs ops tr env s Q
theorem vw_rgx {vars ops p pairs dr env s Q} (h : WX fs (p :: pairs) [] ops env s fun env' s' => Q .normal (env'.keep vars) s') : WP fs vars (.region ⟨ops, p :: pairs, dr⟩) env s Q := vw_region (h [] (by simp [TrM]))
theorem stable_of {a b : Store} {r : Option Nat} (h : ∀ id, r = some id -> a.get id = b.get id) : stable a b r = true := by
 cases r with
 | none => rfl
 | some id => simp only [stable]; rw [h id rfl]; exact beqO_self _
def Free (pairs : List (Nat × Nat)) (T : List Ent) (i : Nat) (r : Option Nat) (E : List Nat) : Prop := ∀ e ∈ T, (e.i, i) ∈ pairs -> (∀ id, e.rd = some id -> id ∉ E) /\ ∀ id, r = some id -> id ∉ e.eff
theorem pairs_free {pairs : List (Nat × Nat)} {T : List Ent} {n : Nat} {j : Tr} {E : List Nat} (hE : ∀ id, id ∉ E -> j.pre.get id = j.post.get id) (hf : Free pairs T j.idx j.rd E) : ∀ {tr : List Tr}, TrM n T tr -> pairsOk pairs j tr = true
 | [], _ => rfl
 | t :: r, h => by
   have ih := pairs_free hE hf (tr := r) fun x hx => h x (by simp [hx])
   rcases h t (by simp) with ⟨k1, k2⟩ | ⟨e, he, k⟩
   ·have s1 : stable j.pre j.post t.rd = true := by rw [k1]; rfl
    have s2 : stable t.pre t.post j.rd = true := stable_of fun id _ => k2 id
    simp only [pairsOk, s1, s2, Bool.and_self, ite_self, Bool.true_and, ih]
   by_cases hc : (t.idx, j.idx) ∈ pairs
   ·rw [k.i] at hc
    obtain ⟨f1, f2⟩ := hf e he hc
    have s1 : stable j.pre j.post t.rd = true := stable_of fun id hid => hE id (f1 id (by rw [<- k.rd]; exact hid))
    have s2 : stable t.pre t.post j.rd = true := stable_of fun id hid => k.ef id (f2 id hid)
    simp only [pairsOk, s1, s2, Bool.and_self, ite_self, Bool.true_and, ih]
   ·have hc' : pairs.contains (t.idx, j.idx) = false := by rw [Bool.eq_false_iff]; intro h'; rw [List.contains_iff_mem] at h'; exact hc h'
    simp only [pairsOk, hc', Bool.false_eq_true, if_false, Bool.true_and, ih]
theorem TrM.grow {n m : Nat} {T : List Ent} {tr : List Tr} (h : TrM n T tr) (hm : n <= m) (e : Ent) : TrM m (e :: T) tr := fun t ht => by
 rcases h t ht with k | ⟨e', h1, h2⟩
 ·exact .inl k
 ·exact .inr ⟨e', by simp [h1], h2.i, h2.rd, h2.ef, fun id hid => Nat.lt_of_lt_of_le (h2.lt id hid) hm⟩
theorem wx_op {pairs T i o rest env s Q} (hw : wantV env o.guard = some true) {d s'} {E : List Nat} (m : Nat) (hr : runOp (callWith fs (vexec fs m)) env s o.op = some (d, s')) (hE : ∀ id, id ∉ E -> s.get id = s'.get id) (hn : s.next <= s'.next) (hl : ∀ id, rdOf env o.op = some id -> id < s.next) (hf : Free pairs T i (rdOf env o.op) E)
 (h : WX fs pairs (⟨i, rdOf env o.op, E⟩ :: T) rest (env.put o.dst d) s' Q) : WX fs pairs T ((i, o) :: rest) env s Q := by
 intro tr ht
 refine vo_op hw m hr (pairs_free (j := ⟨i, rdOf env o.op, s, s'⟩) hE hf ht) (h _ ?_)
 split
 ·exact ht.grow hn _
 ·intro t hm
  rcases List.mem_cons.1 hm with rfl | hm
  ·exact .inr ⟨⟨i, rdOf env o.op, E⟩, by simp, rfl, rfl, hE, fun id hid => Nat.lt_of_lt_of_le (hl id hid) hn⟩
  ·exact ht.grow hn _ t hm
theorem free_none {pairs : List (Nat × Nat)} {T : List Ent} {i : Nat} : Free pairs T i none [] := fun e _ _ => ⟨by simp, by simp⟩
theorem wx_still {pairs T i o rest env s Q} (hw : wantV env o.guard = some true) {d} (m : Nat) (hr : runOp (callWith fs (vexec fs m)) env s o.op = some (d, s)) (hn : rdOf env o.op = none) (h : WX fs pairs T rest (env.put o.dst d) s Q) : WX fs pairs T ((i, o) :: rest) env s Q := by
 intro tr ht
 refine vo_op hw m hr (pairs_free (E := []) (fun _ _ => rfl) (by rw [hn]; exact free_none) ht) (h _ ?_)
 split
 ·exact ht
 ·intro t hm
  rcases List.mem_cons.1 hm with rfl | hm
  ·exact .inl ⟨hn, fun _ => rfl⟩
  ·exact ht t hm
theorem wx_nil {pairs T env s Q} (h : Q env s) : WX fs pairs T [] env s Q := fun _ _ => vo_nil h
theorem wx_skip {pairs T i o rest env s Q} (hw : wantV env o.guard = some false) (h : WX fs pairs T rest (env.put o.dst (.tup [])) s Q) : WX fs pairs T ((i, o) :: rest) env s Q := fun tr ht => vo_skip hw (h tr ht)
theorem wx_p {pairs T i t o rest s Q} {env : Env} {d : D} (hr : evP env o = some d) (h : WX fs pairs T rest ((t, d) :: env) s Q) : WX fs pairs T ((i, ⟨some t, .p o, none⟩) :: rest) env s Q :=
 wx_still rfl 0 (by simp only [runOp, hr, Option.map_some]) rfl h
theorem wx_fp {pairs T i t n x rest s Q} {env : Env} {d : D} {cs : List D} {off : Nat} (hx : env.ev x = .fp cs off) (hr : ldV s.get n (.fp cs off) = some d) (h : WX fs pairs T rest ((t, d) :: env) s Q) : WX fs pairs T ((i, ⟨some t, .r (.load n x), none⟩) :: rest) env s Q :=
 wx_still rfl 0 (by simp only [runOp, evR_load, hx, hr, Option.map_some]) (by simp only [rdOf, rdR, hx]) h
theorem wx_ld {pairs T i t n x rest s Q} {env : Env} {d : D} {id off : Nat} (hx : env.ev x = .ptr id off) (hr : ldV s.get n (.ptr id off) = some d) (hf : ∀ e ∈ T, (e.i, i) ∈ pairs -> id ∉ e.eff) (h : WX fs pairs (⟨i, some id, []⟩ :: T) rest ((t, d) :: env) s Q) : WX fs pairs T ((i, ⟨some t, .r (.load n x), none⟩) :: rest) env s Q := by
 have hrd : rdOf env (.r (.load n x)) = some id := by simp only [rdOf, rdR, hx]
 have hlt : id < s.next := by
  simp only [ldV] at hr
  cases hg : s.get id with
  | none => rw [hg] at hr; cases hr
  | some o => exact get_lts hg
 refine wx_op (E := []) rfl 0 (d := d) (s' := s) (by simp only [runOp, evR_load, hx, hr, Option.map_some]) (fun _ _ => rfl) (Nat.le_refl _) ?_ ?_ ?_
 ·intro j hj
  simp only [hrd, Option.some.injEq] at hj
  subst hj; exact hlt
 ·simp only [hrd]
  intro e he hp
  refine ⟨by simp, fun j hj => ?_⟩
  simp only [Option.some.injEq] at hj
  subst hj
  exact hf e he hp
 ·simp only [hrd]; exact h
theorem wx_a {pairs T i t o rest s Q} {env : Env} {ob : VObj} {m : Made} (hr : evA env o = some (ob, m)) (h : WX fs pairs (⟨i, none, [s.next]⟩ :: T) rest ((t, m.at s.next) :: env) (s.push ob) Q) : WX fs pairs T ((i, ⟨some t, .a o, none⟩) :: rest) env s Q := by
 intro tr ht
 have hE : ∀ id, id ∉ [s.next] -> s.get id = (s.push ob).get id := fun id hid => by
  rw [Store.get_push, if_neg (by simpa using hid)]
 refine vo_op rfl 0 (d := m.at s.next) (s' := s.push ob) (by simp only [runOp, hr]) ?_ (h _ ?_)
 ·have key : ∀ {tr : List Tr}, TrM s.next T tr -> pairsOk pairs ⟨i, none, s, s.push ob⟩ tr = true := by
   intro tr
   induction tr with
   | nil => intro _; rfl
   | cons x r ih =>
     intro hx
     have ih := ih fun y hy => hx y (by simp [hy])
     have s1 : stable s (s.push ob) x.rd = true := by
      rcases hx x (by simp) with ⟨k1, _⟩ | ⟨e, _, k⟩
      ·rw [k1]; rfl
      ·refine stable_of fun id hid => hE id ?_
       have := k.lt id (by rw [<- k.rd]; exact hid)
       simp only [List.mem_singleton]; omega
     have s2 : stable x.pre x.post none = true := rfl
     simp only [pairsOk, s1, s2, Bool.and_self, ite_self, Bool.true_and, ih]
  exact key ht
 ·have hn : s.next <= (s.push ob).next := by simp
  split
  ·exact ht.grow hn _
  ·intro x hm
   rcases List.mem_cons.1 hm with rfl | hm
   ·exact .inr ⟨⟨i, none, [s.next]⟩, by simp, rfl, rfl, hE, by simp⟩
   ·exact ht.grow hn _ x hm
theorem wx_w {pairs T i n a v rest s Q} {env : Env} {id off : Nat} {ob : VObj} (hx : env.ev a = .ptr id off) (hr : evW env s.get n a v = some (id, ob)) (hf : ∀ e ∈ T, (e.i, i) ∈ pairs -> e.rd ≠ some id /\ id ∉ e.eff) (h : WX fs pairs (⟨i, some id, [id]⟩ :: T) rest env (s.set id (some ob)) Q) : WX fs pairs T ((i, ⟨none, .w n a v, none⟩) :: rest) env s Q := by
 have hrd : rdOf env (.w n a v) = some id := by simp only [rdOf, rdW, hx]
 have hlt : id < s.next := by
  simp only [evW, hx] at hr
  cases hg : s.get id with
  | none => rw [hg] at hr; cases hr
  | some o => exact get_lts hg
 refine wx_op (E := [id]) rfl 0 (d := .tup []) (s' := s.set id (some ob)) (by simp only [runOp, hr]) (fun j hj => by rw [get_set_ne (by simpa using hj)]) (by simp) ?_ ?_ ?_
 ·intro j hj
  simp only [hrd, Option.some.injEq] at hj
  subst hj; exact hlt
 ·simp only [hrd]
  intro e he hp
  obtain ⟨f1, f2⟩ := hf e he hp
  refine ⟨fun j hj hm => ?_, fun j hj => ?_⟩
  ·simp only [List.mem_singleton] at hm
   subst hm
   exact f1 hj
  ·simp only [Option.some.injEq] at hj
   subst hj
   exact f2
 ·simp only [hrd]; exact h
theorem wx_m {pairs T i t o rest s Q} {env : Env} {d : D} {s' : Store} {E : List Nat} (hr : ∃ n, evM (callWith fs (vexec fs n)) env s o = some (d, s')) (hE : ∀ id, id ∉ E -> s.get id = s'.get id) (hn : s.next <= s'.next) (hf : ∀ e ∈ T, (e.i, i) ∈ pairs -> ∀ id, e.rd = some id -> id ∉ E)
 (h : WX fs pairs (⟨i, none, E⟩ :: T) rest ((t, d) :: env) s' Q) : WX fs pairs T ((i, ⟨some t, .m o, none⟩) :: rest) env s Q := by
 obtain ⟨n, hn'⟩ := hr
 refine wx_op (E := E) rfl n (d := d) (s' := s') (by simp only [runOp]; exact hn') hE hn (by intro id hid; simp [rdOf] at hid) (fun e he hp => ⟨hf e he hp, by intro id hid; simp [rdOf] at hid⟩) h
theorem wx_iso {pairs T i t f args rest s Q} {env : Env} {l l' : List D} {d r : D} {s1 : Store} (hl : env.evL args = l) (ha : mapO (ice s.get 20) l = some l')
 (hr : Ev fs f l' Store.empty r s1) (hi : ice s1.get 20 r = some d) (hs : (scalarD d || pureL l) = true)
 (h : WX fs pairs T rest ((t, d) :: env) s Q) : WX fs pairs T ((i, ⟨some t, .m (.call .iso (.cst (.fn f [])) args), none⟩) :: rest) env s Q := by
 subst hl
 obtain ⟨n, hn⟩ := hr
 have hn' : callWith fs (vexec fs n) f l' Store.empty = some (r, s1) := hn
 exact wx_still rfl n (by simp only [runOp, evM, callV, Env.ev, List.append_nil, ha, hn', hi, hs, if_true]) rfl h
end Go.V
namespace Go.V
variable {σ : Nat -> Nat} {l : List Nat} {c : Nat}
end Go.V
namespace Go.V
end Go.V
namespace Go.V
theorem snocInd {α : Type} {P : List α -> Prop} (h0 : P []) (h1 : ∀ l a, P l -> P (l ++ [a])) : ∀ l, P l := by
 intro l
 have : ∀ r : List α, P r.reverse := by
  intro r
  induction r with
  | nil => exact h0
  | cons a r ih => rw [List.reverse_cons]; exact h1 _ _ ih
 have h := this l.reverse
 rwa [List.reverse_reverse] at h
def insFrom : Nat -> List (Nat × Nat) -> List Nat
 | _, [] => []
 | k, p :: r => if p = (0, 0) /\ 0 < k then k :: insFrom (k + 1) r else insFrom (k + 1) r
structure Gr.WF (G : Gr) : Prop where
 pos : G.nodes[0]? = some (0, 0)
 nodes : ∀ (n : Nat) (p : Nat × Nat), G.nodes[n]? = some p -> p = (0, 0) ∨ (2 <= p.1 /\ p.1 < p.2 /\ p.2 < 2 * n)
 ins : G.ins = insFrom 0 G.nodes
 known : ∀ (p : Nat × Nat) (n : Nat), find p G.known = some n ↔ p ≠ (0, 0) /\ G.nodes[n]? = some p
theorem Gr.WF.len {G : Gr} (h : G.WF) : 0 < G.nodes.length := by
 have := h.pos
 rcases Nat.eq_zero_or_pos G.nodes.length with h0 | h0
 ·rw [List.getElem?_eq_none (by omega)] at this; cases this
 ·exact h0
theorem Gr.WF.lt {G : Gr} (h : G.WF) : ∀ p n, find p G.known = some n -> n < G.nodes.length := by
 intro p n hf
 have := (h.known p n).1 hf
 rcases Nat.lt_or_ge n G.nodes.length with h1 | h1
 ·exact h1
 ·rw [List.getElem?_eq_none h1] at this; cases this.2
def evL (vs : List Bool) (e : Nat) : Bool := vs.getD (e / 2) false != (e % 2 == 1)
def stepV (m : List Bool) (st : List Bool × Nat) (p : Nat × Nat) : List Bool × Nat :=
 if p = (0, 0) then (if st.1.length = 0 then (st.1 ++ [false], st.2) else (st.1 ++ [m.getD st.2 false], st.2 + 1))
 else (st.1 ++ [evL st.1 p.1 && evL st.1 p.2], st.2)
def valsS (m : List Bool) (nodes : List (Nat × Nat)) : List Bool × Nat := nodes.foldl (stepV m) ([], 0)
def vals (m : List Bool) (nodes : List (Nat × Nat)) : List Bool := (valsS m nodes).1
def Gr.ev (G : Gr) (m : List Bool) (e : Nat) : Bool := evL (vals m G.nodes) e
theorem valsS_snoc (m : List Bool) (l : List (Nat × Nat)) (p : Nat × Nat) : valsS m (l ++ [p]) = stepV m (valsS m l) p := by simp [valsS, List.foldl_append]
theorem vals_snoc (m : List Bool) (l : List (Nat × Nat)) (p : Nat × Nat) : ∃ v, vals m (l ++ [p]) = vals m l ++ [v] := by
 simp only [vals, valsS_snoc, stepV]
 split
 ·split <;> exact ⟨_, rfl⟩
 ·exact ⟨_, rfl⟩
theorem vals_append (m : List Bool) (l k : List (Nat × Nat)) : ∃ t, vals m (l ++ k) = vals m l ++ t := by
 induction k using snocInd with
 | h0 => exact ⟨[], by simp⟩
 | h1 k p ih =>
   obtain ⟨t, ht⟩ := ih
   obtain ⟨v, hv⟩ := vals_snoc m (l ++ k) p
   exact ⟨t ++ [v], by rw [<- List.append_assoc, hv, ht, List.append_assoc]⟩
theorem vals_length (m : List Bool) (l : List (Nat × Nat)) : (vals m l).length = l.length := by
 induction l using snocInd with
 | h0 => rfl
 | h1 l p ih =>
   obtain ⟨v, hv⟩ := vals_snoc m l p
   rw [hv]; simp [ih]
theorem evL_append {l t : List Bool} {e : Nat} (h : e / 2 < l.length) : evL (l ++ t) e = evL l e := by
 simp only [evL]
 congr 1
 simp [List.getD, List.getElem?_append_left h]
def Gr.Ext (G G' : Gr) : Prop := ∃ l, G'.nodes = G.nodes ++ l
theorem Gr.Ext.refl (G : Gr) : Gr.Ext G G := ⟨[], by simp⟩
theorem Gr.Ext.trans {A B C : Gr} (h : Gr.Ext A B) (k : Gr.Ext B C) : Gr.Ext A C := by
 obtain ⟨l, hl⟩ := h
 obtain ⟨r, hr⟩ := k
 exact ⟨l ++ r, by rw [hr, hl, List.append_assoc]⟩
theorem Gr.Ext.le {G G' : Gr} (h : Gr.Ext G G') : G.nodes.length <= G'.nodes.length := by
 obtain ⟨l, hl⟩ := h
 rw [hl]; simp
theorem Gr.Ext.ev {G G' : Gr} (h : Gr.Ext G G') {m : List Bool} {e : Nat} (he : e < 2 * G.nodes.length) : G'.ev m e = G.ev m e := by
 obtain ⟨l, hl⟩ := h
 obtain ⟨t, ht⟩ := vals_append m G.nodes l
 simp only [Gr.ev, hl, ht]
 exact evL_append (by rw [vals_length]; omega)
theorem Gr.Ext.get {G G' : Gr} (h : Gr.Ext G G') {n : Nat} {p : Nat × Nat} (hp : G.nodes[n]? = some p) : G'.nodes[n]? = some p := by
 obtain ⟨l, hl⟩ := h
 rw [hl, List.getElem?_append_left, hp]
 rcases Nat.lt_or_ge n G.nodes.length with h1 | h1
 ·exact h1
 ·rw [List.getElem?_eq_none h1] at hp; cases hp
structure Gr.Ok (G G' : Gr) (k : Nat) : Prop where
 wf : G'.WF
 ext : Gr.Ext G G'
 len : G'.nodes.length <= G.nodes.length + k
 one : G.nodes.length = 1 -> G'.nodes.length = 1
 ins : G'.ins = G.ins
theorem Gr.Ok.refl {G : Gr} (h : G.WF) : Gr.Ok G G 0 := ⟨h, Gr.Ext.refl G, by omega, fun h => h, rfl⟩
theorem Gr.Ok.trans {A B C : Gr} {j k : Nat} (h : Gr.Ok A B j) (l : Gr.Ok B C k) : Gr.Ok A C (j + k) := ⟨l.wf, h.ext.trans l.ext, by have := h.len; have := l.len; omega, fun e => l.one (h.one e), l.ins.trans h.ins⟩
theorem Gr.Ok.weaken {A B : Gr} {j k : Nat} (h : Gr.Ok A B j) (l : j <= k) : Gr.Ok A B k := ⟨h.wf, h.ext, by have := h.len; omega, h.one, h.ins⟩
theorem Gr.and_again {G G' : Gr} (h : G.WF) {a b : Nat} (hx : Gr.Ext (G.and a b).2 G') (hw : G'.WF) : G'.and b a = ((G.and a b).1, G') := by
 unfold Gr.and at *
 rw [Nat.min_comm b a, Nat.max_comm b a]
 by_cases h1 : min a b = 0 ∨ min a b = notN (max a b)
 ·simp only [if_pos h1]
 ·by_cases h2 : min a b = 1 ∨ min a b = max a b
  ·simp only [if_neg h1, if_pos h2]
  ·have hp : (min a b, max a b) ≠ (0, 0) := by
    intro he
    simp only [Prod.mk.injEq] at he
    exact h1 (.inl he.1)
   simp only [if_neg h1, if_neg h2] at hx ⊢
   cases hf : find (min a b, max a b) G.known with
   | some n =>
     simp only [hf] at hx ⊢
     have hk := (h.known _ _).1 hf
     rw [(hw.known _ _).2 ⟨hp, hx.get hk.2⟩]
   | none =>
     simp only [hf] at hx ⊢
     rw [(hw.known (min a b, max a b) G.nodes.length).2 ⟨hp, hx.get (by simp)⟩]
def Gr.new : Gr := ⟨[(0, 0)], [], []⟩
def Gr.Laid (G : Gr) (a b e : Nat) : Prop := ∀ G', Gr.Ext G G' -> G'.WF -> G'.and b a = (e, G')
theorem Gr.laid {G : Gr} (h : G.WF) (a b : Nat) : Gr.Laid (G.and a b).2 a b (G.and a b).1 := fun _ hx hw => Gr.and_again h hx hw
theorem Gr.Laid.mono {G G' : Gr} {a b e : Nat} (h : Gr.Laid G a b e) (hx : Gr.Ext G G') : Gr.Laid G' a b e := fun G'' hx' hw => h G'' (hx.trans hx') hw
def RdF (s : Store) (ids : List Nat) (d : D) (l : List D) : Prop := Rd s d l /\ ∀ id off n, d = .arr id off n 1 -> id ∉ ids
theorem RdF.fr {s s' : Store} {ids ids' : List Nat} {d : D} {l : List D} (h : RdF s ids d l) (hf : Fr ids s s') (hm : ∀ i ∈ ids', i ∈ ids ∨ s.next <= i) : RdF s' ids' d l := by
 obtain ⟨h1, h2⟩ := h
 have lt : ∀ id off n, d = .arr id off n 1 -> id < s.next := by
  rintro id off n rfl
  rcases h1 with ⟨h, _⟩ | h | ⟨id', off', cs, h, hg, _⟩
  ·cases h
  ·cases h
  ·cases h; exact get_lts hg
 refine ⟨h1.stay fun id off n hd => hf.2 id (lt id off n hd) (h2 id off n hd), fun id off n hd hc => ?_⟩
 rcases hm id hc with h | h
 ·exact h2 id off n hd h
 ·have := lt id off n hd; omega
theorem RdF.step {s s' : Store} {g : Nat} {ids ids' : List Nat} {G' : Gr} {d : D} {l : List D} (h : RdF s ids d l) (hs : GrStep s g ids s' G' ids') : RdF s' ids' d l := h.fr hs.2.1 hs.2.2
theorem RdF.newer {s s' : Store} {ids : List Nat} {d : D} {l : List D} (h : RdF s ids d l) (hf : Fr [] s s') : RdF s' ids d l := h.fr (hf.weaken (by simp)) fun _ h => .inl h
theorem RdF.of {s : Store} {d : D} {l : List D} {ids : List Nat} (h : ∀ s, Rd s d l) : RdF s ids d l := by
 refine ⟨h s, fun id off n he => ?_⟩
 subst he
 rcases h Store.empty with ⟨h, _⟩ | h | ⟨id', off', cs, h, hg, _⟩
 ·cases h
 ·cases h
 ·simp at hg
end Go.V
namespace Go.V
structure InW (V : List Bool) (ins : List Nat) (top i : Nat) (W : List Bool) : Prop where
 len : W.length = top + 1
 yes : ∀ n j, n <= top -> j < i -> ins[j]? = some n -> W[n]? = V[n]?
 no : ∀ n, n <= top -> (∀ j, j < i -> ins[j]? ≠ some n) -> W[n]? = some false
theorem InW.zero {V : List Bool} {ins : List Nat} {top : Nat} : InW V ins top 0 (List.replicate (top + 1) false) :=
 ⟨by simp, fun n j _ h => by omega, fun n h _ => by rw [List.getElem?_replicate, if_pos (by omega)]⟩
theorem InW.set {V W : List Bool} {ins : List Nat} {top i n : Nat} {b : Bool} (h : InW V ins top i W) (hn : ins[i]? = some n) (ht : n <= top) (hv : V[n]? = some b) : InW V ins top (i + 1) (W.set n b) := by
 refine ⟨by simp [h.len], fun k j hk hj he => ?_, fun k hk hj => ?_⟩
 ·by_cases e : n = k
  ·subst e
   rw [List.getElem?_set_self (by have := h.len; omega), hv]
  ·rw [List.getElem?_set_ne e]
   by_cases e2 : j = i
   ·subst e2; rw [hn] at he; cases he; exact absurd rfl e
   ·exact h.yes k j hk (by omega) he
 ·have e : n ≠ k := fun e => hj i (by omega) (by rw [hn, e])
  rw [List.getElem?_set_ne e]
  exact h.no k hk fun j hj' => hj j (by omega)
theorem InW.same {V W : List Bool} {ins : List Nat} {top i n : Nat} (h : InW V ins top i W) (hn : ins[i]? = some n) (ht : n <= top) (hv : V[n]? = some false) (hnew : ∀ j, j < i -> ins[j]? ≠ some n) : InW V ins top (i + 1) W := by
 refine ⟨h.len, fun k j hk hj he => ?_, fun k hk hj => h.no k hk fun j hj' => hj j (by omega)⟩
 by_cases e2 : j = i
 ·subst e2; rw [hn] at he; cases he
  rw [hv]; exact h.no _ ht hnew
 ·exact h.yes k j hk (by omega) he
theorem InW.all {V W : List Bool} {ins : List Nat} {top : Nat} (h : InW V ins top ins.length W) {n : Nat} (hn : n ∈ ins) (ht : n <= top) : W[n]? = V[n]? := by
 obtain ⟨j, hj, rfl⟩ := List.getElem_of_mem hn
 exact h.yes _ j ht hj (List.getElem?_eq_getElem hj)
end Go.V
namespace Go.V
theorem Sl.newer {s s' : Store} {d : D} {l : List D} {ids : List Nat} (h : Sl s d l ids) (hf : Fr [] s s') : Sl s' d l ids := h.stay hf (by simp)
section
variable {fs : FuncId -> Option VFunc}
end
end Go.V
namespace Go.V
def cellsR : List (Nat × Nat) -> List D
 | [] => []
 | p :: r => .bool (decide (p = (0, 0))) :: .int .i64 (p.1 : Int) :: .int .i64 (p.2 : Int) :: cellsR r
@[simp] theorem cellsR_length : ∀ (l : List (Nat × Nat)), (cellsR l).length = l.length * 3
 | [] => rfl
 | p :: r => by simp only [cellsR, List.length_cons, cellsR_length r]; omega
theorem cellsR_append : ∀ (l m : List (Nat × Nat)), cellsR (l ++ m) = cellsR l ++ cellsR m
 | [], m => rfl
 | p :: r, m => by simp [cellsR, cellsR_append r m]
theorem cellsR_get : ∀ {l : List (Nat × Nat)} {i : Nat} (h : i < l.length), (cellsR l)[i * 3]? = some (.bool (decide (l[i] = (0, 0)))) /\ (cellsR l)[i * 3 + 1]? = some (.int .i64 (l[i].1 : Int)) /\ (cellsR l)[i * 3 + 2]? = some (.int .i64 (l[i].2 : Int))
 | p :: r, 0, h => by simp [cellsR]
 | p :: r, i + 1, h => by
   have ih := cellsR_get (l := r) (i := i) (by simpa using h)
   rw [show (i + 1) * 3 = i * 3 + 1 + 1 + 1 by omega]
   simpa [cellsR, Nat.add_right_comm] using ih
structure RefAt (s : Store) (r : Nat) (N : List (Nat × Nat)) (dl : D) (ids : List Nat) : Prop where
 obj : s.get r = some (.cells [dl])
 row : (dl = .nils /\ N = [] /\ ids = [r]) ∨ ∃ id, dl = .arr id 0 N.length 3 /\ s.get id = some (.cells (cellsR N)) /\ id ≠ r /\ ids = [r, id]
theorem RefAt.one {s : Store} {r : Nat} {N : List (Nat × Nat)} {dl : D} {ids : List Nat} (h : RefAt s r N dl ids) : oneCell dl = true := by
 rcases h.row with ⟨rfl, _⟩ | ⟨id, rfl, _⟩ <;> rfl
theorem RefAt.len {s : Store} {r : Nat} {N : List (Nat × Nat)} {dl : D} {ids : List Nat} (h : RefAt s r N dl ids) : lenV false dl = some (.int .i64 (N.length : Int)) := by
 rcases h.row with ⟨rfl, rfl, _⟩ | ⟨id, rfl, _⟩ <;> rfl
theorem RefAt.idx {s : Store} {r : Nat} {N : List (Nat × Nat)} {dl : D} {ids : List Nat} (h : RefAt s r N dl ids) {i : Nat} (hi : i < N.length) :
 ∃ id, idxAV 3 dl (.int .i64 (i : Int)) = some (.ptr id (i * 3)) /\ ldV s.get none (.ptr id (i * 3)) = some (.bool (decide (N[i] = (0, 0)))) /\ ldV s.get none (.ptr id (i * 3 + 1)) = some (.int .i64 (N[i].1 : Int)) /\ ldV s.get none (.ptr id (i * 3 + 2)) = some (.int .i64 (N[i].2 : Int)) /\
   ldV s.get (some 3) (.ptr id (i * 3)) = some (.agg [.bool (decide (N[i] = (0, 0))), .int .i64 (N[i].1 : Int), .int .i64 (N[i].2 : Int)]) := by
 rcases h.row with ⟨_, rfl, _⟩ | ⟨id, rfl, hg, _, _⟩
 ·simp at hi
 ·obtain ⟨h1, h2, h3⟩ := cellsR_get hi
  refine ⟨id, ?_, ?_, ?_, ?_, ?_⟩
  ·rw [idx_arr rfl (by omega) (by omega)]; simp
  ·simp only [ldV, hg, pull, h1]; rfl
  ·simp only [ldV, hg, pull, h2]; rfl
  ·simp only [ldV, hg, pull, h3]; rfl
  ·simp only [ldV, hg, pull, cellsR_length]
   rw [if_pos (by omega)]
   congr 2
   have hl : i * 3 + 3 <= (cellsR N).length := by rw [cellsR_length]; omega
   have e1 := List.getElem?_eq_some_iff.1 h1
   have e2 := List.getElem?_eq_some_iff.1 h2
   have e3 := List.getElem?_eq_some_iff.1 h3
   obtain ⟨q1, e1⟩ := e1
   obtain ⟨q2, e2⟩ := e2
   obtain ⟨q3, e3⟩ := e3
   rw [List.drop_eq_getElem_cons q1, List.drop_eq_getElem_cons q2, List.drop_eq_getElem_cons q3, e1, e2, e3]
   rfl
theorem RefAt.lt {s : Store} {r : Nat} {N : List (Nat × Nat)} {dl : D} {ids : List Nat} (h : RefAt s r N dl ids) : ∀ i ∈ ids, i < s.next := by
 rcases h.row with ⟨_, _, rfl⟩ | ⟨id, _, hg, _, rfl⟩
 ·intro i hi; simp at hi; subst hi; exact get_lts h.obj
 ·intro i hi; simp at hi
  rcases hi with rfl | rfl
  ·exact get_lts h.obj
  ·exact get_lts hg
theorem RefAt.stay {s s' : Store} {r : Nat} {N : List (Nat × Nat)} {dl : D} {ids ids2 : List Nat} (h : RefAt s r N dl ids) (hf : Fr ids2 s s') (hd : ∀ i ∈ ids, i ∉ ids2) : RefAt s' r N dl ids := by
 have hl := h.lt
 rcases h.row with ⟨rfl, rfl, rfl⟩ | ⟨id, rfl, hg, hne, rfl⟩
 ·exact ⟨by rw [hf.2 r (hl r (by simp)) (hd r (by simp)), h.obj], .inl ⟨rfl, rfl, rfl⟩⟩
 ·exact ⟨by rw [hf.2 r (hl r (by simp)) (hd r (by simp)), h.obj], .inr ⟨id, rfl, by rw [hf.2 id (hl id (by simp)) (hd id (by simp)), hg], hne, rfl⟩⟩
theorem RefAt.app {s : Store} {r : Nat} {N : List (Nat × Nat)} {dl : D} {ids : List Nat} (h : RefAt s r N dl ids) (p : Nat × Nat) (hN : N.length < 1000000) :
 ∃ s' id', appendV 3 24 dl (.arr s.next 0 1 3) (s.push (.cells [.bool (decide (p = (0, 0))), .int .i64 (p.1 : Int), .int .i64 (p.2 : Int)])) = some (.arr id' 0 (N.length + 1) 3, s') /\ s'.get id' = some (.cells (cellsR (N ++ [p]))) /\ s.next <= id' /\ Fr ids s s' /\ s'.get r = some (.cells [dl]) /\ r < s'.next := by
 have hr := get_lts h.obj
 have hg2 : (s.push (.cells [.bool (decide (p = (0, 0))), .int .i64 (p.1 : Int), .int .i64 (p.2 : Int)])).get s.next = some (.cells [.bool (decide (p = (0, 0))), .int .i64 (p.1 : Int), .int .i64 (p.2 : Int)]) := get_push_new rfl
 have b1 : ∀ n, n <= 1000000 -> n * 24 <= 2 ^ 45 /\ n <= 2 ^ 45 := fun n hn => ⟨Nat.le_trans (Nat.mul_le_mul_right _ hn) (by decide), Nat.le_trans hn (by decide)⟩
 rcases h.row with ⟨rfl, rfl, rfl⟩ | ⟨id, rfl, hg, hne, rfl⟩
 ·refine ⟨(s.push (.cells [.bool (decide (p = (0, 0))), .int .i64 (p.1 : Int), .int .i64 (p.2 : Int)])).push (.cells (cellsR [p])), s.next + 1, ?_, get_push_new (by simp), by omega, (Fr.push _).thenPush _, ?_, by simp; omega⟩
  ·unfold appendV
   simp only [rowOf, hg2, srcLen, srcSz, beq_self_eq_true]
   simp [cellsR]
  ·rw [get_push_old (by simp; omega), get_push_old hr]; exact h.obj
 ·have hl := get_lts hg
  refine ⟨((s.push (.cells [.bool (decide (p = (0, 0))), .int .i64 (p.1 : Int), .int .i64 (p.2 : Int)])).set id none).push (.cells (cellsR (N ++ [p]))), s.next + 1, ?_, get_push_new (by simp), by omega, ((Fr.push _).thenSet _ (.inl (by simp))).thenPush _, ?_, by simp; omega⟩
  ·have hg' : (s.push (.cells [.bool (decide (p = (0, 0))), .int .i64 (p.1 : Int), .int .i64 (p.2 : Int)])).get id = some (.cells (cellsR N)) := by rw [get_push_old hl]; exact hg
   have hb := b1 (N.length + 1) (by omega)
   unfold appendV
   simp only [rowOf, hg2, srcLen, srcSz, beq_self_eq_true, hg', cellsR_length, Nat.zero_add]
   simp [cellsR_append, cellsR, hb.1, hb.2]
  ·rw [get_push_old (by simp; omega), get_set_ne (fun e => hne e.symm), get_push_old hr]; exact h.obj
end Go.V
namespace Go.V
section
variable {fs : FuncId -> Option VFunc}
end
end Go.V
namespace Go.V
structure VI (s : Store) (ids : List Nat) (G : Gr) (d : D) (es : List Nat) : Prop where
 rd : RdF s ids d (cellsI es)
 lt : ∀ e ∈ es, e < 2 * G.nodes.length
theorem VI.step {s s' : Store} {g : Nat} {ids ids' : List Nat} {G G' : Gr} {d : D} {es : List Nat} (h : VI s ids G d es) (hs : GrStep s g ids s' G' ids') (hx : Gr.Ext G G') : VI s' ids' G' d es :=
 ⟨h.rd.step hs, fun e he => by have := h.lt e he; have := hx.le; omega⟩
theorem VI.newer {s s' : Store} {ids : List Nat} {G : Gr} {d : D} {es : List Nat} (h : VI s ids G d es) (hf : Fr [] s s') : VI s' ids G d es := ⟨h.rd.newer hf, h.lt⟩
theorem VI.of {s : Store} {ids : List Nat} {G : Gr} {id : Nat} {es : List Nat} {w : Nat} (h : s.get id = some (.cells (cellsI es))) (hw : es.length = w) (hid : id ∉ ids) (hl : ∀ e ∈ es, e < 2 * G.nodes.length) : VI s ids G (.arr id 0 w 1) es := by
 subst hw
 refine ⟨⟨rdI_arr h, fun id' off n he => ?_⟩, hl⟩
 cases he; exact hid
theorem GrStep.nw {s s' s'' : Store} {g : Nat} {ids ids' : List Nat} {G' : Gr} (h : GrStep s g ids s' G' ids') (hf : Fr [] s' s'') : GrStep s g ids s'' G' ids' :=
 ⟨(h.1.newer hf).1, h.2.1.trans hf (by simp), h.2.2⟩
theorem Gr.Ok.get {G G' : Gr} {k : Nat} (h : Gr.Ok G G' k) {m : List Bool} {e : Nat} (he : e < 2 * G.nodes.length) : G'.ev m e = G.ev m e := h.ext.ev he
end Go.V
namespace Go.V
theorem valZ_emod {f : Nat -> Bool} {w : Nat} (h : 0 < w) : valZ f w % 2 ^ w = (num f w : Int) % 2 ^ w := by rw [valZ_trim h, trimZ_emod]
theorem valZ_lo {f : Nat -> Bool} {w : Nat} (h : 0 < w) : -2 ^ (w - 1) <= valZ f w /\ valZ f w < 2 ^ (w - 1) := by rw [valZ_trim h]; exact trimZ_lo h
theorem trimZ_valZ {f : Nat -> Bool} {w : Nat} (h : 0 < w) : trimZ (valZ f w) w = valZ f w := trimZ_id h (valZ_lo h).1 (valZ_lo h).2
theorem num_trim {f : Nat -> Bool} {w : Nat} {n : Int} (h : 0 < w) (e : (num f w : Int) % 2 ^ w = n % 2 ^ w) : valZ f w = trimZ n w := by rw [valZ_trim h, trimZ_mod e]
theorem pow_le' {v w : Nat} (h : w <= v) : (2 : Int) ^ w <= 2 ^ v := by
 have : (2 : Nat) ^ w <= 2 ^ v := Nat.pow_le_pow_right (by omega) h
 exact_mod_cast this
def bitZ (n : Int) (i : Nat) : Bool := decide (n / 2 ^ i % 2 = 1)
theorem bit_num (n : Int) : ∀ w, (num (bitZ n) w : Int) = n % 2 ^ w
 | 0 => by simp [num]
 | w + 1 => by
   have ih := bit_num n w
   rw [num]
   have e : n % 2 ^ (w + 1) = n % 2 ^ w + 2 ^ w * (n / 2 ^ w % 2) := by
    rw [Int.pow_succ]
    have p := pow_pos' w
    have h1 := Int.emod_add_mul_ediv n (2 ^ w)
    have h2 := Int.emod_add_mul_ediv (n / 2 ^ w) 2
    have h3 := Int.emod_add_mul_ediv n (2 ^ w * 2)
    rw [<- Int.ediv_ediv_of_nonneg (by omega)] at h3
    generalize n / 2 ^ w / 2 = q at *
    generalize n / 2 ^ w = u at *
    generalize u % 2 = r at *
    subst h2
    rw [Int.mul_add, <- Int.mul_assoc] at h1
    omega
   rw [e, <- ih]
   simp only [Int.natCast_add, Int.natCast_mul]
   congr 1
   rw [Int.mul_comm]
   have : ((2 ^ w : Nat) : Int) = 2 ^ w := by simp
   rw [this]
   congr 1
   unfold bitZ
   rcases Int.emod_two_eq (n / 2 ^ w) with h | h <;> simp [h]
theorem bit_val {n : Int} {w : Nat} (h : 0 < w) : valZ (bitZ n) w = trimZ n w := by
 refine num_trim h ?_
 rw [bit_num, Int.emod_emod_of_dvd _ (Int.dvd_refl _)]
end Go.V
namespace Go.Proofs.Ytlaeblilmppodaa
open Go.V
set_option maxRecDepth 100000
theorem awake21 : ∃ s', Ev vfs 23 [] Store.empty (.bool true) s' := ev_of_fst (n := 400) (by kernel_rfl)
end Go.Proofs.Ytlaeblilmppodaa
namespace Go.V
variable {fs : FuncId -> Option VFunc}
def IsoC (fs : FuncId -> Option VFunc) (f : FuncId) (args : List D) (d : D) : Prop := ∃ r s1, Ev fs f args Store.empty r s1 /\ ice s1.get 20 r = some d
theorem IsoC.det {f : FuncId} {args : List D} {d d' : D} (h : IsoC fs f args d) (k : IsoC fs f args d') : d = d' := by
 obtain ⟨r, s1, h1, h2⟩ := h
 obtain ⟨r', s1', k1, k2⟩ := k
 obtain ⟨rfl, rfl⟩ := h1.det k1
 rw [h2] at k2
 exact Option.some.inj k2
def PZ (d : D) : Prop := pureD d = true /\ Fz d
theorem FL.pz {sz : Nat} {d : D} {rows : List (List D)} (h : FL sz d rows) : PZ d := ⟨h.pure, h.fz⟩
theorem pz_agg {l : List D} (h : ∀ d ∈ l, pureD d = true /\ ∀ g n, ice g (n + 2) d = some d) : PZ (.agg l) := ⟨by
 show pureL l = true
 induction l with
 | nil => rfl
 | cons a r ih => simp only [pureL, (h a (by simp)).1, Bool.true_and]; exact ih fun d hd => h d (by simp [hd]), fz_agg fun d hd => (h d hd).2⟩
def End (Q : VExit -> Env -> Store -> Prop) (e : VExit) (env : Env) (s : Store) : Prop := Q e env s
def RgK (vars : List Nat) (Q : VExit -> Env -> Store -> Prop) (env : Env) (s : Store) : Prop := End Q .normal (env.keep vars) s
abbrev Kt := Env -> Store -> Prop
abbrev Ops := List (Nat × VOper)
abbrev Prs := List (Nat × Nat)
def freeB (pairs : Prs) (ops : Ops) : Bool := ops.all fun o => pairs.all fun p => p.2 != o.1
def XQ (fs : FuncId -> Option VFunc) : Prs -> Ops -> Env -> Store -> Kt -> Prop
 | _, [], env, s, K => K env s
 | pairs, (i, ⟨dst, op, g⟩) :: rest, env, s, K =>
   let run : Prop := match dst, op with
    | some t, .p o => match evP env o with
      | some d => XQ fs pairs rest ((t, d) :: env) s K
      | none => False
    | some t, .r o => match evR env s.get o with
      | some d => XQ fs pairs rest ((t, d) :: env) s K
      | none => False
    | some t, .a o => match pairs with
      | [] => match evA env o with
        | some (ob, m) => XQ fs [] rest ((t, m.at s.next) :: env) (s.push ob) K
        | none => False
      | p :: ps => if freeB (p :: ps) ((i, ⟨some t, .a o, none⟩) :: rest) = true then (match evA env o with
        | some (ob, m) => XQ fs [] rest ((t, m.at s.next) :: env) (s.push ob) K
        | none => False) else WQ fs (p :: ps) ((i, ⟨some t, .a o, none⟩) :: rest) env s K
    | none, .w n a v => match pairs with
      | [] => match evW env s.get n a v with
        | some (id, ob) => XQ fs [] rest env (s.set id (some ob)) K
        | none => False
      | p :: ps => if freeB (p :: ps) ((i, ⟨none, .w n a v, none⟩) :: rest) = true then (match evW env s.get n a v with
        | some (id, ob) => XQ fs [] rest env (s.set id (some ob)) K
        | none => False) else WQ fs (p :: ps) ((i, ⟨none, .w n a v, none⟩) :: rest) env s K
    | some t, .m o => match o, pairs with
      | .call .iso (.cst (.fn f [])) args, pairs => match mapO (ice s.get 20) (env.evL args) with
        | some l => ∃ d, IsoC fs f l d /\ (scalarD d || pureL (env.evL args)) = true /\ XQ fs pairs rest ((t, d) :: env) s K
        | none => False
      | .append sz bytes a x, [] => match appendV sz bytes (env.ev a) (env.ev x) s with
        | some (d, s') => XQ fs [] rest ((t, d) :: env) s' K
        | none => False
      | .append sz bytes a x, p :: ps => if freeB (p :: ps) ((i, ⟨some t, .m (.append sz bytes a x), none⟩) :: rest) = true then (match appendV sz bytes (env.ev a) (env.ev x) s with
        | some (d, s') => XQ fs [] rest ((t, d) :: env) s' K
        | none => False) else WQ fs (p :: ps) ((i, ⟨some t, .m (.append sz bytes a x), none⟩) :: rest) env s K
      | o, pairs => WQ fs pairs ((i, ⟨some t, .m o, none⟩) :: rest) env s K
    | dst, op => WQ fs pairs ((i, ⟨dst, op, none⟩) :: rest) env s K
   match g with
   | none => run
   | some (r, b) => Way (env.get r) b run (XQ fs pairs rest (env.put dst (.tup [])) s K)
def BP (r : Option D) (fs : FuncId -> Option VFunc) (pairs : Prs) (t : Nat) (rest : Ops) (env : Env) (s : Store) (K : Kt) : Prop := match r with
 | some d => XQ fs pairs rest ((t, d) :: env) s K
 | none => False
def BA (r : Option (VObj × Made)) (fs : FuncId -> Option VFunc) (t : Nat) (rest : Ops) (env : Env) (s : Store) (K : Kt) : Prop := match r with
 | some (ob, m) => XQ fs [] rest ((t, m.at s.next) :: env) (s.push ob) K
 | none => False
def BW (r : Option (Nat × VObj)) (fs : FuncId -> Option VFunc) (rest : Ops) (env : Env) (s : Store) (K : Kt) : Prop := match r with
 | some (id, ob) => XQ fs [] rest env (s.set id (some ob)) K
 | none => False
def BM (r : Option (D × Store)) (fs : FuncId -> Option VFunc) (t : Nat) (rest : Ops) (env : Env) (K : Kt) : Prop := match r with
 | some (d, s) => XQ fs [] rest ((t, d) :: env) s K
 | none => False
def BC (fs : FuncId -> Option VFunc) (f : FuncId) (l : List D) (p : Bool) (pairs : Prs) (t : Nat) (rest : Ops) (env : Env) (s : Store) (K : Kt) : Prop := ∃ d, IsoC fs f l d /\ (scalarD d || p) = true /\ XQ fs pairs rest ((t, d) :: env) s K
def BL (r : Option (List D)) (p : Bool) (fs : FuncId -> Option VFunc) (f : FuncId) (pairs : Prs) (t : Nat) (rest : Ops) (env : Env) (s : Store) (K : Kt) : Prop := match r with
 | some l => BC fs f l p pairs t rest env s K
 | none => False
def BF (b : Bool) (d : D) (fs : FuncId -> Option VFunc) (pairs : Prs) (t : Nat) (rest : Ops) (env : Env) (s : Store) (K : Kt) : Prop := match b with
 | true => XQ fs pairs rest ((t, d) :: env) s K
 | false => False
def GW (d : D) (b : Bool) (fs : FuncId -> Option VFunc) (pairs : Prs) (x : Nat × VOper) (t : Option Nat) (rest : Ops) (env : Env) (s : Store) (K : Kt) : Prop := Way d b (XQ fs pairs (x :: rest) env s K) (XQ fs pairs rest (env.put t (.tup [])) s K)
def NeId (a b : Nat) : Prop := a ≠ b
def NotIn (id : Nat) : List Nat -> Prop
 | [] => True
 | x :: r => NeId id x /\ NotIn id r
theorem notIn_mem {id : Nat} : ∀ {l : List Nat}, NotIn id l -> id ∉ l
 | [], _ => by simp
 | x :: r, h => by
   have := notIn_mem h.2
   have h1 : id ≠ x := h.1
   simp [h1, this]
def hasP : Prs -> Nat -> Nat -> Bool
 | [], _, _ => false
 | (a, b) :: r, i, j => match Nat.beq a i with
   | true => match Nat.beq b j with
     | true => true
     | false => hasP r i j
   | false => hasP r i j
theorem hasP_mem : ∀ {l : Prs} {i j : Nat}, (i, j) ∈ l -> hasP l i j = true
 | (a, b) :: r, i, j, h => by
   simp only [hasP]
   rcases List.mem_cons.1 h with h | h
   ·cases h
    have e : ∀ n : Nat, Nat.beq n n = true := fun n => Nat.beq_refl n
    rw [e, e]
   ·have ih := hasP_mem h
    split
    ·split
     ·rfl
     ·exact ih
    ·exact ih
def LdOk (pairs : Prs) (i id : Nat) : List Ent -> Prop
 | [] => True
 | e :: T => (hasP pairs e.i i = true -> NotIn id e.eff) /\ LdOk pairs i id T
theorem ldOk_all {pairs : Prs} {i id : Nat} : ∀ {T : List Ent}, LdOk pairs i id T -> ∀ e ∈ T, (e.i, i) ∈ pairs -> id ∉ e.eff
 | e :: T, h, x, hx, hp => by
   rcases List.mem_cons.1 hx with rfl | hx
   ·exact notIn_mem (h.1 (hasP_mem hp))
   ·exact ldOk_all h.2 x hx hp
def NeO (r : Option Nat) (id : Nat) : Prop := match r with
 | some x => NeId x id
 | none => True
def WrOk (pairs : Prs) (i id : Nat) : List Ent -> Prop
 | [] => True
 | e :: T => (hasP pairs e.i i = true -> NeO e.rd id /\ NotIn id e.eff) /\ WrOk pairs i id T
theorem wrOk_all {pairs : Prs} {i id : Nat} : ∀ {T : List Ent}, WrOk pairs i id T -> ∀ e ∈ T, (e.i, i) ∈ pairs -> e.rd ≠ some id /\ id ∉ e.eff
 | e :: T, h, x, hx, hp => by
   rcases List.mem_cons.1 hx with rfl | hx
   ·obtain ⟨h1, h2⟩ := h.1 (hasP_mem hp)
    refine ⟨fun he => ?_, notIn_mem h2⟩
    rw [he] at h1; exact h1 rfl
   ·exact wrOk_all h.2 x hx hp
def EfOk (pairs : Prs) (i : Nat) (E : List Nat) : List Ent -> Prop
 | [] => True
 | e :: T => (hasP pairs e.i i = true -> match e.rd with | some x => NotIn x E | none => True) /\ EfOk pairs i E T
theorem efOk_all {pairs : Prs} {i : Nat} {E : List Nat} : ∀ {T : List Ent}, EfOk pairs i E T -> ∀ e ∈ T, (e.i, i) ∈ pairs -> ∀ id, e.rd = some id -> id ∉ E
 | e :: T, h, x, hx, hp, id, hr => by
   rcases List.mem_cons.1 hx with rfl | hx
   ·have h1 := h.1 (hasP_mem hp)
    rw [hr] at h1
    exact notIn_mem h1
   ·exact efOk_all h.2 x hx hp id hr
def XX (fs : FuncId -> Option VFunc) (pairs : Prs) : List Ent -> Ops -> Env -> Store -> Kt -> Prop
 | _, [], env, s, K => K env s
 | T, (i, ⟨dst, op, g⟩) :: rest, env, s, K =>
   let run : Prop := match dst, op with
    | some t, .p o => match evP env o with
      | some d => XX fs pairs T rest ((t, d) :: env) s K
      | none => False
    | some t, .r (.load n x) => match env.ev x with
      | .fp cs off => match ldV s.get n (.fp cs off) with
        | some d => XX fs pairs T rest ((t, d) :: env) s K
        | none => False
      | .ptr id off => match ldV s.get n (.ptr id off) with
        | some d => LdOk pairs i id T /\ XX fs pairs (⟨i, some id, []⟩ :: T) rest ((t, d) :: env) s K
        | none => False
      | _ => False
    | some t, .a o => match evA env o with
      | some (ob, m) => XX fs pairs (⟨i, none, [s.next]⟩ :: T) rest ((t, m.at s.next) :: env) (s.push ob) K
      | none => False
    | none, .w n a v => match env.ev a with
      | .ptr id _ => match evW env s.get n a v with
        | some (id', ob) => id' = id /\ WrOk pairs i id T /\ XX fs pairs (⟨i, some id, [id]⟩ :: T) rest env (s.set id (some ob)) K
        | none => False
      | _ => False
    | some t, .m (.call .iso (.cst (.fn f [])) args) => match mapO (ice s.get 20) (env.evL args) with
      | some l => ∃ d, IsoC fs f l d /\ (scalarD d || pureL (env.evL args)) = true /\ XX fs pairs T rest ((t, d) :: env) s K
      | none => False
    | some t, .m (.append sz bytes a x) => ∃ d s' E, appendV sz bytes (env.ev a) (env.ev x) s = some (d, s') /\ s.next <= s'.next /\ (∀ id, id ∉ E -> s.get id = s'.get id) /\ EfOk pairs i E T /\ XX fs pairs (⟨i, none, E⟩ :: T) rest ((t, d) :: env) s' K
    | dst, op => WX fs pairs T ((i, ⟨dst, op, none⟩) :: rest) env s K
   match g with
   | none => run
   | some (r, b) => Way (env.get r) b run (XX fs pairs T rest (env.put dst (.tup [])) s K)
theorem wx_guard {pairs T i t o r b rest s Q} {env : Env} {d : D} (hw : env.get r = d)
 (h : Way d b (WX fs pairs T ((i, ⟨t, o, none⟩) :: rest) env s Q) (WX fs pairs T rest (env.put t (.tup [])) s Q)) : WX fs pairs T ((i, ⟨t, o, some (r, b)⟩) :: rest) env s Q := by
 unfold Way at h
 split at h
 ·rename_i c
  by_cases hc : c = b
  ·rw [if_pos hc] at h; subst hc
   intro tr ht
   obtain ⟨n, env', s', h1, h2⟩ := h tr ht
   refine ⟨n, env', s', ?_, h2⟩
   simp only [runOps, wantV, hw, beq_self_eq_true] at h1 ⊢
   exact h1
  ·rw [if_neg hc] at h
   exact wx_skip (by simp only [wantV, hw]; cases c <;> cases b <;> simp_all) h
 ·exact wx_skip (by simp only [wantV, hw]) h
 ·exact h.elim
theorem xx_sound {pairs : Prs} : ∀ {T : List Ent} {ops : Ops} {env : Env} {s : Store} {K : Kt}, XX fs pairs T ops env s K -> WX fs pairs T ops env s K
 | T, [], env, s, K, h => wx_nil h
 | T, (i, ⟨dst, op, g⟩) :: rest, env, s, K, h => by
   have key : ∀ (h : XX fs pairs T ((i, ⟨dst, op, none⟩) :: rest) env s K), WX fs pairs T ((i, ⟨dst, op, none⟩) :: rest) env s K := by
    intro h
    unfold XX at h
    simp only at h
    split at h
    ·split at h
     ·rename_i d e; exact wx_p e (xx_sound h)
     ·exact h.elim
    ·split at h
     ·rename_i e
      split at h
      ·rename_i d e2; exact wx_fp e e2 (xx_sound h)
      ·exact h.elim
     ·rename_i e
      split at h
      ·rename_i d e2; exact wx_ld e e2 (ldOk_all h.1) (xx_sound h.2)
      ·exact h.elim
     ·exact h.elim
    ·split at h
     ·rename_i ob m e; exact wx_a e (xx_sound h)
     ·exact h.elim
    ·split at h
     ·rename_i e
      split at h
      ·rename_i id' ob e2
       obtain ⟨rfl, h2, h3⟩ := h
       exact wx_w e e2 (wrOk_all h2) (xx_sound h3)
      ·exact h.elim
     ·exact h.elim
    ·split at h
     ·rename_i l hl
      obtain ⟨d, ⟨r, s1, h1, h2⟩, h3, h4⟩ := h
      exact wx_iso rfl hl h1 h2 h3 (xx_sound h4)
     ·exact h.elim
    ·obtain ⟨d, s', E, h1, h2, h3, h4, h5⟩ := h
     exact wx_m ⟨0, by simp only [evM]; exact h1⟩ h3 h2 (efOk_all h4) (xx_sound h5)
    ·exact h
   cases g with
   | none => exact key h
   | some rb =>
     obtain ⟨r, b⟩ := rb
     refine wx_guard (d := env.get r) rfl ?_
     have h' : Way (env.get r) b (XX fs pairs T ((i, ⟨dst, op, none⟩) :: rest) env s K) (XX fs pairs T rest (env.put dst (.tup [])) s K) := h
     unfold Way at h' ⊢
     split at h'
     ·rename_i c _
      split at h'
      ·rename_i hc; simp only [hc, if_true]; exact key h'
      ·rename_i hc; simp only [hc, if_false]; exact xx_sound h'
     ·exact xx_sound h'
     ·exact h'
def RX (fs : FuncId -> Option VFunc) (pairs : Prs) (ops : Ops) (env : Env) (s : Store) (K : Kt) : Prop := match pairs with
 | [] => XQ fs [] ops env s K
 | p :: ps => XX fs (p :: ps) [] ops env s K
def thenF (k : Env -> Store -> Prop) (Q : VExit -> Env -> Store -> Prop) : VExit -> Env -> Store -> Prop
 | .normal, env, s => k env s
 | e, env, s => Q e env s
def YW (fs : FuncId -> Option VFunc) (vars : List Nat) : VCode -> (VExit -> Env -> Store -> Prop) -> Env -> Store -> Prop
 | .skip, Q, env, s => End Q .normal env s
 | .region r, Q, env, s => RX fs r.pairs r.ops env s (RgK vars Q)
 | .seq a b, Q, env, s => YW fs vars a (thenF (YW fs vars b Q) Q) env s
 | .cond c x y, Q, env, s => WayC (env.ev c) (YW fs vars x Q env s) (YW fs vars y Q env s)
 | .block id b, Q, env, s => YW fs vars b (Out' id Q) env s
 | .loop b, Q, env, s => WP fs vars (.loop b) env s Q
 | .exit id, Q, env, s => End Q (.exit id) env s
 | .ret, Q, env, s => End Q .ret env s
def ThenY (fs : FuncId -> Option VFunc) (vars : List Nat) (b : VCode) (Q : VExit -> Env -> Store -> Prop) : VExit -> Env -> Store -> Prop
 | .normal, env, s => YW fs vars b Q env s
 | e, env, s => Q e env s
theorem xq_sound : ∀ {pairs : Prs} {ops : Ops} {env : Env} {s : Store} {K : Kt}, XQ fs pairs ops env s K -> WQ fs pairs ops env s K
 | pairs, [], env, s, K, h => vq_nil h
 | pairs, (i, ⟨dst, op, g⟩) :: rest, env, s, K, h => by
   have key : ∀ (h : XQ fs pairs ((i, ⟨dst, op, none⟩) :: rest) env s K), WQ fs pairs ((i, ⟨dst, op, none⟩) :: rest) env s K := by
    intro h
    unfold XQ at h
    simp only at h
    split at h
    ·split at h
     ·rename_i d e; exact vq_p e (xq_sound h)
     ·exact h.elim
    ·split at h
     ·rename_i d e; exact vq_r e (xq_sound h)
     ·exact h.elim
    ·split at h
     ·split at h
      ·rename_i ob m e; exact vq_a e (xq_sound h)
      ·exact h.elim
     ·split at h
      ·rename_i hf
       refine vq_free' hf ?_
       split at h
       ·rename_i ob m e; exact vq_a e (xq_sound h)
       ·exact h.elim
      ·exact h
    ·split at h
     ·split at h
      ·rename_i ob m e; exact vq_w e (xq_sound h)
      ·exact h.elim
     ·split at h
      ·rename_i hf
       refine vq_free' hf ?_
       split at h
       ·rename_i ob m e; exact vq_w e (xq_sound h)
       ·exact h.elim
      ·exact h
    ·split at h
     ·split at h
      ·rename_i l hl
       obtain ⟨d, ⟨r, s1, h1, h2⟩, h3, h4⟩ := h
       exact vq_iso hl h1 h2 h3 (xq_sound h4)
      ·exact h.elim
     ·split at h
      ·rename_i d s' e; exact vq_append e (xq_sound h)
      ·exact h.elim
     ·split at h
      ·rename_i hf
       refine vq_free' hf ?_
       split at h
       ·rename_i d s' e; exact vq_append e (xq_sound h)
       ·exact h.elim
      ·exact h
     ·exact h
    ·exact h
   cases g with
   | none => exact key h
   | some rb =>
     obtain ⟨r, b⟩ := rb
     refine vq_g (d := env.get r) rfl ?_
     have h' : Way (env.get r) b (XQ fs pairs ((i, ⟨dst, op, none⟩) :: rest) env s K) (XQ fs pairs rest (env.put dst (.tup [])) s K) := h
     unfold Way at h' ⊢
     split at h'
     ·rename_i c _
      split at h'
      ·rename_i hc; simp only [hc, if_true]; exact key h'
      ·rename_i hc; simp only [hc, if_false]; exact xq_sound h'
     ·exact xq_sound h'
     ·exact h'
theorem yw_sound {vars : List Nat} : ∀ {c : VCode} {Q : VExit -> Env -> Store -> Prop} {env : Env} {s : Store}, YW fs vars c Q env s -> WP fs vars c env s Q
 | .skip, _, _, _, h => vw_skip h
 | .region ⟨ops, [], dr⟩, Q, _, _, h => vw_rg (xq_sound h)
 | .region ⟨ops, p :: ps, dr⟩, Q, _, _, h => vw_rgx (xx_sound h)
 | .seq a b, Q, env, s, h => by
   refine vw_seq ((yw_sound (c := a) h).mono fun e env s h => ?_)
   cases e with
   | normal => exact yw_sound (c := b) h
   | exit id => exact h
   | ret => exact h
 | .cond c x y, Q, env, s, h => by
   refine vw_condm (d := env.ev c) rfl ?_
   have h' : WayC (env.ev c) (YW fs vars x Q env s) (YW fs vars y Q env s) := h
   unfold WayC at h' ⊢
   split at h'
   ·split at h'
    ·rename_i hc; simp only [hc, if_true]; exact yw_sound h'
    ·rename_i hc; simp only [hc]; exact yw_sound h'
   ·exact h'
 | .block id b, Q, env, s, h => vw_block (yw_sound (c := b) h)
 | .loop b, Q, env, s, h => h
 | .exit id, _, _, _, h => vw_exit h
 | .ret, _, _, _, h => vw_ret h
theorem then_eq {vars b Q} : thenF (YW fs vars b Q) Q = ThenY fs vars b Q := by
 funext e env s
 cases e <;> rfl
theorem yw_skip {vars Q env s} : YW fs vars .skip Q env s = End Q .normal env s := Eq.trans rfl rfl
theorem yw_seq {vars a b Q env s} : YW fs vars (.seq a b) Q env s = YW fs vars a (ThenY fs vars b Q) env s := by rw [<- then_eq]; rfl
def CW (d : D) (fs : FuncId -> Option VFunc) (vars : List Nat) (x y : VCode) (Q : VExit -> Env -> Store -> Prop) (env : Env) (s : Store) : Prop := WayC d (YW fs vars x Q env s) (YW fs vars y Q env s)
theorem yw_cond {vars c x y Q env s} : YW fs vars (.cond c x y) Q env s = CW (env.ev c) fs vars x y Q env s := Eq.trans rfl rfl
theorem yw_block {vars id b Q env s} : YW fs vars (.block id b) Q env s = YW fs vars b (Out' id Q) env s := Eq.trans rfl rfl
theorem yw_exit {vars id Q env s} : YW fs vars (.exit id) Q env s = End Q (.exit id) env s := Eq.trans rfl rfl
theorem yw_loop {vars b Q env s} : YW fs vars (.loop b) Q env s = WP fs vars (.loop b) env s Q := Eq.trans rfl rfl
theorem yw_ret {vars Q env s} : YW fs vars .ret Q env s = End Q .ret env s := Eq.trans rfl rfl
theorem xq_nil {pairs vars Q env s} : XQ fs pairs [] env s (RgK vars Q) = End Q .normal (env.keep vars) s := Eq.trans rfl rfl
theorem xq_g {pairs i t o r b rest env s K} : XQ fs pairs ((i, ⟨t, o, some (r, b)⟩) :: rest) env s K = GW (env.get r) b fs pairs (i, ⟨t, o, none⟩) t rest env s K := Eq.trans rfl rfl
theorem xq_i {pairs i t f args rest env s K} : XQ fs pairs ((i, ⟨some t, .m (.call .iso (.cst (.fn f [])) args), none⟩) :: rest) env s K = BL (mapO (ice s.get 20) (env.evL args)) (pureL (env.evL args)) fs f pairs t rest env s K := by
 unfold XQ BL BC; cases pairs <;> rfl
theorem xq_c {pairs i t f args rest env s K} : XQ fs pairs ((i, ⟨some t, .m (.call .raw f args), none⟩) :: rest) env s K = WQ fs pairs ((i, ⟨some t, .m (.call .raw f args), none⟩) :: rest) env s K := by cases pairs <;> rfl
theorem xq_ap {i t sz bytes a x rest env s K} : XQ fs [] ((i, ⟨some t, .m (.append sz bytes a x), none⟩) :: rest) env s K = BM (appendV sz bytes (env.ev a) (env.ev x) s) fs t rest env K := Eq.trans rfl rfl
theorem bp_s {d pairs t rest env s K} : BP (some d) fs pairs t rest env s K = XQ fs pairs rest ((t, d) :: env) s K := Eq.trans rfl rfl
theorem ba_p {ob t rest env s K} : BA (some (ob, .ptr)) fs t rest env s K = XQ fs [] rest ((t, .ptr s.next 0) :: env) (s.push ob) K := Eq.trans rfl rfl
theorem ba_r {ob t rest env s K l sz} : BA (some (ob, .arr l sz)) fs t rest env s K = XQ fs [] rest ((t, .arr s.next 0 l sz) :: env) (s.push ob) K := Eq.trans rfl rfl
theorem bw_s {id ob rest env s K} : BW (some (id, ob)) fs rest env s K = XQ fs [] rest env (s.set id (some ob)) K := Eq.trans rfl rfl
theorem bl_s {l p f pairs t rest env s K} : BL (some l) p fs f pairs t rest env s K = BC fs f l p pairs t rest env s K := Eq.trans rfl rfl
theorem bf_t {d pairs t rest env s K} : BF true d fs pairs t rest env s K = XQ fs pairs rest ((t, d) :: env) s K := Eq.trans rfl rfl
theorem cw_t {vars x y Q env s} : CW (.bool true) fs vars x y Q env s = YW fs vars x Q env s := by simp [CW, WayC]
theorem cw_f {vars x y Q env s} : CW (.bool false) fs vars x y Q env s = YW fs vars y Q env s := by simp [CW, WayC]
theorem gw_tt {pairs x t rest env s K} : GW (.bool true) true fs pairs x t rest env s K = XQ fs pairs (x :: rest) env s K := by simp [GW, Way]
theorem gw_ff {pairs x t rest env s K} : GW (.bool false) false fs pairs x t rest env s K = XQ fs pairs (x :: rest) env s K := by simp [GW, Way]
theorem gw_tf {pairs x t rest env s K} : GW (.bool true) false fs pairs x t rest env s K = XQ fs pairs rest (env.put t (.tup [])) s K := by simp [GW, Way]
theorem gw_ft {pairs x t rest env s K} : GW (.bool false) true fs pairs x t rest env s K = XQ fs pairs rest (env.put t (.tup [])) s K := by simp [GW, Way]
theorem gw_u {b pairs x t rest env s K} : GW (.tup []) b fs pairs x t rest env s K = XQ fs pairs rest (env.put t (.tup [])) s K := Eq.trans rfl rfl
theorem put_s {env : Env} {t d} : env.put (some t) d = (t, d) :: env := Eq.trans rfl rfl
theorem en_tn {vars b Q env s} : End (ThenY fs vars b Q) .normal env s = YW fs vars b Q env s := Eq.trans rfl rfl
theorem en_te {vars b Q id env s} : End (ThenY fs vars b Q) (.exit id) env s = End Q (.exit id) env s := Eq.trans rfl rfl
theorem en_tr {vars b Q env s} : End (ThenY fs vars b Q) .ret env s = End Q .ret env s := Eq.trans rfl rfl
theorem en_on {id Q env s} : End (Out' id Q) .normal env s = End Q .normal env s := Eq.trans rfl rfl
theorem en_or {id Q env s} : End (Out' id Q) .ret env s = End Q .ret env s := Eq.trans rfl rfl
theorem en_oe {id id' Q env s} : End (Out' id Q) (.exit id') env s = if id' = id then End Q .normal env s else End Q (.exit id') env s := Eq.trans rfl rfl
theorem cw_sp {b : Bool} {vars x y Q env s} (h1 : b = true -> YW fs vars x Q env s) (h2 : b = false -> YW fs vars y Q env s) : CW (.bool b) fs vars x y Q env s := by
 cases b
 ·rw [cw_f]; exact h2 rfl
 ·rw [cw_t]; exact h1 rfl
theorem gw_sp {c b : Bool} {pairs x t rest env s K} (h1 : c = true -> GW (.bool true) b fs pairs x t rest env s K) (h2 : c = false -> GW (.bool false) b fs pairs x t rest env s K) : GW (.bool c) b fs pairs x t rest env s K := by
 cases c
 ·exact h2 rfl
 ·exact h1 rfl
theorem ic_nil {g : Look} {n : Nat} : mapO (ice g (n + 1)) [] = some [] := Eq.trans rfl rfl
theorem ic_int {g : Look} {n : Nat} {k : IntKind} {x : Int} {l : List D} : mapO (ice g (n + 1)) (.int k x :: l) = (mapO (ice g (n + 1)) l).map (.int k x :: ·) := by
 simp only [mapO, ice]; cases mapO (ice g (n + 1)) l <;> rfl
theorem ic_bool {g : Look} {n : Nat} {x : Bool} {l : List D} : mapO (ice g (n + 1)) (.bool x :: l) = (mapO (ice g (n + 1)) l).map (.bool x :: ·) := by
 simp only [mapO, ice]; cases mapO (ice g (n + 1)) l <;> rfl
theorem ic_pz {g : Look} {n : Nat} {d : D} {l : List D} (h : PZ d) : mapO (ice g (n + 3)) (d :: l) = (mapO (ice g (n + 3)) l).map (d :: ·) := by
 simp only [mapO, h.2 g n]; cases mapO (ice g (n + 3)) l <;> rfl
theorem ic_ice {g : Look} {n : Nat} {d d' : D} {l : List D} (h : ice g n d = some d') : mapO (ice g n) (d :: l) = (mapO (ice g n) l).map (d' :: ·) := by
 simp only [mapO, h]; cases mapO (ice g n) l <;> rfl
theorem pd_pz {d : D} (h : PZ d) : pureD d = true := h.1
theorem pl_nil : pureL [] = true := Eq.trans rfl rfl
theorem pl_cons {d : D} {l : List D} : pureL (d :: l) = (pureD d && pureL l) := Eq.trans rfl rfl
theorem pd_int {k : IntKind} {n : Int} : pureD (.int k n) = true := Eq.trans rfl rfl
theorem sd_int {k : IntKind} {n : Int} : scalarD (.int k n) = true := Eq.trans rfl rfl
theorem sd_bool {b : Bool} : scalarD (.bool b) = true := Eq.trans rfl rfl
theorem sd_agg {l : List D} : scalarD (.agg l) = scalarL l := Eq.trans rfl rfl
theorem sd_tup {l : List D} : scalarD (.tup l) = scalarL l := Eq.trans rfl rfl
theorem sl_nil : scalarL [] = true := Eq.trans rfl rfl
theorem sl_cons {d : D} {l : List D} : scalarL (d :: l) = (scalarD d && scalarL l) := Eq.trans rfl rfl
theorem ice_int {g : Look} {n : Nat} {k : IntKind} {x : Int} : ice g (n + 1) (.int k x) = some (.int k x) := Eq.trans rfl rfl
theorem ice_bool {g : Look} {n : Nat} {x : Bool} : ice g (n + 1) (.bool x) = some (.bool x) := Eq.trans rfl rfl
theorem ice_tup {g : Look} {n : Nat} {l : List D} : ice g (n + 1) (.tup l) = (mapO (ice g n) l).map .tup := Eq.trans rfl rfl
theorem res_1 {env : Env} {s : Store} {x} : resOf env s [x] = resOne env s x := by
 unfold resOf resAll
 cases resOne env s x <;> rfl
theorem res_2 {env : Env} {s : Store} {x y l} : resOf env s (x :: y :: l) = (resAll env s (x :: y :: l)).map .tup := by
 unfold resOf
 simp only [resAll]
 cases resOne env s x <;> cases resOne env s y <;> cases resAll env s l <;> rfl
theorem res_n {env : Env} {s : Store} : resAll env s [] = some [] := Eq.trans rfl rfl
theorem res_c {env : Env} {s : Store} {x l} : resAll env s (x :: l) = (resOne env s x).bind fun d => (resAll env s l).map (d :: ·) := by
 simp only [resAll]
 cases resOne env s x <;> cases resAll env s l <;> rfl
theorem res_o {env : Env} {s : Store} {t} : resOne env s (t, none) = some (env.get t) := Eq.trans rfl rfl
def resPl (s : Store) (n : Option Nat) : D -> Option D
 | .ptr id off => ldV s.get n (.ptr id off)
 | _ => none
theorem res_s {env : Env} {s : Store} {t n} : resOne env s (t, some n) = resPl s n (env.get t) := by
 simp only [resOne, resPl]
 cases h : env.get t <;> rfl
theorem res_l {s : Store} {n id off} : resPl s n (.ptr id off) = ldV s.get n (.ptr id off) := Eq.trans rfl rfl
def RetQ (res : List (Nat × Option (Option Nat))) (P : D -> Store -> Prop) : VExit -> Env -> Store -> Prop := fun e env s => (e = .normal ∨ e = .ret) /\ ∃ d, resOf env s res = some d /\ P d s
def RB (r : Option D) (s : Store) (P : D -> Store -> Prop) : Prop := match r with
 | some d => P d s
 | none => False
theorem rq_r {res P env s} : End (RetQ res P) .ret env s = RB (resOf env s res) s P := by
 unfold End RetQ RB
 apply propext
 cases resOf env s res <;> simp
def IceQ (x : D) : D -> Store -> Prop := fun r s => ice s.get 20 r = some x
theorem rb_i {d s x} : RB (some d) s (IceQ x) = (ice s.get 20 d = some x) := Eq.trans rfl rfl
def IceP (P : D -> Prop) : D -> Store -> Prop := fun r s => ∃ d, ice s.get 20 r = some d /\ P d
theorem rb_p {d s P} : RB (some d) s (IceP P) = ∃ x, ice s.get 20 d = some x /\ P x := Eq.trans rfl rfl
theorem yevp {f : FuncId} {vf : VFunc} {args : List D} {s : Store} {P : D -> Store -> Prop} (hf : fs f = some vf) (h : YW fs vf.vars vf.code (RetQ vf.res P) (vf.vars.map fun t => (t, args.getD t .undef)) s) : EvP fs f args s P := evp_of hf (yw_sound h)
theorem yiso {f : FuncId} {vf : VFunc} {args : List D} {d : D} (hf : fs f = some vf) (h : YW fs vf.vars vf.code (RetQ vf.res (IceQ d)) (vf.vars.map fun t => (t, args.getD t .undef)) Store.empty) : IsoC fs f args d := by
 obtain ⟨r, s1, h1, h2⟩ := yevp hf h
 exact ⟨r, s1, h1, h2⟩
def IsoP (fs : FuncId -> Option VFunc) (f : FuncId) (args : List D) (P : D -> Prop) : Prop := ∃ d, IsoC fs f args d /\ P d
theorem yisop {f : FuncId} {vf : VFunc} {args : List D} {P : D -> Prop} (hf : fs f = some vf) (h : YW fs vf.vars vf.code (RetQ vf.res (IceP P)) (vf.vars.map fun t => (t, args.getD t .undef)) Store.empty) : IsoP fs f args P := by
 obtain ⟨r, s1, h1, d, h2, h3⟩ := yevp hf h
 exact ⟨d, ⟨r, s1, h1, h2⟩, h3⟩
theorem xq_evp {i t f args rest s K} {env : Env} {l : List D} {P : D -> Store -> Prop} (hr : EvP fs f l s P) (ha : env.evL args = l)
 (h : ∀ d s', P d s' -> XQ fs [] rest ((t, d) :: env) s' K) : WQ fs [] ((i, ⟨some t, .m (.call .raw (.cst (.fn f [])) args), none⟩) :: rest) env s K := vq_evpf hr ha fun d s' hp => xq_sound (h d s' hp)
inductive Rf {α : Type} (a b : α) : Prop where
 | mk (h : a = b)
def getO : Env -> Nat -> Option D
 | [], _ => none
 | (s, d) :: r, t => match Nat.beq s t with
   | true => some d
   | false => getO r t
theorem getO_get : ∀ {env : Env} {t : Nat} {d : D}, getO env t = some d -> env.get t = d
 | [], _, _, h => by simp [getO] at h
 | (s, d) :: r, t, d', h => by
   simp only [getO] at h
   split at h
   ·rename_i e
    have := Nat.eq_of_beq_eq_true e
    cases h
    simp only [Env.get, this, if_true]
   ·rename_i e
    have : s ≠ t := fun he => by subst he; simp at e
    simp only [Env.get, this, if_false]
    exact getO_get h
theorem get_is {env : Env} {t : Nat} {d : D} (h : Rf (getO env t) (some d)) : Env.get env t = d := getO_get h.1
def keepO : List Nat -> Env -> Option Env
 | [], _ => some []
 | t :: r, env => match getO env t with
   | some d => match keepO r env with
     | some l => some ((t, d) :: l)
     | none => none
   | none => none
theorem keepO_keep : ∀ {vars : List Nat} {env e : Env}, keepO vars env = some e -> env.keep vars = e
 | [], _, _, h => by simp [keepO] at h; exact h.symm
 | t :: r, env, e, h => by
   simp only [keepO] at h
   split at h
   ·rename_i d hd
    split at h
    ·rename_i l hl
     cases h
     show (t, env.get t) :: env.keep r = _
     rw [getO_get hd, keepO_keep hl]
    ·cases h
   ·cases h
theorem keep_is {vars : List Nat} {env e : Env} (h : Rf (keepO vars env) (some e)) : env.keep vars = e := keepO_keep h.1
def formE (vars l : List Nat) (e0 : Env) (f : Nat -> D) : Env := vars.map fun t => (t, if l.contains t then e0.get t else f t)
def hasB : List Nat -> Nat -> Bool
 | [], _ => false
 | s :: r, t => match Nat.beq s t with
   | true => true
   | false => hasB r t
theorem hasB_eq : ∀ {l : List Nat} {t : Nat}, hasB l t = l.contains t
 | [], _ => rfl
 | s :: r, t => by
   simp only [hasB, List.contains_cons]
   split
   ·rename_i e
    have := Nat.eq_of_beq_eq_true e
    simp [this]
   ·rename_i e
    have : (t == s) = false := by
     rw [beq_eq_false_iff_ne]; intro he; subst he; simp at e
    rw [this, Bool.false_or]; exact hasB_eq
def formO : List Nat -> List Nat -> Env -> (Nat -> D) -> Option Env
 | [], _, _, _ => some []
 | t :: r, l, e0, f => match hasB l t with
   | true => match getO e0 t with
     | some d => match formO r l e0 f with
       | some e => some ((t, d) :: e)
       | none => none
     | none => none
   | false => match formO r l e0 f with
     | some e => some ((t, f t) :: e)
     | none => none
theorem formO_form : ∀ {vars l : List Nat} {e0 e : Env} {f : Nat -> D}, formO vars l e0 f = some e -> formE vars l e0 f = e
 | [], _, _, _, _, h => by simp [formO] at h; exact h.symm
 | t :: r, l, e0, e, f, h => by
   simp only [formO] at h
   show (t, if l.contains t then e0.get t else f t) :: formE r l e0 f = e
   rw [<- hasB_eq]
   split at h
   ·rename_i hb
    split at h
    ·rename_i d hd
     split at h
     ·rename_i e' he
      cases h
      rw [hb, if_pos rfl, getO_get hd, formO_form he]
     ·cases h
    ·cases h
   ·rename_i hb
    split at h
    ·rename_i e' he
     cases h
     rw [hb, if_neg (by simp), formO_form he]
    ·cases h
theorem form_is {vars l : List Nat} {e0 e : Env} {f : Nat -> D} (h : Rf (formO vars l e0 f) (some e)) : formE vars l e0 f = e := formO_form h.1
def KeepE (vars l : List Nat) (e0 e : Env) : Prop := e.keep vars = e /\ e.keep l = e0.keep l
theorem keepE_is {vars l : List Nat} {e0 e x : Env} (h1 : Rf (keepO vars e) (some e)) (h2 : Rf (keepO l e0) (some x)) (h3 : Rf (keepO l e) (some x)) : KeepE vars l e0 e = True := eq_true ⟨keepO_keep h1.1, by rw [keepO_keep h2.1, keepO_keep h3.1]⟩
theorem keep_mem {l : List Nat} {e e0 : Env} (h : e.keep l = e0.keep l) {t : Nat} (ht : t ∈ l) : e.get t = e0.get t := by
 unfold Env.keep at h
 have := List.map_inj_left.1 h t ht
 simpa using this
theorem form_of {vars l : List Nat} {e0 e : Env} (h : KeepE vars l e0 e) : e = formE vars l e0 fun t => e.get t := by
 conv => lhs; rw [<- h.1]
 unfold Env.keep formE
 refine List.map_congr_left fun t _ => ?_
 by_cases ht : t ∈ l
 ·rw [if_pos (List.contains_iff_mem.2 ht), keep_mem h.2 ht]
 ·rw [if_neg (by simpa using ht)]
abbrev It := Nat -> (Nat -> D) -> Store -> Prop
def UpQ (vars l : List Nat) (e0 : Env) (n i : Nat) (I : It) (Q : VExit -> Env -> Store -> Prop) : VExit -> Env -> Store -> Prop
 | .normal, env, s => KeepE vars l e0 env /\ i < n /\ I (i + 1) (fun t => env.get t) s
 | e, env, s => Q e env s
theorem uq_n {vars l e0 n i I Q env s} : End (UpQ vars l e0 n i I Q) .normal env s = (KeepE vars l e0 env /\ i < n /\ I (i + 1) (fun t => env.get t) s) := Eq.trans rfl rfl
theorem uq_e {vars l e0 n i I Q id env s} : End (UpQ vars l e0 n i I Q) (.exit id) env s = End Q (.exit id) env s := Eq.trans rfl rfl
theorem uq_r {vars l e0 n i I Q env s} : End (UpQ vars l e0 n i I Q) .ret env s = End Q .ret env s := Eq.trans rfl rfl
theorem keepE_refl {vars l : List Nat} {e : Env} (h : Rf (keepO vars e) (some e)) : KeepE vars l e e := ⟨keepO_keep h.1, rfl⟩
theorem yw_up {vars b Q env0 s0} (l : List Nat) (a n : Nat) (I : It) (h1 : Rf (keepO vars env0) (some env0)) (ha : a <= n) (h0 : I a (fun t => env0.get t) s0) (hs : ∀ i f s, i <= n -> I i f s -> YW fs vars b (UpQ vars l env0 n i I Q) (formE vars l env0 f) s) : WP fs vars (.loop b) env0 s0 Q := by
 refine vw_loop_inv (fun k env s => ∃ i, i <= n /\ k = n - i /\ KeepE vars l env0 env /\ I i (fun t => env.get t) s) ?_ (n - a) _ _ ⟨a, ha, rfl, keepE_refl h1, h0⟩
 rintro k env s ⟨i, hi, rfl, hk, hI⟩
 have := hs i _ s hi hI
 rw [<- form_of hk] at this
 refine (yw_sound this).mono fun e env' s' h => ?_
 cases e with
 | normal =>
   obtain ⟨h1, h2, h3⟩ := h
   exact ⟨n - (i + 1), by omega, i + 1, by omega, rfl, h1, h3⟩
 | exit id => exact h
 | ret => exact h
def CutQ (vars l : List Nat) (e0 : Env) (P : (Nat -> D) -> Store -> Prop) (Q : VExit -> Env -> Store -> Prop) : VExit -> Env -> Store -> Prop
 | .normal, env, s => KeepE vars l e0 env /\ P (fun t => env.get t) s
 | e, env, s => Q e env s
theorem cq_n {vars l e0 P Q env s} : End (CutQ vars l e0 P Q) .normal env s = (KeepE vars l e0 env /\ P (fun t => env.get t) s) := Eq.trans rfl rfl
theorem WQ.mono {pairs ops env s} {K K' : Env -> Store -> Prop} (h : WQ fs pairs ops env s K) (hk : ∀ env s, K env s -> K' env s) : WQ fs pairs ops env s K' := fun tr ht => by
 obtain ⟨n, env', s', h1, h2⟩ := h tr ht
 exact ⟨n, env', s', h1, hk _ _ h2⟩
theorem Way.mono {d : D} {b : Bool} {A B A' B' : Prop} (h : Way d b A B) (h1 : A -> A') (h2 : B -> B') : Way d b A' B' := by
 unfold Way at *; split at h
 ·split at h
  ·rename_i hc; rw [if_pos hc]; exact h1 h
  ·rename_i hc; rw [if_neg hc]; exact h2 h
 ·exact h2 h
 ·exact h
theorem WayC.mono {d : D} {A B A' B' : Prop} (h : WayC d A B) (h1 : A -> A') (h2 : B -> B') : WayC d A' B' := by
 unfold WayC at *; split at h
 ·split at h
  ·rename_i hc; rw [if_pos hc]; exact h1 h
  ·rename_i hc; rw [if_neg hc]; exact h2 h
 ·exact h
theorem WX.mono {pairs T ops env s} {K K' : Kt} (h : WX fs pairs T ops env s K) (hk : ∀ env s, K env s -> K' env s) : WX fs pairs T ops env s K' := fun tr ht => by
 obtain ⟨n, env', s', h1, h2⟩ := h tr ht
 exact ⟨n, env', s', h1, hk _ _ h2⟩
theorem wp_cut {vars c Q env s id} (l : List Nat) (P : (Nat -> D) -> Store -> Prop) (h : WP fs vars c env s (Out' id (CutQ vars l env P Q))) (k : ∀ f s, P f s -> End Q .normal (formE vars l env f) s) : WP fs vars c env s (Out' id Q) := by
 have key : ∀ env' s, CutQ vars l env P Q .normal env' s -> Q .normal env' s := fun env' s h => by
  have := k _ s h.2
  rw [<- form_of h.1] at this
  exact this
 refine WP.mono h fun e env' s h => ?_
 cases e with
 | normal => exact key _ _ h
 | exit id' =>
   simp only [Out'] at h ⊢
   by_cases hc : id' = id
   ·rw [if_pos hc] at h ⊢; exact key _ _ h
   ·rw [if_neg hc] at h ⊢; exact h
 | ret => exact h
theorem ev_tmp {env : Env} {t : Nat} : env.ev (.tmp t) = env.get t := Eq.trans rfl rfl
theorem ev_cst {env : Env} {d : D} : env.ev (.cst d) = d := Eq.trans rfl rfl
theorem ww_q {pairs i t o rest env s K} : XQ fs pairs (xq i t o :: rest) env s K = BP (evP env o) fs pairs t rest env s K := Eq.trans rfl rfl
theorem ww_g {pairs i t o g b rest env s K} : XQ fs pairs (xg i t o g b :: rest) env s K = GW (env.get g) b fs pairs (xq i t o) (some t) rest env s K := Eq.trans rfl rfl
theorem ww_m {pairs i t x rest env s K} : XQ fs pairs (xm i t x :: rest) env s K = BP (some (env.get x)) fs pairs t rest env s K := Eq.trans rfl rfl
theorem ww_mg {pairs i t x g b rest env s K} : XQ fs pairs (xmg i t x g b :: rest) env s K = GW (env.get g) b fs pairs (xm i t x) (some t) rest env s K := Eq.trans rfl rfl
theorem ww_c {pairs i t d rest env s K} : XQ fs pairs (xc i t d :: rest) env s K = XQ fs pairs rest ((t, d) :: env) s K := Eq.trans rfl rfl
theorem ww_l {pairs i t n x rest env s K} : XQ fs pairs (xl i t n x :: rest) env s K = BP (ldV s.get n (env.get x)) fs pairs t rest env s K := by
 rw [<- show env.ev (.tmp x) = env.get x from rfl, <- evR_load]; rfl
theorem ww_lg {pairs i t n x g b rest env s K} : XQ fs pairs (xlg i t n x g b :: rest) env s K = GW (env.get g) b fs pairs (xl i t n x) (some t) rest env s K := Eq.trans rfl rfl
theorem ww_f {pairs i t off x rest env s K} : XQ fs pairs (xf i t off x :: rest) env s K = BP (evP env (.fieldA off (.tmp x))) fs pairs t rest env s K := Eq.trans rfl rfl
theorem ww_fg {pairs i t off x g b rest env s K} : XQ fs pairs (xfg i t off x g b :: rest) env s K = GW (env.get g) b fs pairs (xf i t off x) (some t) rest env s K := Eq.trans rfl rfl
theorem ww_a0 {i t o rest env s K} : XQ fs [] (xa i t o :: rest) env s K = BA (evA env o) fs t rest env s K := Eq.trans rfl rfl
theorem ww_w0 {i n a v rest env s K} : XQ fs [] (xw i n a v :: rest) env s K = BW (evW env s.get n (.tmp a) v) fs rest env s K := Eq.trans rfl rfl
theorem ww_i {pairs i t f args rest env s K} : XQ fs pairs (xi i t f args :: rest) env s K = BL (mapO (ice s.get 20) (env.evL args)) (pureL (env.evL args)) fs f pairs t rest env s K := xq_i
theorem ww_ig {pairs i t f args g b rest env s K} : XQ fs pairs (xig i t f args g b :: rest) env s K = GW (env.get g) b fs pairs (xi i t f args) (some t) rest env s K := Eq.trans rfl rfl
theorem ww_k {pairs i t f args rest env s K} : XQ fs pairs (xk i t f args :: rest) env s K = WQ fs pairs (xk i t f args :: rest) env s K := xq_c
theorem ww_o {pairs i t o g rest env s K} : XQ fs pairs (xo i t o g :: rest) env s K = XQ fs pairs ((i, ⟨t, o, g⟩) :: rest) env s K := Eq.trans rfl rfl
theorem wy_r {vars l Q env s} : YW fs vars (xr l) Q env s = XQ fs [] l env s (RgK vars Q) := Eq.trans rfl rfl
theorem wy_rp {vars l b Q env s} : YW fs vars (xrp l [] b) Q env s = XQ fs [] l env s (RgK vars Q) := Eq.trans rfl rfl
theorem wy_rx {vars l p ps b Q env s} : YW fs vars (xrp l (p :: ps) b) Q env s = XX fs (p :: ps) [] l env s (RgK vars Q) := Eq.trans rfl rfl
theorem nx_empty : Store.empty.next = 0 := Eq.trans rfl rfl
def BX (r : Option D) (fs : FuncId -> Option VFunc) (pairs : Prs) (T : List Ent) (t : Nat) (rest : Ops) (env : Env) (s : Store) (K : Kt) : Prop := match r with
 | some d => XX fs pairs T rest ((t, d) :: env) s K
 | none => False
def BD (d : D) (n : Option Nat) (i : Nat) (fs : FuncId -> Option VFunc) (pairs : Prs) (T : List Ent) (t : Nat) (rest : Ops) (env : Env) (s : Store) (K : Kt) : Prop := match d with
 | .fp cs off => match ldV s.get n (.fp cs off) with
   | some d => XX fs pairs T rest ((t, d) :: env) s K
   | none => False
 | .ptr id off => match ldV s.get n (.ptr id off) with
   | some d => LdOk pairs i id T /\ XX fs pairs (⟨i, some id, []⟩ :: T) rest ((t, d) :: env) s K
   | none => False
 | _ => False
def BE (C : Prop) (r : Option D) (fs : FuncId -> Option VFunc) (pairs : Prs) (T : List Ent) (t : Nat) (rest : Ops) (env : Env) (s : Store) (K : Kt) : Prop := C /\ BX r fs pairs T t rest env s K
def AX (r : Option (VObj × Made)) (i : Nat) (fs : FuncId -> Option VFunc) (pairs : Prs) (T : List Ent) (t : Nat) (rest : Ops) (env : Env) (s : Store) (K : Kt) : Prop := match r with
 | some (ob, m) => XX fs pairs (⟨i, none, [s.next]⟩ :: T) rest ((t, m.at s.next) :: env) (s.push ob) K
 | none => False
def UX (d : D) (r : Option (Nat × VObj)) (i : Nat) (fs : FuncId -> Option VFunc) (pairs : Prs) (T : List Ent) (rest : Ops) (env : Env) (s : Store) (K : Kt) : Prop := match d with
 | .ptr id _ => match r with
   | some (id', ob) => id' = id /\ WrOk pairs i id T /\ XX fs pairs (⟨i, some id, [id]⟩ :: T) rest env (s.set id (some ob)) K
   | none => False
 | _ => False
def VX (C : Prop) (fs : FuncId -> Option VFunc) (pairs : Prs) (T : List Ent) (rest : Ops) (env : Env) (s : Store) (K : Kt) : Prop := C /\ XX fs pairs T rest env s K
def MX (d x : D) (sz bytes i : Nat) (fs : FuncId -> Option VFunc) (pairs : Prs) (T : List Ent) (t : Nat) (rest : Ops) (env : Env) (s : Store) (K : Kt) : Prop := ∃ d' s' E, appendV sz bytes d x s = some (d', s') /\ s.next <= s'.next /\ (∀ id, id ∉ E -> s.get id = s'.get id) /\ EfOk pairs i E T /\ XX fs pairs (⟨i, none, E⟩ :: T) rest ((t, d') :: env) s' K
def CX (fs : FuncId -> Option VFunc) (f : FuncId) (l : List D) (p : Bool) (pairs : Prs) (T : List Ent) (t : Nat) (rest : Ops) (env : Env) (s : Store) (K : Kt) : Prop := ∃ d, IsoC fs f l d /\ (scalarD d || p) = true /\ XX fs pairs T rest ((t, d) :: env) s K
def LX (r : Option (List D)) (p : Bool) (fs : FuncId -> Option VFunc) (f : FuncId) (pairs : Prs) (T : List Ent) (t : Nat) (rest : Ops) (env : Env) (s : Store) (K : Kt) : Prop := match r with
 | some l => CX fs f l p pairs T t rest env s K
 | none => False
def FX (b : Bool) (d : D) (fs : FuncId -> Option VFunc) (pairs : Prs) (T : List Ent) (t : Nat) (rest : Ops) (env : Env) (s : Store) (K : Kt) : Prop := match b with
 | true => XX fs pairs T rest ((t, d) :: env) s K
 | false => False
abbrev Eqc (fs : FuncId -> Option VFunc) (f : FuncId) (l : List D) (d : D) : Prop := (∀ p pairs t rest env s K, BC fs f l p pairs t rest env s K = BF (scalarD d || p) d fs pairs t rest env s K) /\ ∀ p pairs T t rest env s K, CX fs f l p pairs T t rest env s K = FX (scalarD d || p) d fs pairs T t rest env s K
theorem bc_of {f : FuncId} {args : List D} {d : D} (h : IsoC fs f args d) : Eqc fs f args d := by
 refine ⟨fun p pairs t rest env s K => propext ⟨?_, fun hk => ?_⟩, fun p pairs T t rest env s K => propext ⟨?_, fun hk => ?_⟩⟩
 ·rintro ⟨d', h1, h2, h3⟩
  obtain rfl := h.det h1
  unfold BF; rw [h2]; exact h3
 ·unfold BF at hk
  split at hk
  ·rename_i hs; exact ⟨d, h, hs, hk⟩
  ·exact hk.elim
 ·rintro ⟨d', h1, h2, h3⟩
  obtain rfl := h.det h1
  unfold FX; rw [h2]; exact h3
 ·unfold FX at hk
  split at hk
  ·rename_i hs; exact ⟨d, h, hs, hk⟩
  ·exact hk.elim
theorem fx_t {d pairs T t rest env s K} : FX true d fs pairs T t rest env s K = XX fs pairs T rest ((t, d) :: env) s K := Eq.trans rfl rfl
theorem xx_nil {pairs T vars Q env s} : XX fs pairs T [] env s (RgK vars Q) = End Q .normal (env.keep vars) s := Eq.trans rfl rfl
theorem xx_i {pairs T i t f args rest env s K} : XX fs pairs T ((i, ⟨some t, .m (.call .iso (.cst (.fn f [])) args), none⟩) :: rest) env s K = LX (mapO (ice s.get 20) (env.evL args)) (pureL (env.evL args)) fs f pairs T t rest env s K := by
 unfold XX LX CX; rfl
theorem xx_m {pairs T i t sz bytes a x rest env s K} : XX fs pairs T ((i, ⟨some t, .m (.append sz bytes a x), none⟩) :: rest) env s K = MX (env.ev a) (env.ev x) sz bytes i fs pairs T t rest env s K := Eq.trans rfl rfl
theorem xx_c {pairs T i t f args rest env s K} : XX fs pairs T ((i, ⟨some t, .m (.call .raw f args), none⟩) :: rest) env s K = WX fs pairs T ((i, ⟨some t, .m (.call .raw f args), none⟩) :: rest) env s K := Eq.trans rfl rfl
theorem bx_s {d pairs T t rest env s K} : BX (some d) fs pairs T t rest env s K = XX fs pairs T rest ((t, d) :: env) s K := Eq.trans rfl rfl
theorem bd_f {cs off n i pairs T t rest env s K} : BD (.fp cs off) n i fs pairs T t rest env s K = BX (ldV s.get n (.fp cs off)) fs pairs T t rest env s K := by
 unfold BD BX; rfl
theorem bd_p {id off n i pairs T t rest env s K} : BD (.ptr id off) n i fs pairs T t rest env s K = BE (LdOk pairs i id T) (ldV s.get n (.ptr id off)) fs pairs (⟨i, some id, []⟩ :: T) t rest env s K := by
 unfold BD BE BX
 simp only
 cases ldV s.get n (.ptr id off) with
 | some d => rfl
 | none => simp
theorem be_t {r pairs T t rest env s K} : BE True r fs pairs T t rest env s K = BX r fs pairs T t rest env s K := by simp [BE]
theorem ax_r {ob l sz i pairs T t rest env s K} : AX (some (ob, .arr l sz)) i fs pairs T t rest env s K = XX fs pairs (⟨i, none, [s.next]⟩ :: T) rest ((t, .arr s.next 0 l sz) :: env) (s.push ob) K := Eq.trans rfl rfl
theorem ux_s {id off ob i pairs T rest env s K} : UX (.ptr id off) (some (id, ob)) i fs pairs T rest env s K = VX (WrOk pairs i id T) fs pairs (⟨i, some id, [id]⟩ :: T) rest env (s.set id (some ob)) K := by
 unfold UX VX; simp
theorem vx_t {pairs T rest env s K} : VX True fs pairs T rest env s K = XX fs pairs T rest env s K := by simp [VX]
theorem lx_s {l p f pairs T t rest env s K} : LX (some l) p fs f pairs T t rest env s K = CX fs f l p pairs T t rest env s K := Eq.trans rfl rfl
theorem wz_q {pairs T i t o rest env s K} : XX fs pairs T (xq i t o :: rest) env s K = BX (evP env o) fs pairs T t rest env s K := Eq.trans rfl rfl
theorem wz_m {pairs T i t x rest env s K} : XX fs pairs T (xm i t x :: rest) env s K = BX (some (env.get x)) fs pairs T t rest env s K := Eq.trans rfl rfl
theorem wz_l {pairs T i t n x rest env s K} : XX fs pairs T (xl i t n x :: rest) env s K = BD (env.get x) n i fs pairs T t rest env s K := Eq.trans rfl rfl
theorem wz_f {pairs T i t off x rest env s K} : XX fs pairs T (xf i t off x :: rest) env s K = BX (evP env (.fieldA off (.tmp x))) fs pairs T t rest env s K := Eq.trans rfl rfl
theorem wz_a {pairs T i t o rest env s K} : XX fs pairs T (xa i t o :: rest) env s K = AX (evA env o) i fs pairs T t rest env s K := Eq.trans rfl rfl
theorem wz_w {pairs T i n a v rest env s K} : XX fs pairs T (xw i n a v :: rest) env s K = UX (env.get a) (evW env s.get n (.tmp a) v) i fs pairs T rest env s K := Eq.trans rfl rfl
theorem wz_i {pairs T i t f args rest env s K} : XX fs pairs T (xi i t f args :: rest) env s K = LX (mapO (ice s.get 20) (env.evL args)) (pureL (env.evL args)) fs f pairs T t rest env s K := xx_i
theorem wz_k {pairs T i t f args rest env s K} : XX fs pairs T (xk i t f args :: rest) env s K = WX fs pairs T (xk i t f args :: rest) env s K := xx_c
theorem wz_o {pairs T i t o g rest env s K} : XX fs pairs T (xo i t o g :: rest) env s K = XX fs pairs T ((i, ⟨t, o, g⟩) :: rest) env s K := Eq.trans rfl rfl
theorem lo_n {pairs i id} : LdOk pairs i id [] = True := Eq.trans rfl rfl
theorem lo_0 {pairs i id a r E T} (h : Rf (hasP pairs a i) false) : LdOk pairs i id (⟨a, r, E⟩ :: T) = LdOk pairs i id T := by simp [LdOk, h.1]
theorem wo_n {pairs i id} : WrOk pairs i id [] = True := Eq.trans rfl rfl
theorem wo_0 {pairs i id a r E T} (h : Rf (hasP pairs a i) false) : WrOk pairs i id (⟨a, r, E⟩ :: T) = WrOk pairs i id T := by simp [WrOk, h.1]
attribute [go_sem] fx_t wy_rx xx_nil xx_i xx_m xx_c bx_s bd_f bd_p be_t ax_r ux_s vx_t lx_s wz_q wz_m wz_l wz_f wz_a wz_w wz_i wz_k wz_o lo_n lo_0 wo_n wo_0
attribute [go_sem] Nat.reduceLT nx_empty ww_q ww_g ww_m ww_mg ww_c ww_l ww_lg ww_f ww_fg ww_a0 ww_w0 ww_i ww_ig ww_k ww_o wy_r wy_rp
attribute [go_sem] yw_skip yw_seq yw_cond yw_block yw_loop yw_exit yw_ret xq_nil xq_g xq_i xq_c xq_ap bp_s bl_s ba_p ba_r bw_s bf_t cw_t cw_f gw_tt gw_ff gw_tf gw_ft gw_u en_tn en_te en_tr en_on en_or en_oe keep_is get_is form_is keepE_is ev_tmp ev_cst put_s
attribute [go_sem] ic_nil ic_int ic_bool ic_pz pd_pz pl_nil pl_cons pd_int sd_int sd_bool sd_agg sd_tup sl_nil sl_cons ice_int ice_bool ice_tup res_1 res_2 res_n res_c res_o res_s res_l rq_r rb_i rb_p Option.some.injEq D.tup.injEq D.int.injEq D.bool.injEq D.agg.injEq D.str.injEq List.cons.injEq uq_n uq_e uq_r cq_n Option.bind Bool.or_true Bool.true_or
theorem yw_congr {vars c Q env env' s s'} (h : env = env') (h' : s = s') : YW fs vars c Q env s = YW fs vars c Q env' s' := by rw [h, h']
theorem xq_congr {pairs ops K env env' s s'} (h : env = env') (h' : s = s') : XQ fs pairs ops env s K = XQ fs pairs ops env' s' K := by rw [h, h']
theorem end_congr {Q e env env' s s'} (h : env = env') (h' : s = s') : End Q e env s = End Q e env' s' := by rw [h, h']
theorem bp_congr {r r' pairs t rest env s K} (h : r = r') : BP r fs pairs t rest env s K = BP r' fs pairs t rest env s K := by rw [h]
theorem bl_congr {r r' p p' f pairs t rest env s K} (h : r = r') (h' : p = p') : BL r p fs f pairs t rest env s K = BL r' p' fs f pairs t rest env s K := by rw [h, h']
theorem bm_congr {r r' t rest env K} (h : r = r') : BM r fs t rest env K = BM r' fs t rest env K := by rw [h]
theorem bf_congr {r r' d pairs t rest env s K} (h : r = r') : BF r d fs pairs t rest env s K = BF r' d fs pairs t rest env s K := by rw [h]
theorem cw_congr {d d' vars x y Q env s} (h : d = d') : CW d fs vars x y Q env s = CW d' fs vars x y Q env s := by rw [h]
theorem gw_congr {d d' b pairs x t rest env s K} (h : d = d') : GW d b fs pairs x t rest env s K = GW d' b fs pairs x t rest env s K := by rw [h]
theorem fx_congr {b b' d pairs T t rest env s K} (h : b = b') : FX b d fs pairs T t rest env s K = FX b' d fs pairs T t rest env s K := by rw [h]
theorem bx_congr {r r' pairs T t rest env s K} (h : r = r') : BX r fs pairs T t rest env s K = BX r' fs pairs T t rest env s K := by rw [h]
theorem bd_congr {r r' n i pairs T t rest env s K} (h : r = r') : BD r n i fs pairs T t rest env s K = BD r' n i fs pairs T t rest env s K := by rw [h]
theorem vx_congr {C C' pairs T rest env s K} (hc : C = C') : VX C fs pairs T rest env s K = VX C' fs pairs T rest env s K := by rw [hc]
theorem mx_congr {d d' x x' sz bytes i pairs T t rest env s s' K} (h : d = d') (h2 : x = x') (h3 : s = s') : MX d x sz bytes i fs pairs T t rest env s K = MX d' x' sz bytes i fs pairs T t rest env s' K := by rw [h, h2, h3]
theorem lx_congr {f l l' p p' pairs T t rest env s K} (h : l = l') (h2 : p = p') : LX l p fs f pairs T t rest env s K = LX l' p' fs f pairs T t rest env s K := by rw [h, h2]
attribute [congr] fx_congr bx_congr bd_congr vx_congr mx_congr lx_congr
attribute [congr] yw_congr xq_congr end_congr bp_congr bl_congr bm_congr bf_congr cw_congr gw_congr
theorem zF {P Q : Prop} (k : Q) (h : P = Q := by
 simp only [xn, List.map, List.getD, List.getElem?_cons_zero, List.getElem?_cons_succ, List.getElem?_nil, Option.getD]
 exact rfl) : P := h.mpr k
theorem zY0 {P Q : Prop} (k : Q) (h : P = Q := by
 simp (maxSteps := 1000000) (disch := (first|exact Rf.mk rfl|with_reducible assumption|omega|((repeat (first|rw [nP]|rw [nS]|rw [nx_empty]))<;>omega)|decide)) only [go_sem, ↓reduceIte]
 exact rfl) : P := h.mpr k
theorem zY {F P Q : Prop} (f : F) (k : Q) (h : F -> P = Q := by
 intro f
 simp (maxSteps := 1000000) (disch := (first|exact Rf.mk rfl|with_reducible assumption|omega|((repeat (first|rw [nP]|rw [nS]|rw [nx_empty]))<;>omega)|decide)) only [go_sem, ↓reduceIte, f]
 exact rfl) : P := (h f).mpr k
theorem zZ0 {P : Prop} (h : P := by simp (maxSteps := 1000000) (disch := (first|exact Rf.mk rfl|with_reducible assumption|omega|((repeat (first|rw [nP]|rw [nS]|rw [nx_empty]))<;>omega)|decide)) only [go_sem, ↓reduceIte]) : P := h
theorem zZ {F P : Prop} (f : F) (h : F -> P := by
 intro f
 simp (maxSteps := 1000000) (disch := (first|exact Rf.mk rfl|with_reducible assumption|omega|((repeat (first|rw [nP]|rw [nS]|rw [nx_empty]))<;>omega)|decide)) only [go_sem, ↓reduceIte, f]) : P := h f
end Go.V
namespace Go.Proofs.Ytlaeblilmppodaa
open Go.V
set_option maxRecDepth 100000
theorem iso_c {f : Nat} {l : List D} {r : D} (h : Iso f l r) (hs : scal1 r = true) : IsoC vfs f l r := by
 obtain ⟨s1, h⟩ := h
 exact ⟨r, s1, h, ice_scal hs 19⟩
theorem iso_bc {f : Nat} {l : List D} {r : D} (h : Iso f l r) (hs : scal1 r = true) : Eqc vfs f l r := bc_of (iso_c h hs)
end Go.Proofs.Ytlaeblilmppodaa
namespace Go.Proofs.Ytlaeblilmppodaa
open Go.V
set_option maxRecDepth 100000
set_option maxHeartbeats 4000000
end Go.Proofs.Ytlaeblilmppodaa
namespace Go.V
def vAt (l : List Vr) (i : Nat) : Vr := l.getD i default
def bAt (l : List Bool) (i : Nat) : Bool := l.getD i false
def pAt (l : List Pr) (i : Nat) : Pr := l.getD i default
def prX (l : List (Pr × PrD)) (i : Nat) : PrD := (l.getD i ⟨default, ⟨.nils, .nils, .nils, .nils, .nils⟩⟩).2
theorem vAt_get {l : List Vr} {i : Nat} (h : i < l.length) : vAt l i = l[i] := by simp [vAt, List.getD, h]
theorem bAt_get {l : List Bool} {i : Nat} (h : i < l.length) : bAt l i = l[i] := by simp [bAt, List.getD, h]
theorem pAt_get {l : List Pr} {i : Nat} (h : i < l.length) : pAt l i = l[i] := by simp [pAt, List.getD, h]
theorem pAt_mem {l : List Pr} {i : Nat} (h : i < l.length) : pAt l i ∈ l := by rw [pAt_get h]; exact List.getElem_mem h
theorem chAt_mem {l : List Ch} {i : Nat} (h : i < l.length) : chAt l i ∈ l := by rw [chAt_get h]; exact List.getElem_mem h
theorem vAt_mem {l : List Vr} {i : Nat} (h : i < l.length) : vAt l i ∈ l := by rw [vAt_get h]; exact List.getElem_mem h
theorem zAt_mem {l : List Int} {i : Nat} (h : i < l.length) : zAt l i ∈ l := by rw [zAt_get h]; exact List.getElem_mem h
theorem cAt_mem {l : List (List Int)} {i : Nat} (h : i < l.length) : cAt l i ∈ l := by rw [cAt_get h]; exact List.getElem_mem h
variable {k : IntKind} {i j : Nat} {d : D}
theorem ix_i {l : List Int} (h : FI d l) (hi : i < l.length) : idxAV 1 d (.int k (i : Int)) = some (.fp [.int .i64 (zAt l i)] 0) := by rw [FI.idx h hi, zAt_get hi]
theorem ix_n {l : List Nat} (h : FL 1 d (rowsN l)) (hi : i < l.length) : idxAV 1 d (.int k (i : Int)) = some (.fp [.int .i64 (nAt l i : Int)] 0) := by rw [FLN.idx h hi, nAt_get hi]
theorem ix_b {l : List Bool} (h : FL 1 d (rowsB l)) (hi : i < l.length) : idxAV 1 d (.int k (i : Int)) = some (.fp [.bool (bAt l i)] 0) := by rw [FLB.idx h hi, bAt_get hi]
theorem ix_c {l : List Ch} (h : FL 5 d (rowsC l)) (hi : i < l.length) : idxAV 5 d (.int k (i : Int)) = some (.fp [.str (chAt l i).name, .int .i64 (chAt l i).room, .int .i64 (chAt l i).width, .bool (chAt l i).lossy, .bool (chAt l i).copying] 0) := by rw [FLC.idx h hi, chAt_get hi]; rfl
theorem ix_v {l : List Vr} (h : FL 3 d (rowsV l)) (hi : i < l.length) : idxAV 3 d (.int k (i : Int)) = some (.fp [.str (vAt l i).name, .int .i64 (vAt l i).width, .int .i64 (vAt l i).value] 0) := by rw [FLV.idx h hi, vAt_get hi]; rfl
theorem ln_i {l : List Int} (h : FI d l) : lenV false d = some (.int .i64 (l.length : Int)) := FI.len h
theorem ln_n {l : List Nat} (h : FL 1 d (rowsN l)) : lenV false d = some (.int .i64 (l.length : Int)) := by rw [h.len, rowsN_length]
theorem ln_b {l : List Bool} (h : FL 1 d (rowsB l)) : lenV false d = some (.int .i64 (l.length : Int)) := by rw [h.len, rowsB_length]
theorem ln_c {l : List Ch} (h : FL 5 d (rowsC l)) : lenV false d = some (.int .i64 (l.length : Int)) := by rw [h.len, rowsC_length]
theorem ln_v {l : List Vr} (h : FL 3 d (rowsV l)) : lenV false d = some (.int .i64 (l.length : Int)) := by rw [h.len, rowsV_length]
theorem pz_i {l : List Int} (h : FI d l) : PZ d := FL.pz h
variable {m : MdX} {mo : Mo} {ps : List (Pr × PrD)}
theorem mp_ok (h : MoF m mo ps) (hi : i < mo.procs.length) : PrF (pAt mo.procs i) (prX ps i) := by
 have hi' : i < ps.length := by rw [h.plen]; exact hi
 have e : pAt mo.procs i = ps[i].1 := by rw [pAt_get hi]; simp [<- h.eq]
 have e2 : prX ps i = ps[i].2 := by simp [prX, List.getD, hi']
 rw [e, e2]
 exact h.at' _ (List.getElem_mem hi')
theorem ix_p (h : MoF m mo ps) (hi : i < mo.procs.length) : idxAV 8 m.dp (.int k (i : Int)) = some (.fp [.str (pAt mo.procs i).name, .int .i64 ((pAt mo.procs i).copy : Int), (prX ps i).dl, .int .i64 ((pAt mo.procs i).places : Int), (prX ps i).dr, (prX ps i).de, (prX ps i).dn, (prX ps i).dv] 0) := by
 have hi' : i < ps.length := by rw [h.plen]; exact hi
 have e : pAt mo.procs i = ps[i].1 := by rw [pAt_get hi]; simp [<- h.eq]
 have e2 : prX ps i = ps[i].2 := by simp [prX, List.getD, hi']
 rw [h.p.idx (by simpa using hi'), e, e2]
 simp [rowsP, prRow]
theorem ln_p (h : MoF m mo ps) : lenV false m.dp = some (.int .i64 (mo.procs.length : Int)) := h.lenP
theorem pr_ol (h : MoF m mo ps) (hi : i < mo.procs.length) : oneCell (prX ps i).dl = true := (mp_ok h hi).l.one
theorem pr_or (h : MoF m mo ps) (hi : i < mo.procs.length) : oneCell (prX ps i).dr = true := (mp_ok h hi).r.one
theorem pr_oe (h : MoF m mo ps) (hi : i < mo.procs.length) : oneCell (prX ps i).de = true := (mp_ok h hi).e.one
theorem pr_on' (h : MoF m mo ps) (hi : i < mo.procs.length) : oneCell (prX ps i).dn = true := (mp_ok h hi).n.one
theorem pr_ov (h : MoF m mo ps) (hi : i < mo.procs.length) : oneCell (prX ps i).dv = true := (mp_ok h hi).v.one
theorem pz_mo (h : MoF m mo ps) : PZ (.agg [m.dt, .int .i64 m.g, m.dc, m.dv, m.dp, m.ds, .bool m.b]) := pz_agg fun d hd => by
 simp only [List.mem_cons, List.not_mem_nil, or_false] at hd
 rcases hd with rfl | rfl | rfl | rfl | rfl | rfl | rfl
 ·exact ⟨FL.pure h.tr.fl, FL.ic h.tr.fl⟩
 ·exact ⟨rfl, fun _ _ => rfl⟩
 ·exact ⟨h.c.pure, FL.ic h.c⟩
 ·exact ⟨h.v.pure, FL.ic h.v⟩
 ·exact ⟨h.p.pure, FL.ic h.p⟩
 ·exact ⟨h.sf.pure, FL.ic h.sf⟩
 ·exact ⟨rfl, fun _ _ => rfl⟩
theorem pz_st {x : StD} {st : Stt} (h : StF x st) : PZ (.agg [x.da, x.dv, x.dc, .int .i64 st.hold]) := pz_agg fun d hd => by
 obtain ⟨ds, h1, _⟩ := h.c
 simp only [List.mem_cons, List.not_mem_nil, or_false] at hd
 rcases hd with rfl | rfl | rfl | rfl
 ·exact ⟨h.a.pure, FL.ic h.a⟩
 ·exact ⟨FL.pure h.v, FL.ic h.v⟩
 ·exact ⟨h1.pure, FL.ic h1⟩
 ·exact ⟨rfl, fun _ _ => rfl⟩
def chX : D -> Nat -> D
 | .lst _ xs, i => (xs.getD i []).getD 0 .nils
 | _, _ => .nils
theorem st_ch {x : StD} {st : Stt} (h : StF x st) (hi : i < st.chans.length) : FI (chX x.dc i) (cAt st.chans i) /\ idxAV 1 x.dc (.int k (i : Int)) = some (.fp [chX x.dc i] 0) := by
 obtain ⟨ds, h1, h2, h3⟩ := h.c
 have hi' : i < ds.length := by omega
 have e : chX x.dc i = ds[i] := by
  rcases h1 with ⟨_, e⟩ | e
  ·simp at e; subst e; simp at hi'
  ·rw [e]; simp [chX, List.getD, hi']
 rw [e, cAt_get hi]
 refine ⟨h3 i hi' hi, ?_⟩
 rw [h1.idx (by simpa using hi')]
 simp
theorem st_cf {x : StD} {st : Stt} (h : StF x st) (hi : i < st.chans.length) : FI (chX x.dc i) (cAt st.chans i) := (st_ch (k := .i64) h hi).1
theorem st_ci {x : StD} {st : Stt} (h : StF x st) (hi : i < st.chans.length) : idxAV 1 x.dc (.int k (i : Int)) = some (.fp [chX x.dc i] 0) := (st_ch h hi).2
theorem st_co {x : StD} {st : Stt} (h : StF x st) (hi : i < st.chans.length) : oneCell (chX x.dc i) = true := FL.one (st_cf h hi)
theorem st_cl {x : StD} {st : Stt} (h : StF x st) (hi : i < st.chans.length) : lenV false (chX x.dc i) = some (.int .i64 ((cAt st.chans i).length : Int)) := FI.len (st_cf h hi)
theorem st_cx {x : StD} {st : Stt} (h : StF x st) (hi : i < st.chans.length) (hj : j < (cAt st.chans i).length) : idxAV 1 (chX x.dc i) (.int k (j : Int)) = some (.fp [.int .i64 (zAt (cAt st.chans i) j)] 0) := ix_i (st_cf h hi) hj
theorem st_lc {x : StD} {st : Stt} (h : StF x st) : lenV false x.dc = some (.int .i64 (st.chans.length : Int)) := by
 obtain ⟨ds, h1, h2, _⟩ := h.c
 rw [h1.len, List.length_map, h2]
theorem nat_succ {n : Nat} : (n : Int) + 1 = ((n + 1 : Nat) : Int) := by omega
theorem lt_nat {a b : Nat} : ((a : Int) < (b : Int)) = (a < b) := by apply propext; omega
theorem le_nat {a b : Nat} : ((a : Int) <= (b : Int)) = (a <= b) := by apply propext; omega
theorem nc_0 : ((0 : Nat) : Int) = 0 := rfl
theorem nc_1 : ((1 : Nat) : Int) = 1 := rfl
theorem nc_2 : ((2 : Nat) : Int) = 2 := rfl
theorem nc_3 : ((3 : Nat) : Int) = 3 := rfl
theorem nc_4 : ((4 : Nat) : Int) = 4 := rfl
theorem nc_5 : ((5 : Nat) : Int) = 5 := rfl
theorem nc_6 : ((6 : Nat) : Int) = 6 := rfl
theorem nc_7 : ((7 : Nat) : Int) = 7 := rfl
theorem nc_8 : ((8 : Nat) : Int) = 8 := rfl
theorem nc_9 : ((9 : Nat) : Int) = 9 := rfl
theorem nc_10 : ((10 : Nat) : Int) = 10 := rfl
theorem nc_11 : ((11 : Nat) : Int) = 11 := rfl
theorem nc_12 : ((12 : Nat) : Int) = 12 := rfl
theorem nc_13 : ((13 : Nat) : Int) = 13 := rfl
theorem nc_14 : ((14 : Nat) : Int) = 14 := rfl
theorem nc_15 : ((15 : Nat) : Int) = 15 := rfl
theorem nc_16 : ((16 : Nat) : Int) = 16 := rfl
theorem beq_int {a b : Int} : (a == b) = decide (a = b) := by rw [Bool.eq_iff_iff]; simp
theorem bne_int {a b : Int} : (a != b) = !decide (a = b) := by rw [bne, beq_int]
theorem eq_nat {a b : Nat} : ((a : Int) = (b : Int)) = (a = b) := by apply propext; omega
theorem nat_pos {a : Nat} : ((0 : Int) < (a : Int)) = (0 < a) := by apply propext; omega
theorem nat_nn {a : Nat} : ((0 : Int) <= (a : Int)) = True := eq_true (by omega)
attribute [go_sem] nc_0 nc_1 nc_2 nc_3 nc_4 nc_5 nc_6 nc_7 nc_8 nc_9 nc_10 nc_11 nc_12 nc_13 nc_14 nc_15 nc_16 beq_int bne_int eq_nat nat_pos nat_nn ix_i ix_n ix_b ix_c ix_v ln_i ln_n ln_b ln_c ln_v ix_p ln_p pr_ol pr_or pr_oe pr_on' pr_ov st_ci st_co st_cl st_cx st_lc nat_succ lt_nat le_nat
theorem z_ext {a b : List Int} (h : a.length = b.length) (hz : ∀ j, j < a.length -> zAt a j = zAt b j) : a = b := List.ext_getElem h fun j h1 h2 => by
 have := hz j h1
 rwa [zAt_get h1, zAt_get h2] at this
theorem cnd_1 {p : Prop} [Decidable p] : (decide p = true) = p := by simp
theorem cnd_2 {p : Prop} [Decidable p] : (decide p = false) = ¬ p := by simp
theorem cnd_3 {b : Bool} : ((!b) = true) = (b = false) := by simp
theorem cnd_4 {b : Bool} : ((!b) = false) = (b = true) := by simp
end Go.V
namespace Go.Proofs.Ytlaeblilmppodaa
open Go.V
set_option maxRecDepth 100000
set_option maxHeartbeats 4000000
theorem ints_bc {da db : D} {a b : List Int} (ha : FI da a) (hb : FI db b) (hl : a.length <= 1000000) : Eqc vfs 49 [da, db] (.bool (decide (a = b))) := by
 refine bc_of ?_
 refine yiso (vf := vf49) rfl ?_
 unfold vf49; refine zF ?_
 refine zY0 ?_
 repeat' (first|(refine cw_sp (fun c => ?_) (fun c => ?_) <;> (try simp only [cnd_1, cnd_2, cnd_3, cnd_4] at c) <;> simp (disch := (first|exact Rf.mk rfl|with_reducible assumption|omega|((repeat (first|rw [nP]|rw [nS]|rw [nx_empty]))<;>omega)|decide)) only [go_sem, ↓reduceIte, c])|(refine gw_sp (fun c => ?_) (fun c => ?_) <;> (try simp only [cnd_1, cnd_2, cnd_3, cnd_4] at c) <;> simp (disch := (first|exact Rf.mk rfl|with_reducible assumption|omega|((repeat (first|rw [nP]|rw [nS]|rw [nx_empty]))<;>omega)|decide)) only [go_sem, ↓reduceIte, c]))
 ·simp; intro h; exact c (by rw [h])
 ·refine yw_up [0, 1, 10] 0 a.length (fun i f s => f 5 = .int .i64 (i : Int) /\ ∀ j, j < i -> zAt a j = zAt b j) (.mk rfl) (by omega) ⟨rfl, fun j h => by omega⟩ ?_
  rintro i f s hi ⟨hE, hall⟩
  by_cases ci : i < a.length
  ·have ci' : i < b.length := by omega
   refine zY (aN hE ci) ?_
   repeat' (first|(refine cw_sp (fun c => ?_) (fun c => ?_) <;> (try simp only [cnd_1, cnd_2, cnd_3, cnd_4] at c) <;> simp (disch := (first|exact Rf.mk rfl|with_reducible assumption|omega|((repeat (first|rw [nP]|rw [nS]|rw [nx_empty]))<;>omega)|decide)) only [go_sem, ↓reduceIte, hE, ci, c])|(refine gw_sp (fun c => ?_) (fun c => ?_) <;> (try simp only [cnd_1, cnd_2, cnd_3, cnd_4] at c) <;> simp (disch := (first|exact Rf.mk rfl|with_reducible assumption|omega|((repeat (first|rw [nP]|rw [nS]|rw [nx_empty]))<;>omega)|decide)) only [go_sem, ↓reduceIte, hE, ci, c]))
   ·simp; intro h; exact c (by rw [h])
   ·intro j hj
    by_cases ej : j = i
    ·subst ej; exact c
    ·exact hall j (by omega)
  ·refine zY (aN hE ci) ?_
   exact (decide_eq_true (z_ext c fun j hj => hall j (by omega))).symm
structure StGood (mo : Mo) (x : StD) (st : Stt) : Prop where
 f : StF x st
 e : St8 st
 fit : Fit mo st
variable {m : MdX} {mo : Mo} {ps : List (Pr × PrD)} {x : StD} {st : Stt}
end Go.Proofs.Ytlaeblilmppodaa
namespace Go.V
variable {fs : FuncId -> Option VFunc}
theorem rp_frz {s : Store} {d : D} {sz : Nat} {rows : List (List D)} {E W R : Hs} (h : Rp d sz rows E) (hp : Hp s W R) (he : ∀ e ∈ E, e ∈ W) (hr : ∀ r ∈ rows, r.length = sz) (hs : ∀ r ∈ rows, r.all scal1 = true) : ∃ d', ice s.get 20 d = some d' /\ FL sz d' rows :=
 (h.sn fun e hm => hp.w e (he e hm)).frz1 (n := 18) hr hs
theorem Hp.hd {s : Store} {id : Nat} {cs : List D} {W R : Hs} (h : Hp s ((id, cs) :: W) R) : s.get id = some (.cells cs) := h.w (id, cs) (by simp)
def cellsZ (l : List Int) : List D := l.map fun n => .int .i64 n
def rowsZ (l : List Int) : List (List D) := l.map fun n => [.int .i64 n]
@[simp] theorem cellsZ_length (l : List Int) : (cellsZ l).length = l.length := by simp [cellsZ]
@[simp] theorem rowsZ_length (l : List Int) : (rowsZ l).length = l.length := by simp [rowsZ]
theorem rowsZ_flat (l : List Int) : (rowsZ l).flatten = cellsZ l := by induction l with
 | nil => rfl
 | cons a l ih => simp only [rowsZ, cellsZ, List.map_cons, List.flatten_cons, List.singleton_append] at *; rw [ih]
theorem rowsN_flat (l : List Nat) : (rowsN l).flatten = cellsI l := by induction l with
 | nil => rfl
 | cons a l ih => simp only [rowsN, cellsI, List.map_cons, List.flatten_cons, List.singleton_append] at *; rw [ih]
theorem rowsZ_len (l : List Int) : ∀ r ∈ rowsZ l, r.length = 1 := by intro r h; obtain ⟨b, _, rfl⟩ := List.mem_map.1 h; rfl
theorem rowsZ_scal (l : List Int) : ∀ r ∈ rowsZ l, r.all scal1 = true := by intro r h; obtain ⟨b, _, rfl⟩ := List.mem_map.1 h; rfl
theorem fl_row {d : D} {rows : List (List D)} (h : FL 1 d rows) {g : Look} : rowOf g d = some rows.flatten /\ srcLen d = some rows.length /\ srcSz 1 d = true := by
 rcases h with ⟨rfl, rfl⟩ | rfl <;> exact ⟨rfl, rfl, rfl⟩
theorem Hp.ltW {s : Store} {W R : Hs} (h : Hp s W R) {w : Nat × List D} (hw : w ∈ W) : w.1 < s.next := get_lts (h.w w hw)
theorem Hp.ltR {s : Store} {W R : Hs} (h : Hp s W R) {w : Nat × List D} (hw : w ∈ R) : w.1 < s.next := get_lts (h.r w hw)
theorem Rp.exp {s : Store} {d : D} {sz bytes idt : Nat} {rows : List (List D)} {row : List D} {E : Hs} (h : Rp d sz rows E) (he : Has s E) (ht : s.get idt = some (.cells row)) (hr : row.length = sz) (hrs : ∀ r ∈ rows, r.length = sz) (hb : bytes <= 1000) (hl : rows.length <= 1000000000) :
 ∃ s', appendV sz bytes d (.arr idt 0 1 sz) s = some (.arr s.next 0 (rows.length + 1) sz, s') /\ s'.next = s.next + 1 /\ s'.get s.next = some (.cells (rows.flatten ++ row)) /\ ∀ id, id ≠ s.next -> (∀ e ∈ E, e.1 ≠ id) -> s'.get id = s.get id := by
 have b3 : bytes <= 2 ^ 20 := Nat.le_trans hb (by decide)
 have r1 : rowOf s.get (.arr idt 0 1 sz) = some row := by
  simp only [rowOf, ht, Nat.zero_add, Nat.one_mul, List.drop_zero]
  rw [if_pos (by omega), List.take_of_length_le (by omega)]
 have r2 : srcLen (.arr idt 0 1 sz) = some 1 := rfl
 have r3 : srcSz sz (.arr idt 0 1 sz) = true := by simp [srcSz]
 rcases h with ⟨rfl, rfl, rfl⟩ | ⟨id, rfl, rfl, hne⟩
 ·refine ⟨s.push (.cells row), ?_, by simp, by rw [get_push_new rfl]; simp, fun j hj _ => by rw [Store.get_push, if_neg hj]⟩
  unfold appendV
  simp only [r1, r2, r3, b3, decide_true, Bool.and_self, if_true]
  rw [if_neg (by omega), if_pos ⟨by omega, by omega⟩]
  rfl
 ·have hf := flat_len hrs
  have hg : s.get id = some (.cells rows.flatten) := he (id, rows.flatten) (by simp)
  have b1 : (rows.length + 1) * bytes <= 2 ^ 45 := Nat.le_trans (Nat.mul_le_mul (show rows.length + 1 <= 1000000001 by omega) hb) (by decide)
  have b2 : rows.length + 1 <= 2 ^ 45 := by omega
  refine ⟨(s.set id none).push (.cells (rows.flatten ++ row)), ?_, by simp, get_push_new (by simp), fun j hj hn => ?_⟩
  ·unfold appendV
   simp only [r1, r2, r3, b3, decide_true, Bool.and_self, if_true, hg, Nat.zero_add, hf, and_self, List.drop_zero]
   rw [if_neg (by omega), if_pos ⟨b1, b2⟩]
  ·have : id ≠ j := hn (id, rows.flatten) (by simp)
   rw [Store.get_push, if_neg (by simpa using hj), get_set_ne this.symm]
theorem Rp.app2 {s : Store} {d : D} {sz bytes : Nat} {rows : List (List D)} {row : List D} {A B E R : Hs} (h : Rp d sz rows E) (hp : Hp s (A ++ E ++ B) R) (hr : row.length = sz) (hrs : ∀ r ∈ rows, r.length = sz) (hb : bytes <= 1000) (hl : rows.length <= 1000000000) :
 ∃ s', appendV sz bytes d (.arr s.next 0 1 sz) (s.push (.cells row)) = some (.arr (s.next + 1) 0 (rows.length + 1) sz, s') /\ Rp (.arr (s.next + 1) 0 (rows.length + 1) sz) sz (rows ++ [row]) [(s.next + 1, (rows ++ [row]).flatten)] /\ Hp s' (A ++ (s.next + 1, (rows ++ [row]).flatten) :: B) R /\ s'.next = s.next + 2 /\ (∀ j, j < s.next -> (∀ e ∈ E, e.1 ≠ j) -> s'.get j = s.get j) /\ ∀ j, j ∉ (s.next + 1) :: E.map Prod.fst -> (s.push (.cells row)).get j = s'.get j := by
 have hp1 := hp.push (.cells row)
 have heE : Has (s.push (.cells row)) E := fun x hx => hp1.w x (by simp [hx])
 obtain ⟨s', h1, h2, h3, h4⟩ := h.exp heE (get_push_new rfl) hr hrs hb hl
 rw [Store.next_push] at h1 h2 h3 h4
 refine ⟨s', h1, .inr ⟨s.next + 1, by simp, by simp, by simp⟩, ?_, h2, fun j hj hn => ?_, fun j hj => ?_⟩
 ·have hn := hp1.nd
  have hE : ∀ w ∈ A ++ B, ∀ e ∈ E, e.1 ≠ w.1 := by
   intro w hw e hee hc
   rw [List.append_assoc, List.map_append, List.map_append, List.nodup_append, List.nodup_append] at hn
   obtain ⟨_, ⟨_, _, n2⟩, n3⟩ := hn
   rcases List.mem_append.1 hw with hw | hw
   ·exact n3 w.1 (List.mem_map_of_mem hw) e.1 (List.mem_append_left _ (List.mem_map_of_mem hee)) hc.symm
   ·exact n2 e.1 (List.mem_map_of_mem hee) w.1 (List.mem_map_of_mem hw) hc
  have hsub : Hp (s.push (.cells row)) (A ++ B) R := hp1.sub (by
   rw [List.append_assoc]
   exact List.Sublist.append (List.Sublist.refl _) (List.sublist_append_right _ _)) fun x h => h
  have key : ∀ w ∈ A ++ B, s'.get w.1 = some (.cells w.2) := fun w hw => by
   have hl := hp.ltW (w := w) (by rcases List.mem_append.1 hw with h | h <;> simp [h])
   rw [h4 w.1 (by omega) (hE w hw)]
   exact hsub.w w hw
  refine Hp.perm (W := (s.next + 1, (rows ++ [row]).flatten) :: (A ++ B)) ⟨?_, ?_, ?_, ?_⟩ List.perm_middle
  ·rw [List.map_cons, List.nodup_cons]
   refine ⟨fun hm => ?_, hsub.nd⟩
   obtain ⟨w, hw, e⟩ := List.mem_map.1 hm
   have := hp.ltW (w := w) (by rcases List.mem_append.1 hw with h | h <;> simp [h])
   simp only at e; omega
  ·intro w hw r hrr
   rcases List.mem_cons.1 hw with rfl | hw
   ·have := hp.ltR hrr
    simp only; omega
   ·exact hsub.ap w hw r hrr
  ·intro w hw
   rcases List.mem_cons.1 hw with rfl | hw
   ·rw [h3]; simp
   ·exact key w hw
  ·intro r hrr
   have hl := hp.ltR hrr
   rw [h4 r.1 (by omega) fun e hee => hp.ap e (by simp [hee]) r hrr]
   exact hsub.r r hrr
 ·rw [h4 j (by omega) hn, get_push_old hj]
 ·simp only [List.mem_cons, not_or, List.mem_map, not_exists, not_and] at hj
  exact (h4 j hj.1 fun e he hc => hj.2 e he hc).symm
theorem mx_app {pairs T i t rest env K s d sz bytes rows row A B E R} (h : Rp d sz rows E) (hp : Hp s (A ++ E ++ B) R) (hr : row.length = sz) (hrs : ∀ r ∈ rows, r.length = sz) (hb : bytes <= 1000) (hl : rows.length <= 1000000000) (he : EfOk pairs i ((s.next + 1) :: E.map Prod.fst) T)
 (k : ∀ s', Rp (.arr (s.next + 1) 0 (rows.length + 1) sz) sz (rows ++ [row]) [(s.next + 1, (rows ++ [row]).flatten)] -> Hp s' (A ++ (s.next + 1, (rows ++ [row]).flatten) :: B) R -> s'.next = s.next + 2 -> (∀ j, j < s.next -> (∀ e ∈ E, e.1 ≠ j) -> s'.get j = s.get j) -> XX fs pairs (⟨i, none, (s.next + 1) :: E.map Prod.fst⟩ :: T) rest ((t, .arr (s.next + 1) 0 (rows.length + 1) sz) :: env) s' K) : MX d (.arr s.next 0 1 sz) sz bytes i fs pairs T t rest env (s.push (.cells row)) K := by
 obtain ⟨s', h1, h2, h3, h4, h5, h6⟩ := h.app2 hp hr hrs hb hl
 exact ⟨_, s', (s.next + 1) :: E.map Prod.fst, h1, by rw [h4, Store.next_push]; omega, h6, he, k s' h2 h3 h4 h5⟩
theorem bm_app2 {t rest env K s d sz bytes rows row A B E R} (h : Rp d sz rows E) (hp : Hp s (A ++ E ++ B) R) (hr : row.length = sz) (hrs : ∀ r ∈ rows, r.length = sz) (hb : bytes <= 1000) (hl : rows.length <= 1000000000)
 (k : ∀ s', Rp (.arr (s.next + 1) 0 (rows.length + 1) sz) sz (rows ++ [row]) [(s.next + 1, (rows ++ [row]).flatten)] -> Hp s' (A ++ (s.next + 1, (rows ++ [row]).flatten) :: B) R -> s'.next = s.next + 2 -> (∀ j, j < s.next -> (∀ e ∈ E, e.1 ≠ j) -> s'.get j = s.get j) -> XQ fs [] rest ((t, .arr (s.next + 1) 0 (rows.length + 1) sz) :: env) s' K) : BM (appendV sz bytes d (.arr s.next 0 1 sz) (s.push (.cells row))) fs t rest env K := by
 obtain ⟨s', h1, h2, h3, h4, h5, _⟩ := h.app2 hp hr hrs hb hl
 rw [h1]
 exact k s' h2 h3 h4 h5
end Go.V
namespace Go.Proofs.Ytlaeblilmppodaa
open Go.V
set_option maxRecDepth 100000
set_option maxHeartbeats 4000000
variable {m : MdX} {mo : Mo} {ps : List (Pr × PrD)} {x : StD} {st : Stt}
end Go.Proofs.Ytlaeblilmppodaa
namespace Go.V
def Mo.actS (mo : Mo) (st : Stt) (e : Ed) (n : Int) : Stt :=
 if e.act = 1 then { st with vars := st.vars.set e.var.toNat (trimZ n (vAt mo.vars e.var.toNat).width.toNat) }
 else if e.act = 2 then { st with chans := st.chans.set e.chan.toNat (cAt st.chans e.chan.toNat ++ [trimZ n (chAt mo.chans e.chan.toNat).width.toNat]) }
 else if e.act = 3 then { st with vars := st.vars.set e.var.toNat (trimZ (zAt (cAt st.chans e.chan.toNat) 0) (vAt mo.vars e.var.toNat).width.toNat), chans := st.chans.set e.chan.toNat ((cAt st.chans e.chan.toNat).drop 1) }
 else st
def Stt.go (st : Stt) (i to : Nat) : Stt := { st with at' := st.at'.set i to }
def ChR (s : Store) (q : D) (l : List Int) : Prop := (q = .nils /\ l = []) ∨ q = .lst 1 (rowsZ l) ∨ ∃ id off cs, q = .arr id off l.length 1 /\ s.get id = some (.cells cs) /\ off + l.length <= cs.length /\ (cs.drop off).take l.length = cellsZ l
theorem cellsZ_scal (l : List Int) : (cellsZ l).all scal1 = true := by simp [cellsZ, scal1]
theorem ChR.one {s : Store} {q : D} {l : List Int} (h : ChR s q l) : oneCell q = true := by
 rcases h with ⟨rfl, _⟩ | rfl | ⟨id, off, cs, rfl, _⟩ <;> rfl
theorem ChR.frz {s : Store} {q : D} {l : List Int} (h : ChR s q l) (n : Nat) : ∃ q', ice s.get (n + 2) q = some q' /\ FI q' l := by
 rcases h with ⟨rfl, rfl⟩ | rfl | ⟨id, off, cs, rfl, h1, h2, h3⟩
 ·exact ⟨_, rfl, .inl ⟨rfl, rfl⟩⟩
 ·exact ⟨_, rfl, .inr rfl⟩
 ·refine ⟨.lst 1 (rowsZ l), ?_, .inr rfl⟩
  have e1 : rowOf s.get (.arr id off l.length 1) = some (cellsZ l) := by
   simp only [rowOf, h1, Nat.mul_one, h3]
   rw [if_pos h2]
  have e2 : mapO (ice s.get (n + 1)) (cellsZ l) = some (cellsZ l) := mapO_ice (cellsZ_scal l)
  simp only [ice, e1, e2, Option.map_some]
  have e3 := chunk_one (cellsZ l)
  rw [cellsZ_length] at e3
  rw [e3]
  simp [cellsZ, rowsZ]
def dAt (l : List D) (i : Nat) : D := l.getD i .undef
theorem dAt_get {l : List D} {i : Nat} (h : i < l.length) : dAt l i = l[i] := by simp [dAt, List.getD, h]
def SttR (s : Store) (cs : List D) (st : Stt) : Prop := ∃ dA dV dC qs, cs = [dA, dV, dC, .int .i64 st.hold] /\ SN s 1 dA (rowsN st.at') /\ SN s 1 dV (rowsZ st.vars) /\ SN s 1 dC (qs.map fun q => [q]) /\ (qs = [] ∨ ∃ id, dC = .arr id 0 qs.length 1) /\ qs.length = st.chans.length /\ ∀ j (h : j < qs.length) (h' : j < st.chans.length), ChR s qs[j] st.chans[j]
theorem SttR.mk {s : Store} {dA dV dC : D} {st : Stt} (qs : List D) (hA : SN s 1 dA (rowsN st.at')) (hV : SN s 1 dV (rowsZ st.vars)) (hC : SN s 1 dC (qs.map fun q => [q])) (hn : qs = [] ∨ ∃ id, dC = .arr id 0 qs.length 1) (hl : qs.length = st.chans.length) (hq : ∀ j, j < qs.length -> ChR s (dAt qs j) (cAt st.chans j)) : SttR s [dA, dV, dC, .int .i64 st.hold] st :=
 ⟨dA, dV, dC, qs, rfl, hA, hV, hC, hn, hl, fun j h h' => by
  have := hq j h
  rwa [dAt_get h, cAt_get h'] at this⟩
theorem frz_all {s : Store} (n : Nat) : ∀ {qs : List D} {l : List (List Int)}, qs.length = l.length -> (∀ j (h : j < qs.length) (h' : j < l.length), ChR s qs[j] l[j]) -> ∃ ds : List D, mapL (ice s.get (n + 2)) (qs.map fun q => [q]) = some (ds.map fun d => [d]) /\ ds.length = l.length /\ ∀ i (h : i < ds.length) (h' : i < l.length), FI ds[i] l[i]
 | [], [], _, _ => ⟨[], rfl, rfl, fun i h => by simp at h⟩
 | [], _ :: _, h, _ => by simp at h
 | _ :: _, [], h, _ => by simp at h
 | q :: qs, a :: l, h, hr => by
   obtain ⟨ds, h1, h2, h3⟩ := frz_all n (qs := qs) (l := l) (by simpa using h) fun j hj hj' => hr (j + 1) (by simp; omega) (by simp; omega)
   obtain ⟨d, h4, h5⟩ := (hr 0 (by simp) (by simp)).frz n
   refine ⟨d :: ds, ?_, by simp [h2], fun i hi hi' => ?_⟩
   ·have h4 : ice s.get (n + 2) q = some d := h4
    simp only [List.map_cons, mapL, mapO, h4, h1]
   ·cases i with
    | zero => exact h5
    | succ i => exact h3 i (by simpa using hi) (by simpa using hi')
theorem SttR.frz {s : Store} {cs : List D} {st : Stt} (h : SttR s cs st) : ∃ x, ice s.get 20 (.agg cs) = some (.agg [x.da, x.dv, x.dc, .int .i64 st.hold]) /\ StF x st := by
 obtain ⟨dA, dV, dC, qs, rfl, hA, hV, hC, hn, hl, hq⟩ := h
 obtain ⟨da, a1, b1⟩ := hA.frz1 (n := 17) (rowsN_len _) (rowsN_scal _)
 obtain ⟨dv, a2, b2⟩ := hV.frz1 (n := 17) (rowsZ_len _) (rowsZ_scal _)
 obtain ⟨ds, h1, h2, h3⟩ := frz_all 16 hl hq
 obtain ⟨dc, a3, b3⟩ := hC.frz (n := 18) (fun r hr => by obtain ⟨x, _, rfl⟩ := List.mem_map.1 hr; rfl) h1 (fun e => by
  rcases hn with rfl | ⟨id, hid⟩
  ·have : ds = [] := List.length_eq_zero_iff.1 (by rw [h2, <- hl]; rfl)
   rw [this]
  ·rw [hid] at e; cases e)
 refine ⟨⟨da, dv, dc⟩, ?_, ⟨b1, b2, ds, b3, h2, h3⟩⟩
 have e1 : ice s.get 19 (.int .i64 st.hold) = some (.int .i64 st.hold) := rfl
 simp only [ice, mapO, a1, a2, a3, e1, Option.map_some]
def qcs (ids : List Nat) (l : List (List Int)) : List D := List.zipWith (fun id q => .arr id 0 q.length 1) ids l
theorem flat_one {l : List D} : (l.map fun q => [q]).flatten = l := by induction l with
 | nil => rfl
 | cons a l ih => simp [ih]
theorem qcs_len {ids : List Nat} {l : List (List Int)} (h : ids.length = l.length) : (qcs ids l).length = l.length := by simp [qcs, h]
theorem qcs_at : ∀ {ids : List Nat} {l : List (List Int)} {j : Nat}, ids.length = l.length -> j < l.length -> (qcs ids l)[j]? = some (.arr (nAt ids j) 0 (cAt l j).length 1)
 | [], [], j, _, h => by simp at h
 | [], _ :: _, j, h, _ => by simp at h
 | _ :: _, [], j, h, _ => by simp at h
 | i :: ids, a :: l, 0, h, _ => by simp [qcs, nAt, cAt]
 | i :: ids, a :: l, j + 1, h, hj => by
   have := qcs_at (ids := ids) (l := l) (j := j) (by simpa using h) (by simpa using hj)
   simpa [qcs, nAt, cAt] using this
theorem qcs_d {ids : List Nat} {l : List (List Int)} {j : Nat} (h : ids.length = l.length) (hj : j < l.length) : dAt (qcs ids l) j = .arr (nAt ids j) 0 (cAt l j).length 1 := by
 have := qcs_at h hj
 simp [dAt, List.getD, this]
structure OutO (s : Store) (n : Nat) (a v : Nat) (dC : D) (ids : List Nat) (st : Stt) : Prop where
 len : ids.length = st.chans.length
 ga : s.get a = some (.cells (cellsI st.at'))
 gv : s.get v = some (.cells (cellsZ st.vars))
 gc : (st.chans = [] /\ dC = .nils) ∨ ∃ c, dC = .arr c 0 st.chans.length 1 /\ s.get c = some (.cells (qcs ids st.chans)) /\ n <= c /\ c ≠ a /\ c ≠ v /\ ∀ j, j < st.chans.length -> nAt ids j ≠ c
 gq : ∀ j, j < st.chans.length -> s.get (nAt ids j) = some (.cells (cellsZ (cAt st.chans j))) /\ n <= nAt ids j /\ nAt ids j ≠ a /\ nAt ids j ≠ v
 inj : ∀ i j, i < st.chans.length -> j < st.chans.length -> nAt ids i = nAt ids j -> i = j
 av : a ≠ v
 na : n <= a
 nv : n <= v
theorem le_succ {a b : Nat} : (a + 1 <= b) = (a < b) := by apply propext; omega
attribute [go_sem] qcs_len qcs_at cellsI_length cellsZ_length le_succ
structure MoFi (mo : Mo) : Prop where
 ch : ∀ c ∈ mo.chans, 1 <= c.room /\ c.room <= 3 /\ 1 <= c.width /\ c.width <= 8
 vr : ∀ v ∈ mo.vars, 1 <= v.width /\ v.width <= 8 /\ trimZ v.value v.width.toNat = v.value
theorem dAt_set {l : List D} {k j : Nat} {d : D} (hk : k < l.length) : dAt (l.set k d) j = if j = k then d else dAt l j := by
 unfold dAt
 simp only [List.getD, List.getElem?_set]
 split
 ·rename_i h; subst h; simp [hk]
 ·rename_i h; rw [if_neg (Ne.symm h)]
theorem cAt_set {l : List (List Int)} {k j : Nat} {d : List Int} (hk : k < l.length) : cAt (l.set k d) j = if j = k then d else cAt l j := by
 unfold cAt
 simp only [List.getD, List.getElem?_set]
 split
 ·rename_i h; subst h; simp [hk]
 ·rename_i h; rw [if_neg (Ne.symm h)]
theorem chr_full {s : Store} {id : Nat} {l : List Int} (h : s.get id = some (.cells (cellsZ l))) : ChR s (.arr id 0 l.length 1) l :=
 .inr (.inr ⟨id, 0, _, rfl, h, by simp, by rw [List.drop_zero, <- cellsZ_length l, List.take_length]⟩)
theorem OutO.chan {s S : Store} {n a v c : Nat} {ids : List Nat} {st : Stt} (h : OutO s n a v (.arr c 0 st.chans.length 1) ids st) {k : Nat} (hk : k < st.chans.length) {A : List Nat} {V : List Int} {l : List Int} {d : D} {hd : Int} (hA : A.length = st.at'.length) (hV : V.length = st.vars.length)
 (ga : S.get a = some (.cells (cellsI A))) (gv : S.get v = some (.cells (cellsZ V))) (gc : S.get c = some (.cells ((qcs ids st.chans).set k d))) (hr : ChR S d l) (hq : ∀ j, j < st.chans.length -> j ≠ k -> S.get (nAt ids j) = s.get (nAt ids j)) :
 SttR S [.arr a 0 st.at'.length 1, .arr v 0 st.vars.length 1, .arr c 0 st.chans.length 1, .int .i64 hd] ⟨A, V, st.chans.set k l, hd⟩ := by
 refine SttR.mk (st := ⟨A, V, st.chans.set k l, hd⟩) ((qcs ids st.chans).set k d) (.inr (.inl ⟨a, by simp [hA], by rw [rowsN_flat]; exact ga⟩)) (.inr (.inl ⟨v, by simp [hV], by rw [rowsZ_flat]; exact gv⟩)) (.inr (.inl ⟨c, by simp [qcs_len h.len], by rw [flat_one]; exact gc⟩)) (.inr ⟨c, by simp [qcs_len h.len]⟩) (by simp [qcs_len h.len]) fun j hj => ?_
 rw [List.length_set, qcs_len h.len] at hj
 rw [dAt_set (by rw [qcs_len h.len]; exact hk), cAt_set hk]
 split
 ·exact hr
 ·rename_i hjk
  rw [qcs_d h.len hj]
  exact chr_full (by rw [hq j hj hjk]; exact (h.gq j hj).1)
theorem OutO.same {s S : Store} {n a v : Nat} {dC : D} {ids : List Nat} {st : Stt} (h : OutO s n a v dC ids st) {A : List Nat} {V : List Int} {hd : Int} (hA : A.length = st.at'.length) (hV : V.length = st.vars.length)
 (ga : S.get a = some (.cells (cellsI A))) (gv : S.get v = some (.cells (cellsZ V))) (hq : ∀ j, n <= j -> j < s.next -> j ≠ a -> j ≠ v -> S.get j = s.get j) :
 SttR S [.arr a 0 st.at'.length 1, .arr v 0 st.vars.length 1, dC, .int .i64 hd] ⟨A, V, st.chans, hd⟩ := by
 refine SttR.mk (st := ⟨A, V, st.chans, hd⟩) (qcs ids st.chans) (.inr (.inl ⟨a, by simp [hA], by rw [rowsN_flat]; exact ga⟩)) (.inr (.inl ⟨v, by simp [hV], by rw [rowsZ_flat]; exact gv⟩)) ?_ ?_ (qcs_len h.len) fun j hj => ?_
 ·rcases h.gc with ⟨e, rfl⟩ | ⟨c, rfl, g, nc, ca, cv, _⟩
  ·refine .inl ⟨rfl, ?_⟩
   rw [e]; simp [qcs]
  ·refine .inr (.inl ⟨c, by simp [qcs_len h.len], ?_⟩)
   rw [flat_one, hq c nc (get_lts g) ca cv]; exact g
 ·rcases h.gc with ⟨e, rfl⟩ | ⟨c, rfl, g, nc, ca, cv, _⟩
  ·left; rw [e]; simp [qcs]
  ·exact .inr ⟨c, by simp [qcs_len h.len]⟩
 ·rw [qcs_len h.len] at hj
  obtain ⟨g, n1, n2, n3⟩ := h.gq j hj
  rw [qcs_d h.len hj]
  exact chr_full (by rw [hq _ n1 (get_lts g) n2 n3]; exact g)
variable {fs : FuncId -> Option VFunc}
end Go.V
namespace Go.Proofs.Ytlaeblilmppodaa
open Go.V
set_option maxRecDepth 100000
set_option maxHeartbeats 4000000
variable {m : MdX} {mo : Mo} {ps : List (Pr × PrD)} {x : StD} {st : Stt}
end Go.Proofs.Ytlaeblilmppodaa
namespace Go.V
theorem trim_idem {n : Int} {w : Nat} (h1 : 1 <= w) : trimZ (trimZ n w) w = trimZ n w := by
 have := trimZ_lo (n := n) (w := w) (by omega)
 exact trimZ_id (by omega) this.1 this.2
theorem trim_small {n : Int} {w : Nat} (h1 : 1 <= w) (h2 : w <= 8) : I8 (trimZ n w) := by
 have h := trimZ_lo (n := n) (w := w) (by omega)
 have hc : w = 1 ∨ w = 2 ∨ w = 3 ∨ w = 4 ∨ w = 5 ∨ w = 6 ∨ w = 7 ∨ w = 8 := by omega
 unfold I8
 rcases hc with rfl | rfl | rfl | rfl | rfl | rfl | rfl | rfl <;> simp at h <;> omega
theorem nAt_set {l : List Nat} {k j : Nat} {d : Nat} (hk : k < l.length) : nAt (l.set k d) j = if j = k then d else nAt l j := by
 unfold nAt
 simp only [List.getD, List.getElem?_set]
 split
 ·rename_i h; subst h; simp [hk]
 ·rename_i h; rw [if_neg (Ne.symm h)]
theorem zAt_set {l : List Int} {k j : Nat} {d : Int} (hk : k < l.length) : zAt (l.set k d) j = if j = k then d else zAt l j := by
 unfold zAt
 simp only [List.getD, List.getElem?_set]
 split
 ·rename_i h; subst h; simp [hk]
 ·rename_i h; rw [if_neg (Ne.symm h)]
structure FitA (mo : Mo) (st : Stt) : Prop where
 at' : st.at'.length = mo.procs.length
 vars : st.vars.length = mo.vars.length
 chans : st.chans.length = mo.chans.length
 pl : ∀ i, i < mo.procs.length -> nAt st.at' i < (pAt mo.procs i).places
 vr : ∀ i, i < mo.vars.length -> trimZ (zAt st.vars i) (vAt mo.vars i).width.toNat = zAt st.vars i
 cl : ∀ i, i < mo.chans.length -> ((cAt st.chans i).length : Int) <= (chAt mo.chans i).room
 cv : ∀ i, i < mo.chans.length -> ∀ n ∈ cAt st.chans i, trimZ n (chAt mo.chans i).width.toNat = n
 hold : -1 <= st.hold /\ st.hold < (mo.procs.length : Int)
theorem fitA_iff {mo : Mo} {st : Stt} : FitA mo st ↔ Fit mo st := by
 constructor
 ·rintro ⟨h1, h2, h3, h4, h5, h6, h7, h8⟩
  refine ⟨h1, h2, h3, fun i h h' => ?_, fun i h h' => ?_, fun i h h' => ?_, fun i h h' => ?_, h8⟩
  ·have := h4 i h'; rwa [nAt_get h, pAt_get h'] at this
  ·have := h5 i h'; rwa [zAt_get h, vAt_get h'] at this
  ·have := h6 i h'; rwa [cAt_get h, chAt_get h'] at this
  ·have := h7 i h'; rwa [cAt_get h, chAt_get h'] at this
 ·rintro ⟨h1, h2, h3, h4, h5, h6, h7, h8⟩
  refine ⟨h1, h2, h3, fun i h' => ?_, fun i h' => ?_, fun i h' => ?_, fun i h' => ?_, h8⟩
  ·have h : i < st.at'.length := by omega
   rw [nAt_get h, pAt_get h']; exact h4 i h h'
  ·have h : i < st.vars.length := by omega
   rw [zAt_get h, vAt_get h']; exact h5 i h h'
  ·have h : i < st.chans.length := by omega
   rw [cAt_get h, chAt_get h']; exact h6 i h h'
  ·have h : i < st.chans.length := by omega
   rw [cAt_get h, chAt_get h']; exact h7 i h h'
theorem fit_8 {mo : Mo} (hf : MoFi mo) {st : Stt} (h : Fit mo st) : St8 st := by
 have h := fitA_iff.2 h
 refine ⟨fun n hn => ?_, fun l hl => ?_⟩
 ·obtain ⟨i, hi, rfl⟩ := List.getElem_of_mem hn
  have hi' : i < mo.vars.length := by rw [<- h.vars]; exact hi
  have := h.vr i hi'
  rw [zAt_get hi] at this
  rw [<- this]
  have := hf.vr _ (vAt_mem hi')
  exact trim_small (by omega) (by omega)
 ·obtain ⟨i, hi, rfl⟩ := List.getElem_of_mem hl
  have hi' : i < mo.chans.length := by rw [<- h.chans]; exact hi
  have h1 := h.cl i hi'
  have h2 := h.cv i hi'
  rw [cAt_get hi] at h1 h2
  have h3 := hf.ch _ (chAt_mem hi')
  refine ⟨by omega, fun n hn => ?_⟩
  rw [<- h2 n hn]
  exact trim_small (by omega) (by omega)
theorem FitA.var {mo : Mo} (hf : MoFi mo) {st : Stt} (h : FitA mo st) {k : Nat} (hk : k < mo.vars.length) (n : Int) : FitA mo { st with vars := st.vars.set k (trimZ n (vAt mo.vars k).width.toNat) } := by
 refine ⟨h.at', by simp [h.vars], h.chans, h.pl, fun i hi => ?_, h.cl, h.cv, h.hold⟩
 rw [zAt_set (by rw [h.vars]; exact hk)]
 split
 ·rename_i e; subst e
  have := hf.vr _ (vAt_mem hk)
  exact trim_idem (by omega)
 ·exact h.vr i hi
theorem FitA.chan {mo : Mo} {st : Stt} (h : FitA mo st) {k : Nat} (hk : k < mo.chans.length) {l : List Int} (hl : (l.length : Int) <= (chAt mo.chans k).room) (hv : ∀ n ∈ l, trimZ n (chAt mo.chans k).width.toNat = n) : FitA mo { st with chans := st.chans.set k l } := by
 refine ⟨h.at', h.vars, by simp [h.chans], h.pl, h.vr, fun i hi => ?_, fun i hi => ?_, h.hold⟩
 ·simp only [cAt_set (by rw [h.chans]; exact hk)]
  split
  ·rename_i e; subst e; exact hl
  ·exact h.cl i hi
 ·simp only [cAt_set (by rw [h.chans]; exact hk)]
  split
  ·rename_i e; subst e; exact hv
  ·exact h.cv i hi
theorem FitA.go {mo : Mo} {st : Stt} (h : FitA mo st) {p to : Nat} (hp : p < mo.procs.length) (ht : to < (pAt mo.procs p).places) : FitA mo (st.go p to) := by
 refine ⟨by simp [Stt.go, h.at'], h.vars, h.chans, fun i hi => ?_, h.vr, h.cl, h.cv, h.hold⟩
 simp only [Stt.go, nAt_set (by rw [h.at']; exact hp)]
 split
 ·rename_i e; subst e; exact ht
 ·exact h.pl i hi
theorem FitA.hd {mo : Mo} {st : Stt} (h : FitA mo st) {z : Int} (hz : -1 <= z /\ z < (mo.procs.length : Int)) : FitA mo { st with hold := z } := ⟨h.at', h.vars, h.chans, h.pl, h.vr, h.cl, h.cv, hz⟩
theorem FitA.act {mo : Mo} (hf : MoFi mo) {st : Stt} (h : FitA mo st) {pl : Nat} {vs : List Nat} {e : Ed} (he : EdOk mo.tree mo.chans.length pl vs e) (hv : ∀ v ∈ vs, v < mo.vars.length) (h2 : e.act = 2 -> ((cAt st.chans e.chan.toNat).length : Int) < (chAt mo.chans e.chan.toNat).room) (n : Int) : FitA mo (mo.actS st e n) := by
 unfold Mo.actS
 split
 ·rename_i h1
  obtain ⟨k, hk, e1⟩ := he.v1 (.inl h1)
  rw [e1, Int.toNat_natCast]
  exact h.var hf (hv k hk) n
 split
 ·rename_i _ h1
  obtain ⟨k, e1, hk⟩ := he.c1 (.inl h1)
  have h2 := h2 h1
  rw [e1, Int.toNat_natCast] at *
  refine h.chan hk (by simp; omega) fun z hz => ?_
  rcases List.mem_append.1 hz with hz | hz
  ·exact h.cv k hk z hz
  ·simp only [List.mem_singleton] at hz
   subst hz
   have := hf.ch _ (chAt_mem hk)
   exact trim_idem (by omega)
 split
 ·rename_i _ _ h1
  obtain ⟨k, hk, e1⟩ := he.v1 (.inr h1)
  obtain ⟨q, e2, hq⟩ := he.c1 (.inr h1)
  rw [e1, e2, Int.toNat_natCast, Int.toNat_natCast]
  have h3 := h.var hf (hv k hk) (zAt (cAt st.chans q) 0)
  refine h3.chan hq ?_ fun z hz => ?_
  ·have := h.cl q hq
   rw [List.length_drop]; omega
  ·exact h.cv q hq z (List.mem_of_mem_drop hz)
 ·exact h
def Mo.vals (mo : Mo) : List Int := mo.vars.map Vr.value
theorem Hp.addW {s : Store} {W R : Hs} (h : Hp s W R) {id : Nat} {cs : List D} (hg : s.get id = some (.cells cs)) (h1 : ∀ w ∈ W, w.1 ≠ id) (h2 : ∀ r ∈ R, r.1 ≠ id) : Hp s ((id, cs) :: W) R := by
 refine ⟨?_, ?_, ?_, h.r⟩
 ·rw [List.map_cons, List.nodup_cons]
  refine ⟨fun hm => ?_, h.nd⟩
  obtain ⟨w, hw, e⟩ := List.mem_map.1 hm
  exact h1 w hw e
 ·intro w hw r hr
  rcases List.mem_cons.1 hw with rfl | hw
  ·exact (h2 r hr).symm
  ·exact h.ap w hw r hr
 ·intro w hw
  rcases List.mem_cons.1 hw with rfl | hw
  ·exact hg
  ·exact h.w w hw
theorem Hp.addR1 {s : Store} {W R : Hs} (h : Hp s W R) {id : Nat} {cs : List D} (hg : s.get id = some (.cells cs)) (h1 : ∀ w ∈ W, w.1 ≠ id) : Hp s W ((id, cs) :: R) := by
 refine ⟨h.nd, ?_, h.w, ?_⟩
 ·intro w hw r hr
  rcases List.mem_cons.1 hr with rfl | hr
  ·exact h1 w hw
  ·exact h.ap w hw r hr
 ·intro r hr
  rcases List.mem_cons.1 hr with rfl | hr
  ·exact hg
  ·exact h.r r hr
theorem Hp.ne {s : Store} {A B C R : Hs} {a b : Nat × List D} (h : Hp s (A ++ a :: (B ++ b :: C)) R) : a.1 ≠ b.1 := by
 have := h.nd
 rw [List.map_append, List.map_cons, List.map_append, List.map_cons, List.nodup_append, List.nodup_cons] at this
 exact fun e => this.2.1.1 (by simp [e])
theorem Rp.chr {s : Store} {q : D} {l : List Int} {E : Hs} (h : Rp q 1 (rowsZ l) E) (he : Has s E) : ChR s q l := by
 rcases h with ⟨rfl, h2, _⟩ | ⟨id, h1, rfl, _⟩
 ·refine .inl ⟨rfl, ?_⟩
  cases l with
  | nil => rfl
  | cons a l => simp [rowsZ] at h2
 ·rw [rowsZ_length] at h1
  subst h1
  have := he (id, (rowsZ l).flatten) (by simp)
  rw [rowsZ_flat] at this
  exact chr_full this
end Go.V
namespace Go.Proofs.Ytlaeblilmppodaa
open Go.V
set_option maxRecDepth 100000
set_option maxHeartbeats 4000000
variable {m : MdX} {mo : Mo} {ps : List (Pr × PrD)} {x : StD} {st : Stt}
end Go.Proofs.Ytlaeblilmppodaa
namespace Go.Proofs.Ytlaeblilmppodaa
open Go.V
set_option maxRecDepth 100000
set_option maxHeartbeats 4000000
variable {m : MdX} {mo : Mo} {ps : List (Pr × PrD)} {x : StD} {st : Stt}
theorem trimw_bc' {x w : Int} (h1 : -4294967296 <= x) (h2 : x <= 4294967296) (h3 : 1 <= w) (h4 : w <= 8) : Eqc vfs 45 [.int .i64 x, .int .i64 w] (.int .i64 (trimZ x w.toNat)) := iso_bc (trim_iso (x := x) (n := w) (w := w.toNat) (by omega) ⟨by omega, by omega⟩) rfl
end Go.Proofs.Ytlaeblilmppodaa
namespace Go.V
variable {fs : FuncId -> Option VFunc}
end Go.V
namespace Go.V
end Go.V
namespace Go.V
structure Inc (f g : Ft) : Prop where
 r : ∀ b, f.reads.testBit b = true -> g.reads.testBit b = true
 z : ∀ b, f.sizes.testBit b = true -> g.sizes.testBit b = true
theorem Inc.refl (f : Ft) : Inc f f := ⟨fun _ h => h, fun _ h => h⟩
theorem Inc.trans {f g h : Ft} (a : Inc f g) (b : Inc g h) : Inc f h := ⟨fun x k => b.r x (a.r x k), fun x k => b.z x (a.z x k)⟩
structure Agree (f : Ft) (st st' : Stt) : Prop where
 r : ∀ b, f.reads.testBit b = true -> zAt st.vars b = zAt st'.vars b
 z : ∀ b, f.sizes.testBit b = true -> (cAt st.chans b).length = (cAt st'.chans b).length
def setO {α : Type} (l : List α) : Option (Nat × α) -> List α
 | none => l
 | some (i, x) => l.set i x
theorem Agree.hold {f : Ft} {st st' : Stt} (h : Agree f st st') (z : Int) : Agree f st { st' with hold := z } := ⟨h.r, h.z⟩
end Go.V
namespace Go.V
theorem foldl_inv' {α β : Type} {P : β -> Prop} {g : β -> α -> β} : ∀ {l : List α} {a : β}, P a -> (∀ a x, x ∈ l -> P a -> P (g a x)) -> P (l.foldl g a)
 | [], a, h, _ => h
 | x :: l, a, h, hg => foldl_inv' (l := l) (hg a x (by simp) h) fun a y hy => hg a y (by simp [hy])
def ChFi (c : Ch) : Prop := 1 <= c.room /\ c.room <= 3 /\ 1 <= c.width /\ c.width <= 8
def VrFi (v : Vr) : Prop := 1 <= v.width /\ v.width <= 8 /\ trimZ v.value v.width.toNat = v.value
theorem chan_fi {t : List Nd} (hY : Typed t) {k : Nat} (hk : k < t.length) (h : (nd t k).kind = 1) : ChFi (chOf (nd t k)) := by
 have := (hY.fine k hk).chan h
 exact ⟨this.1, this.2.1, this.2.2.1, this.2.2.2.1⟩
theorem var_fi {t : List Nd} (hY : Typed t) {k : Nat} (hk : k < t.length) (h : (nd t k).kind = 2) : VrFi (vrOf (nd t k)) := by
 have := (hY.fine k hk).var h
 exact ⟨this.1, this.2.1, this.2.2.1⟩
theorem gat_fi {t : List Nd} (ht : TreeOk t) (hY : Typed t) : (∀ c ∈ (gat t).ch, ChFi c) /\ ∀ v ∈ (gat t).vs, VrFi v := by
 unfold gat pass1
 refine foldl_inv' (P := fun (a : Ga) => (∀ c ∈ a.ch, ChFi c) /\ ∀ v ∈ a.vs, VrFi v) (by simp) fun (a : Ga) k hk ha => ?_
 have hkl := (ht.ks ht.pos k hk).2
 unfold one1
 split
 ·rename_i h1
  refine ⟨fun c hc => ?_, ha.2⟩
  rcases List.mem_append.1 hc with hc | hc
  ·exact ha.1 c hc
  ·simp only [List.mem_singleton] at hc
   subst hc; exact chan_fi hY hkl h1
 split
 ·rename_i h1
  refine ⟨ha.1, fun c hc => ?_⟩
  rcases List.mem_append.1 hc with hc | hc
  ·exact ha.2 c hc
  ·simp only [List.mem_singleton] at hc
   subst hc; exact var_fi hY hkl h1
 split
 ·exact ha
 split
 ·exact ha
 ·exact ha
theorem locs_fi {t : List Nd} (ht : TreeOk t) (hY : Typed t) {k : Nat} (hk : k < t.length) : ∀ v ∈ (locs t (nd t k)).map vrOf, VrFi v := by
 intro v hv
 obtain ⟨x, hx, rfl⟩ := List.mem_map.1 hv
 obtain ⟨j, hj, rfl⟩ := List.mem_map.1 hx
 obtain ⟨i, hi, e⟩ := List.getElem_of_mem hj
 have hi2 : i < locN t (nd t k) /\ i < (nd t k).ks.length := by
  rw [List.length_take] at hi; omega
 rw [List.getElem_take] at e
 have h2 := locN_in hi2.1 hi2.2
 rw [e] at h2
 have hm := ht.ks hk j (by rw [<- e]; exact List.getElem_mem _)
 exact var_fi hY hm.2 h2
theorem copyF_fi {t : List Nd} (ht : TreeOk t) (hY : Typed t) {ch : List ByteArray} {k seen : Nat} (hk : k < t.length) : ∀ (c : Nat) (a : List Vr × List Pr), (∀ v ∈ a.1, VrFi v) -> ∀ v ∈ (copyF t ch k seen c a).1, VrFi v
 | 0, a, h => h
 | c + 1, a, h => by
   intro v hv
   unfold copyF at hv
   rcases List.mem_append.1 hv with hv | hv
   ·exact copyF_fi ht hY hk c a h v hv
   ·exact locs_fi ht hY hk v hv
theorem model_fi {t : List Nd} (hR : RightT t) (hY : Typed t) : MoFi (modelOf t) := by
 have ht := hR.ok
 obtain ⟨h1, h2⟩ := gat_fi ht hY
 refine ⟨h1, ?_⟩
 show ∀ v ∈ (gbt t).vs, VrFi v
 unfold gbt pass2
 refine foldl_inv' (P := fun (a : Gb) => ∀ v ∈ a.vs, VrFi v) h2 fun a k hk ha => ?_
 have hkl := (ht.ks ht.pos k hk).2
 unfold one2
 split
 ·exact copyF_fi ht hY hkl _ _ ha
 split
 ·exact ha
 ·exact ha
end Go.V
namespace Go.V
variable {mo : Mo} {st : Stt}
theorem nat_z {a : Nat} : ((a : Int) = 0) = (a = 0) := by apply propext; omega
attribute [go_sem] nat_z
end Go.V
namespace Go.V
def bL (n : Int) (w : Nat) : List Bool := (List.range w).map (bitZ n)
def aB (l : List Bool) (i : Nat) : Bool := l.getD i false
@[simp] theorem bL_len (n : Int) (w : Nat) : (bL n w).length = w := by simp [bL]
theorem bL_succ (n : Int) (w : Nat) : bL n (w + 1) = bL n w ++ [bitZ n w] := by simp [bL, List.range_succ]
theorem aB_bL {n : Int} {w i : Nat} (h : i < w) : aB (bL n w) i = bitZ n i := by simp [bL, aB, List.getD, h]
theorem aB_get {l : List Bool} {i : Nat} (h : i < l.length) : aB l i = l[i] := by simp [aB, List.getD, h]
theorem aB_app {l r : List Bool} {i : Nat} (h : i < l.length) : aB (l ++ r) i = aB l i := by
 unfold aB List.getD
 rw [List.getElem?_append_left h]
theorem num_bL {n : Int} {w : Nat} {r : List Bool} : (num (aB (bL n w ++ r)) w : Int) = n % 2 ^ w := by
 rw [<- bit_num]
 congr 1
 exact num_cong fun i hi => by rw [aB_app (by simpa using hi), aB_bL hi]
theorem val_bL {n : Int} {w : Nat} {r : List Bool} (h : 0 < w) : valZ (aB (bL n w ++ r)) w = trimZ n w := by
 rw [<- bit_val h]
 exact valZ_cong h fun i hi => by rw [aB_app (by simpa using hi), aB_bL hi]
theorem bL_cong {a b : Int} {w : Nat} (h : a % 2 ^ w = b % 2 ^ w) : bL a w = bL b w := by
 unfold bL
 refine List.map_congr_left fun i hi => ?_
 have hi := List.mem_range.1 hi
 have e : num (bitZ a) w = num (bitZ b) w := by
  have := bit_num a w
  have := bit_num b w
  omega
 exact num_inj e i hi
theorem bL_num {l : List Bool} {w : Nat} (h : w <= l.length) : bL (num (aB l) w : Int) w = l.take w := by
 refine List.ext_getElem (by simp; omega) fun i h1 h2 => ?_
 have hi : i < w := by simpa using h1
 rw [List.getElem_take]
 have e : num (bitZ (num (aB l) w : Int)) w = num (aB l) w := by
  have h3 := bit_num (num (aB l) w : Int) w
  have h4 := num_lt (aB l) w
  rw [Int.emod_eq_of_lt (by omega) (by have : ((2 ^ w : Nat) : Int) = 2 ^ w := by simp
                                       omega)] at h3
  omega
 have := num_inj e i hi
 rw [<- aB_get h1, aB_bL hi, this, aB_get (by omega)]
theorem bL_val {l : List Bool} {w : Nat} (h0 : 0 < w) (h : w <= l.length) : bL (valZ (aB l) w) w = l.take w := by
 rw [<- bL_num h]
 exact bL_cong (valZ_emod h0)
structure Code {α β : Type} (A : α -> Prop) (sz : α -> Nat) (e : α -> β -> List Bool) (d : α -> List Bool -> Option (β × List Bool)) (V : α -> β -> Prop) : Prop where
 enc : ∀ a b r, A a -> V a b -> d a (e a b ++ r) = some (b, r)
 dec : ∀ a l b r, A a -> sz a <= l.length -> d a l = some (b, r) -> V a b /\ l = e a b ++ r
 len : ∀ a b, V a b -> (e a b).length = sz a
def encL {α β : Type} (e : α -> β -> List Bool) : List α -> List β -> List Bool
 | a :: as', b :: bs' => e a b ++ encL e as' bs'
 | _, _ => []
def decL {α β : Type} (d : α -> List Bool -> Option (β × List Bool)) : List α -> List Bool -> Option (List β × List Bool)
 | [], l => some ([], l)
 | a :: as', l => match d a l with
   | some (b, r) => match decL d as' r with
     | some (bs', r') => some (b :: bs', r')
     | none => none
   | none => none
def AllV {α β : Type} (V : α -> β -> Prop) : List α -> List β -> Prop
 | [], [] => True
 | a :: as', b :: bs' => V a b /\ AllV V as' bs'
 | _, _ => False
def szL {α : Type} (sz : α -> Nat) (l : List α) : Nat := (l.map sz).sum
theorem codeL {α β : Type} {A : α -> Prop} {sz : α -> Nat} {e : α -> β -> List Bool} {d : α -> List Bool -> Option (β × List Bool)} {V : α -> β -> Prop} (h : Code A sz e d V) : Code (fun l => ∀ a ∈ l, A a) (szL sz) (encL e) (decL d) (AllV V) where
 enc := by
  intro a
  induction a with
  | nil => intro b r ha hv; cases b with
    | nil => rfl
    | cons _ _ => exact hv.elim
  | cons x a ih => intro b r ha hv; cases b with
    | nil => exact hv.elim
    | cons y b =>
      simp only [encL, decL, List.append_assoc]
      rw [h.enc x y _ (ha x (by simp)) hv.1]
      simp only [ih b r (fun z hz => ha z (by simp [hz])) hv.2]
 dec := by
  intro a
  induction a with
  | nil => intro l b r _ _ hd
           simp only [decL, Option.some.injEq, Prod.mk.injEq] at hd
           obtain ⟨rfl, rfl⟩ := hd
           exact ⟨trivial, rfl⟩
  | cons x a ih =>
    intro l b r ha hl hd
    simp only [szL, List.map_cons, List.sum_cons] at hl
    simp only [decL] at hd
    split at hd
    ·rename_i y r1 h1
     obtain ⟨v1, e1⟩ := h.dec x l y r1 (ha x (by simp)) (by omega) h1
     have hlen := h.len x y v1
     split at hd
     ·rename_i ys r2 h2
      simp only [Option.some.injEq, Prod.mk.injEq] at hd
      obtain ⟨rfl, rfl⟩ := hd
      have : l.length = (e x y).length + r1.length := by rw [e1, List.length_append]
      obtain ⟨v2, e2⟩ := ih r1 ys r2 (fun z hz => ha z (by simp [hz])) (by unfold szL; omega) h2
      exact ⟨⟨v1, v2⟩, by rw [e1, e2]; simp [encL]⟩
     ·cases hd
    ·cases hd
 len := by
  intro a
  induction a with
  | nil => intro b hv; cases b with
    | nil => rfl
    | cons _ _ => exact hv.elim
  | cons x a ih => intro b hv; cases b with
    | nil => exact hv.elim
    | cons y b => simp only [encL, List.length_append, szL, List.map_cons, List.sum_cons, h.len x y hv.1]; rw [ih b hv.2]; rfl
theorem decL_snoc {α β : Type} (d : α -> List Bool -> Option (β × List Bool)) (a : α) : ∀ (l : List α) (bs : List Bool), decL d (l ++ [a]) bs = (match decL d l bs with
 | some (o, r) => (match d a r with
   | some (b, r') => some (o ++ [b], r')
   | none => none)
 | none => none)
 | [], bs => by
   simp only [List.nil_append, decL]
 | x :: l, bs => by
   simp only [List.cons_append, decL]
   cases d x bs with
   | none => rfl
   | some y =>
     simp only [decL_snoc d a l y.2]
     cases decL d l y.2 with
     | none => rfl
     | some z =>
       cases h : d a z.2 <;> simp [h]
def widF (n : Int) : Nat -> Nat -> Nat
 | 0, w => w
 | f + 1, w => if w < 16 /\ (2 : Int) ^ w < n then widF n f (w + 1) else w
def wid (n : Int) : Nat := widF n 15 1
theorem widF_in {n : Int} : ∀ {f w : Nat}, 1 <= w -> w + f <= 16 -> 1 <= widF n f w /\ widF n f w <= 16
 | 0, w, h1, h2 => by simp only [widF]; omega
 | f + 1, w, h1, h2 => by
   unfold widF
   split
   ·exact widF_in (by omega) (by omega)
   ·omega
theorem wid_in (n : Int) : 1 <= wid n /\ wid n <= 16 := widF_in (by omega) (by omega)
theorem widF_enough {n : Int} (hn : n <= 65536) : ∀ {f w : Nat}, w + f = 16 -> n <= 2 ^ widF n f w
 | 0, w, h => by
   obtain rfl : w = 16 := by omega
   simp only [widF]; omega
 | f + 1, w, h => by
   unfold widF
   split
   ·exact widF_enough hn (by omega)
   ·rename_i c
    omega
theorem wid_enough {n : Int} (hn : n <= 65536) : n <= 2 ^ wid n := widF_enough hn (by omega)
def encP (p : Pr) (n : Nat) : List Bool := bL (n : Int) (wid (p.places : Int))
def decP (p : Pr) (l : List Bool) : Option (Nat × List Bool) := if num (aB l) (wid (p.places : Int)) < p.places then some (num (aB l) (wid (p.places : Int)), l.drop (wid (p.places : Int))) else none
theorem take_drop {l : List Bool} (w : Nat) : l = l.take w ++ l.drop w := (List.take_append_drop w l).symm
theorem drop_bL {n : Int} {w : Nat} {r : List Bool} : (bL n w ++ r).drop w = r := by
 have := List.drop_left (l₁ := bL n w) (l₂ := r)
 rwa [bL_len] at this
theorem pow_nat (w : Nat) : ((2 ^ w : Nat) : Int) = 2 ^ w := by simp
theorem codeP : Code (fun p : Pr => p.places <= 65536) (fun p : Pr => wid (p.places : Int)) encP decP (fun p n => n < p.places) where
 enc := by
  intro p n r ha h
  have h1 := wid_enough (n := (p.places : Int)) (by have : p.places <= 65536 := ha; omega)
  have e : num (aB (encP p n ++ r)) (wid (p.places : Int)) = n := by
   have := num_bL (n := (n : Int)) (w := wid (p.places : Int)) (r := r)
   rw [Int.emod_eq_of_lt (by omega) (by omega)] at this
   unfold encP
   omega
  unfold decP
  rw [e, if_pos h]
  unfold encP
  rw [drop_bL]
 dec := by
  intro p l b r ha hl hd
  unfold decP at hd
  split at hd
  ·rename_i c
   simp only [Option.some.injEq, Prod.mk.injEq] at hd
   obtain ⟨rfl, rfl⟩ := hd
   refine ⟨c, ?_⟩
   unfold encP
   rw [bL_num hl]
   exact take_drop _
  ·cases hd
 len := by intro p n h; simp [encP]
def encV (v : Vr) (n : Int) : List Bool := bL n v.width.toNat
def decV (v : Vr) (l : List Bool) : Option (Int × List Bool) := some (valZ (aB l) v.width.toNat, l.drop v.width.toNat)
theorem codeV : Code (fun v : Vr => 1 <= v.width) (fun v : Vr => v.width.toNat) encV decV (fun v n => trimZ n v.width.toNat = n) where
 enc := by
  intro v n r ha h
  have ha : 1 <= v.width := ha
  unfold decV encV
  rw [val_bL (by omega), h, drop_bL]
 dec := by
  intro v l b r ha hl hd
  have ha : 1 <= v.width := ha
  unfold decV at hd
  simp only [Option.some.injEq, Prod.mk.injEq] at hd
  obtain ⟨rfl, rfl⟩ := hd
  refine ⟨trimZ_valZ (by omega), ?_⟩
  unfold encV
  rw [bL_val (by omega) hl]
  exact take_drop _
 len := by intro v n h; simp [encV]
def encK (w : Nat) (l : List Int) : Nat -> List Bool
 | 0 => []
 | k + 1 => encK w l k ++ bL (zAt l k) w
def encC (c : Ch) (l : List Int) : List Bool := bL (l.length : Int) 2 ++ encK c.width.toNat l c.room.toNat
def decK (w n : Nat) : Nat -> List Bool -> List Int × Bool × List Bool
 | 0, l => ([], true, l)
 | k + 1, l => let x := decK w n k l
   if k < n then (x.1 ++ [valZ (aB x.2.2) w], x.2.1, x.2.2.drop w) else (x.1, x.2.1 && decide (valZ (aB x.2.2) w = 0), x.2.2.drop w)
def decC (c : Ch) (l : List Bool) : Option (List Int × List Bool) :=
 let x := decK c.width.toNat (num (aB l) 2) c.room.toNat (l.drop 2)
 if (num (aB l) 2 : Int) <= c.room /\ x.2.1 = true then some (x.1, x.2.2) else none
theorem encK_len (w : Nat) (l : List Int) : ∀ k, (encK w l k).length = k * w
 | 0 => by simp [encK]
 | k + 1 => by simp [encK, encK_len w l k, Nat.succ_mul]
theorem decK_drop (w n : Nat) : ∀ k l, (decK w n k l).2.2 = l.drop (k * w)
 | 0, l => by simp [decK]
 | k + 1, l => by
   unfold decK
   simp only
   split <;> simp only [decK_drop w n k l, List.drop_drop, Nat.succ_mul]
theorem decK_len (w n : Nat) : ∀ k l, (decK w n k l).1.length = min k n
 | 0, l => by simp [decK]
 | k + 1, l => by
   unfold decK
   simp only
   split
   ·simp only [List.length_append, decK_len w n k l, List.length_singleton]; omega
   ·simp only [decK_len w n k l]; omega
theorem trim_zero {w : Nat} (h : 0 < w) : trimZ 0 w = 0 := by
 have := pow_half h
 have := pow_pos' (w - 1)
 exact trimZ_id h (by omega) (by omega)
theorem decK_enc {w : Nat} (hw : 0 < w) {l : List Int} (hl : ∀ n ∈ l, trimZ n w = n) : ∀ k r, decK w l.length k (encK w l k ++ r) = (l.take k, true, r)
 | 0, r => by simp [decK, encK]
 | k + 1, r => by
   unfold decK encK
   rw [List.append_assoc, decK_enc hw hl k]
   simp only
   split
   ·rename_i hk
    have hz : zAt l k = l[k] := zAt_get hk
    rw [val_bL hw, hz, hl _ (List.getElem_mem hk), drop_bL, List.take_succ_eq_append_getElem hk]
   ·rename_i hk
    have hz : zAt l k = 0 := by simp [zAt, List.getD, List.getElem?_eq_none (by omega : l.length <= k)]
    rw [val_bL hw, hz, trim_zero hw, drop_bL, List.take_of_length_le (by omega), List.take_of_length_le (by omega)]
    simp
theorem decK_mem {w n : Nat} (hw : 0 < w) : ∀ k l, ∀ x ∈ (decK w n k l).1, trimZ x w = x
 | 0, l, x, hx => by simp [decK] at hx
 | k + 1, l, x, hx => by
   unfold decK at hx
   simp only at hx
   split at hx
   ·rcases List.mem_append.1 hx with hx | hx
    ·exact decK_mem hw k l x hx
    ·simp only [List.mem_singleton] at hx
     subst hx; exact trimZ_valZ hw
   ·exact decK_mem hw k l x hx
theorem zAt_app {l : List Int} {x : Int} {k : Nat} (h : k < l.length) : zAt (l ++ [x]) k = zAt l k := by
 unfold zAt List.getD
 rw [List.getElem?_append_left h]
theorem encK_app {w : Nat} {l : List Int} {x : Int} : ∀ {k}, k <= l.length -> encK w (l ++ [x]) k = encK w l k
 | 0, _ => rfl
 | k + 1, h => by
   unfold encK
   rw [encK_app (by omega), zAt_app (by omega)]
theorem decK_back {w n : Nat} (hw : 0 < w) : ∀ k l, k * w <= l.length -> (decK w n k l).2.1 = true -> encK w (decK w n k l).1 k = l.take (k * w)
 | 0, l, _, _ => by simp [encK]
 | k + 1, l, hl, ht => by
   have hlk : k * w <= l.length := by rw [Nat.succ_mul] at hl; omega
   have hd := decK_drop w n k l
   have hn := decK_len w n k l
   unfold decK at ht ⊢
   simp only at ht ⊢
   have hlen : w <= (l.drop (k * w)).length := by rw [List.length_drop]; rw [Nat.succ_mul] at hl; omega
   have hv := bL_val hw hlen
   have hfin : l.take ((k + 1) * w) = l.take (k * w) ++ (l.drop (k * w)).take w := by rw [Nat.succ_mul, List.take_add]
   split at ht
   ·rename_i hk
    simp only [hk, if_true] at ht ⊢
    have ih := decK_back hw k l hlk ht
    unfold encK
    rw [encK_app (by omega), ih, hfin, <- hv, hd]
    congr 2
    have e : (decK w n k l).1.length = k := by omega
    unfold zAt List.getD
    rw [List.getElem?_append_right (by omega), e, Nat.sub_self]
    rfl
   ·rename_i hk
    simp only [hk, if_false, Bool.and_eq_true, decide_eq_true_eq] at ht ⊢
    have ih := decK_back hw k l hlk ht.1
    have h0 := ht.2
    rw [hd] at h0
    unfold encK
    rw [ih, hfin, <- hv, h0]
    congr 2
    unfold zAt List.getD
    rw [List.getElem?_eq_none (by omega)]
    rfl
theorem codeC : Code (fun c : Ch => 1 <= c.width /\ 1 <= c.room /\ c.room <= 3) (fun c : Ch => 2 + c.room.toNat * c.width.toNat) encC decC (fun c l => (l.length : Int) <= c.room /\ ∀ n ∈ l, trimZ n c.width.toNat = n) where
 enc := by
  intro c l r ha h
  obtain ⟨a1, a2, a3⟩ := ha
  have e : num (aB (encC c l ++ r)) 2 = l.length := by
   have := num_bL (n := (l.length : Int)) (w := 2) (r := encK c.width.toNat l c.room.toNat ++ r)
   rw [Int.emod_eq_of_lt (by omega) (by omega)] at this
   unfold encC
   rw [List.append_assoc]
   omega
  unfold decC
  simp only [e]
  have e2 : (encC c l ++ r).drop 2 = encK c.width.toNat l c.room.toNat ++ r := by
   unfold encC
   rw [List.append_assoc, drop_bL]
  rw [e2, decK_enc (by omega) h.2]
  simp only [h.1, and_self, if_true]
  rw [List.take_of_length_le (by omega)]
 dec := by
  intro c l b r ha hl hd
  obtain ⟨a1, a2, a3⟩ := ha
  unfold decC at hd
  simp only at hd
  split at hd
  ·rename_i c1
   simp only [Option.some.injEq, Prod.mk.injEq] at hd
   obtain ⟨rfl, rfl⟩ := hd
   have hn := decK_len c.width.toNat (num (aB l) 2) c.room.toNat (l.drop 2)
   have hb := decK_back (w := c.width.toNat) (n := num (aB l) 2) (by omega) c.room.toNat (l.drop 2) (by rw [List.length_drop]; omega) c1.2
   refine ⟨⟨by rw [hn]; omega, decK_mem (by omega) _ _⟩, ?_⟩
   unfold encC
   rw [hb, hn, decK_drop, List.append_assoc, List.take_append_drop, Nat.min_eq_right (by omega), bL_num (by omega)]
   exact take_drop _
  ·cases hd
 len := by intro c l h; simp [encC, encK_len]
theorem allV_iff {α β : Type} {V : α -> β -> Prop} : ∀ {a : List α} {b : List β}, AllV V a b ↔ a.length = b.length /\ ∀ i (h : i < a.length) (h' : i < b.length), V a[i] b[i]
 | [], [] => by simp [AllV]
 | [], _ :: _ => by simp [AllV]
 | _ :: _, [] => by simp [AllV]
 | x :: a, y :: b => by
   have ih := allV_iff (V := V) (a := a) (b := b)
   simp only [AllV, ih, List.length_cons]
   constructor
   ·rintro ⟨h1, h2, h3⟩
    refine ⟨by omega, fun i hi hi' => ?_⟩
    cases i with
    | zero => exact h1
    | succ i => exact h3 i (by simpa using hi) (by simpa using hi')
   ·rintro ⟨h1, h2⟩
    exact ⟨h2 0 (by simp) (by simp), by omega, fun i hi hi' => h2 (i + 1) (by simpa using hi) (by simpa using hi')⟩
def Mo.pack (mo : Mo) (st : Stt) : List Bool := encL encP mo.procs st.at' ++ encL encV mo.vars st.vars ++ encL encC mo.chans st.chans ++ bL (st.hold + 1) 3
def Mo.nbits (mo : Mo) : Nat := szL (fun p : Pr => wid (p.places : Int)) mo.procs + szL (fun v : Vr => v.width.toNat) mo.vars + szL (fun c : Ch => 2 + c.room.toNat * c.width.toNat) mo.chans + 3
def Mo.unpack (mo : Mo) (bs : List Bool) : Option Stt := match decL decP mo.procs bs with
 | some (a, r1) => match decL decV mo.vars r1 with
   | some (v, r2) => match decL decC mo.chans r2 with
     | some (c, r3) => if (num (aB r3) 3 : Int) - 1 < (mo.procs.length : Int) then some ⟨a, v, c, (num (aB r3) 3 : Int) - 1⟩ else none
     | none => none
   | none => none
 | none => none
theorem fit_all {mo : Mo} {st : Stt} : Fit mo st ↔ AllV (fun (p : Pr) n => n < p.places) mo.procs st.at' /\ AllV (fun (v : Vr) n => trimZ n v.width.toNat = n) mo.vars st.vars /\ AllV (fun (c : Ch) (l : List Int) => (l.length : Int) <= c.room /\ ∀ n ∈ l, trimZ n c.width.toNat = n) mo.chans st.chans /\ -1 <= st.hold /\ st.hold < (mo.procs.length : Int) := by
 simp only [allV_iff]
 constructor
 ·intro h
  exact ⟨⟨h.at'.symm, fun i a b => h.pl i b a⟩, ⟨h.vars.symm, fun i a b => h.vr i b a⟩, ⟨h.chans.symm, fun i a b => ⟨h.cl i b a, h.cv i b a⟩⟩, h.hold⟩
 ·rintro ⟨⟨a1, a2⟩, ⟨b1, b2⟩, ⟨c1, c2⟩, d⟩
  exact ⟨a1.symm, b1.symm, c1.symm, fun i a b => a2 i b a, fun i a b => b2 i b a, fun i a b => (c2 i b a).1, fun i a b => (c2 i b a).2, d⟩
structure MoLa (mo : Mo) : Prop where
 pl : ∀ p ∈ mo.procs, p.places <= 65536
 vr : ∀ v ∈ mo.vars, 1 <= v.width
 ch : ∀ c ∈ mo.chans, 1 <= c.width /\ 1 <= c.room /\ c.room <= 3
 np : mo.procs.length <= 4
theorem mo_la {mo : Mo} (ho : MoOk mo) (hf : MoFi mo) : MoLa mo :=
 ⟨fun p hp => by have := (ho.pr p hp).pl; omega, fun v hv => (hf.vr v hv).1, fun c hc => ⟨(hf.ch c hc).2.2.1, (hf.ch c hc).1, (hf.ch c hc).2.1⟩, ho.np⟩
theorem pack_unpack {mo : Mo} (hm : MoLa mo) {bs : List Bool} {st : Stt} (hl : bs.length = mo.nbits) (h : mo.unpack bs = some st) : Fit mo st /\ mo.pack st = bs := by
 unfold Mo.nbits at hl
 unfold Mo.unpack at h
 split at h
 ·rename_i a r1 e1
  obtain ⟨v1, q1⟩ := (codeL codeP).dec _ _ _ _ hm.pl (by omega) e1
  have l1 := (codeL codeP).len _ _ v1
  have k1 : bs.length = (encL encP mo.procs a).length + r1.length := by rw [q1, List.length_append]
  split at h
  ·rename_i v r2 e2
   obtain ⟨v2, q2⟩ := (codeL codeV).dec _ _ _ _ hm.vr (by omega) e2
   have l2 := (codeL codeV).len _ _ v2
   have k2 : r1.length = (encL encV mo.vars v).length + r2.length := by rw [q2, List.length_append]
   split at h
   ·rename_i c r3 e3
    obtain ⟨v3, q3⟩ := (codeL codeC).dec _ _ _ _ hm.ch (by omega) e3
    have l3 := (codeL codeC).len _ _ v3
    have k3 : r2.length = (encL encC mo.chans c).length + r3.length := by rw [q3, List.length_append]
    split at h
    ·rename_i c1
     simp only [Option.some.injEq] at h
     subst h
     refine ⟨fit_all.2 ⟨v1, v2, v3, by simp only; omega, c1⟩, ?_⟩
     have e : (num (aB r3) 3 : Int) - 1 + 1 = (num (aB r3) 3 : Int) := by omega
     unfold Mo.pack
     simp only
     rw [e, bL_num (by omega), List.take_of_length_le (by omega), q1, q2, q3]
     simp only [List.append_assoc]
    ·cases h
   ·cases h
  ·cases h
 ·cases h
end Go.V
namespace Go.Proofs.Ytlaeblilmppodaa
open Go.V
set_option maxRecDepth 100000
set_option maxHeartbeats 4000000
theorem pow_le16 {w : Nat} (h : w <= 16) : (2 : Int) ^ w <= 65536 /\ (1 : Int) <= 2 ^ w := by
 have h1 : 2 ^ w <= 2 ^ 16 := Nat.pow_le_pow_right (by omega) h
 have h2 : 0 < 2 ^ w := Nat.two_pow_pos w
 have := pow_nat w
 omega
theorem shl_64 {w : Nat} {k : IntKind} (h : w <= 16) : shiftInt .shl .i64 1 (w : Int) = some (.int .i64 (2 ^ w)) := by
 have := pow_le16 h
 unfold shiftInt
 rw [if_neg (by omega)]
 simp only [Int.toNat_natCast]
 rw [show min w IntKind.i64.bits = w by rw [show IntKind.i64.bits = 64 from rfl]; omega, Int.one_mul, i64_id (by omega) (by omega)]
theorem width_bc {n : Int} : Eqc vfs 33 [.int .i64 n] (.int .i64 (wid n : Int)) := by
 refine bc_of ?_
 refine yiso (vf := vf33) rfl ?_
 unfold vf33; refine zF ?_
 refine zY0 ?_
 refine yw_up [0, 2] 0 15 (fun i f s => f 3 = .int .i64 ((i + 1 : Nat) : Int) /\ widF n (15 - i) (i + 1) = wid n) (.mk rfl) (by omega) ⟨rfl, rfl⟩ ?_
 rintro i f s hi ⟨hE, hw⟩
 have hs := shl_64 (w := i + 1) (k := .u64) (by omega)
 have hu : IntKind.u64.wrap ((i + 1 : Nat) : Int) = ((i + 1 : Nat) : Int) := by
  rw [IntKind.wrap_u64]; omega
 have h16 : (((i + 1 : Nat) : Int) < 16) = (i < 15) := by apply propext; omega
 by_cases ci : i < 15
 ·have e : 15 - i = (15 - (i + 1)) + 1 := by omega
  rw [e, widF] at hw
  by_cases cn : (2 : Int) ^ (i + 1) < n
  ·rw [if_pos ⟨by omega, cn⟩] at hw
   refine zY (aN hE (aN hs (aN hu (aN h16 (aN ci cn))))) ?_
   exact hw
  ·rw [if_neg (by omega)] at hw
   refine zY (aN hE (aN hs (aN hu (aN h16 (aN ci cn))))) ?_
   exact hw
 ·obtain rfl : i = 15 := by omega
  have hw : 15 + 1 = wid n := hw
  refine zY (aN hE (aN hs (aN hu (aN h16 ci)))) ?_
  rw [<- hw]; rfl
theorem widthR_bc {n : Int} (hn : in64 n) : Eqc vfs 24 [.int .i64 n] (.int .i64 (wid n : Int)) := by
 refine bc_of ?_
 refine yiso (vf := vf24) rfl ?_
 unfold vf24; refine zF ?_
 refine zY0 ?_
 refine yw_up [0, 2] 0 15 (fun i f s => f 3 = .int .i64 ((i + 1 : Nat) : Int) /\ f 4 = .int .i64 (2 ^ (i + 1)) /\ widF n (15 - i) (i + 1) = wid n) (.mk rfl) (by omega) ⟨rfl, rfl, rfl⟩ ?_
 rintro i f s hi ⟨hE, hE4, hw⟩
 have h16 : (((i + 1 : Nat) : Int) < 16) = (i < 15) := by apply propext; omega
 have hp := pow_le16 (w := i + 1) (by omega)
 have hm : IntKind.i64.wrap ((2 : Int) ^ (i + 1) * 2) = 2 ^ (i + 1 + 1) := by rw [i64_id (by omega) (by omega), Int.pow_succ 2 (i + 1)]
 by_cases cn : (2 : Int) ^ (i + 1) < n
 ·by_cases ci : i < 15
  ·have e : 15 - i = (15 - (i + 1)) + 1 := by omega
   rw [e, widF, if_pos ⟨by omega, cn⟩] at hw
   refine zY (aN hE (aN hE4 (aN hm (aN h16 (aN ci cn))))) ?_
   exact hw
  ·obtain rfl : i = 15 := by omega
   have hw : 15 + 1 = wid n := hw
   refine zY (aN hE (aN hE4 (aN hm (aN h16 (aN ci cn))))) ?_
   rw [<- hw]; rfl
 ·have hw : i + 1 = wid n := by
   by_cases ci : i < 15
   ·have e : 15 - i = (15 - (i + 1)) + 1 := by omega
    rw [e, widF, if_neg (by omega)] at hw
    exact hw
   ·obtain rfl : i = 15 := by omega
    exact hw
  refine zY (aN hE (aN hE4 (aN hm (aN h16 cn)))) ?_
  exact hw
end Go.Proofs.Ytlaeblilmppodaa
namespace Go.V
variable {fs : FuncId -> Option VFunc}
theorem wx_evpI {pairs T i t fo args rest s Q} {env : Env} {f : FuncId} {caps : List D} {l : List D} {P : D -> Store -> Prop} (ids : List Nat) (hf : env.ev fo = .fn f caps) (hr : EvP fs f l s fun d s' => P d s' /\ Fr ids s s') (ha : env.evL args ++ caps = l)
 (he : ∀ e ∈ T, (e.i, i) ∈ pairs -> ∀ id, e.rd = some id -> id < s.next /\ id ∉ ids)
 (h : ∀ d s', P d s' -> Fr ids s s' -> XX fs pairs (⟨i, none, ids ++ (List.range s'.next).filter fun x => s.next <= x⟩ :: T) rest ((t, d) :: env) s' Q) : WX fs pairs T ((i, ⟨some t, .m (.call .raw fo args), none⟩) :: rest) env s Q := by
 subst ha
 obtain ⟨d, s', ⟨n, hn⟩, h1, h2⟩ := hr
 refine wx_m ⟨n, by simp only [evM, callV, hf]; exact hn⟩ (E := ids ++ (List.range s'.next).filter fun x => s.next <= x) ?_ h2.1 ?_ (xx_sound (h d s' h1 h2))
 ·intro id hid
  simp only [List.mem_append, not_or] at hid
  by_cases c : id < s.next
  ·exact (h2.2 id c hid.1).symm
  ·by_cases c2 : id < s'.next
   ·exact (hid.2 (by simp; omega)).elim
   ·rw [Store.get_none _ _ (by omega), Store.get_none _ _ (by omega)]
 ·intro e he1 he2 id hid
  have := he e he1 he2 id hid
  simp only [List.mem_append, not_or]
  refine ⟨this.2, ?_⟩
  simp; omega
theorem rowsB_app (a b : List Bool) : rowsB (a ++ b) = rowsB a ++ rowsB b := by simp [rowsB]
theorem rowsB_flat (l : List Bool) : (rowsB l).flatten = cellsB l := by
 induction l with
 | nil => rfl
 | cons b l ih => show [.bool b] ++ (rowsB l).flatten = _; rw [ih]; rfl
structure GrB (s0 s : Store) (ids : List Nat) (A B R : Hs) (d : D) (l : List Bool) (E : Hs) : Prop where
 rp : Rp d 1 (rowsB l) E
 hp : Hp s (A ++ E ++ B) R
 fr : Fr ids s0 s
 nw : ∀ e ∈ E, e.1 ∈ ids ∨ s0.next <= e.1
theorem bm_grB {s0 : Store} {ids : List Nat} {t rest env K s d b A B R E} {l : List Bool} (h : GrB s0 s ids A B R d l E) (hl : l.length <= 1000000)
 (k : ∀ d' s' E', GrB s0 s' ids A B R d' (l ++ [b]) E' -> XQ fs [] rest ((t, d') :: env) s' K) : BM (appendV 1 1 d (.arr s.next 0 1 1) (s.push (.cells [.bool b]))) fs t rest env K := by
 refine bm_app2 (row := [.bool b]) h.rp h.hp rfl (rowsB_len _) (by decide) (by simp; omega) fun s' h1 h2 h3 h4 => k _ s' [(s.next + 1, (rowsB l ++ [[D.bool b]]).flatten)] ⟨?_, by rw [List.append_assoc]; exact h2, ?_, ?_⟩
 ·rw [rowsB_app]; exact h1
 ·refine ⟨by have := h.fr.1; omega, fun j hj hn => ?_⟩
  have := h.fr.1
  rw [h4 j (by omega) fun e he hc => ?_, h.fr.2 j hj hn]
  rcases h.nw e he with h5 | h5
  ·exact hn (hc ▸ h5)
  ·omega
 ·intro e he
  simp only [List.mem_singleton] at he
  subst he
  have := h.fr.1
  exact .inr (by simp only; omega)
theorem GrB.frz {s0 s : Store} {ids : List Nat} {A B R E : Hs} {d : D} {l : List Bool} (h : GrB s0 s ids A B R d l E) : ∃ d', ice s.get 20 d = some d' /\ FL 1 d' (rowsB l) := rp_frz h.rp h.hp (fun e he => by simp [he]) (rowsB_len _) (rowsB_scal _)
theorem half_step (n : Int) : (n.tmod 2 = 0 /\ n % 2 = 0 /\ n.tdiv 2 = n / 2) ∨ (n.tmod 2 = 1 /\ n % 2 = 1 /\ n.tdiv 2 = n / 2) ∨ (n.tmod 2 = -1 /\ n % 2 = 1 /\ (n - 1).tdiv 2 = n / 2) := by
 by_cases h : 0 <= n
 ·have e1 : n.tmod 2 = n % 2 := Int.tmod_eq_emod_of_nonneg h
  have e2 : n.tdiv 2 = n / 2 := Int.tdiv_eq_ediv_of_nonneg h
  omega
 ·have e1 := Int.mul_tdiv_add_tmod n 2
  have e3 := Int.mul_tdiv_add_tmod (n - 1) 2
  have e4 : -2 < n.tmod 2 := Int.lt_tmod_of_pos _ (by omega)
  have e5 : (-n).tmod 2 = (-n) % 2 := Int.tmod_eq_emod_of_nonneg (by omega)
  rw [Int.neg_tmod] at e5
  have e6 : (-(n - 1)).tmod 2 = (-(n - 1)) % 2 := Int.tmod_eq_emod_of_nonneg (by omega)
  rw [Int.neg_tmod] at e6
  omega
theorem div_pow_succ (x : Int) (i : Nat) : x / 2 ^ (i + 1) = x / 2 ^ i / 2 := by
 have p := pow_pos' i
 rw [Int.ediv_ediv_of_nonneg (by omega), Int.pow_succ]
theorem div_in {x : Int} (hx : -65536 <= x /\ x <= 65536) : ∀ i : Nat, -65536 <= x / 2 ^ i /\ x / 2 ^ i <= 65536
 | 0 => by simpa using hx
 | i + 1 => by
   have := div_in hx i
   rw [div_pow_succ]
   omega
theorem cB_at {l : List Bool} {i : Nat} (h : i < l.length) : (cellsB l)[i]? = some (.bool (aB l i)) := by rw [aB_get h]; simp [cellsB, h]
attribute [go_sem] cB_at cellsB_length
theorem Rp.exps {s : Store} {d x : D} {bytes : Nat} {rows new : List (List D)} {E : Hs} (h : Rp d 1 rows E) (he : Has s E) (hx : FL 1 x new) (hrs : ∀ r ∈ rows, r.length = 1) (hns : ∀ r ∈ new, r.length = 1) (hb : bytes <= 1000) (hl : rows.length + new.length <= 1000000000) (hn : new ≠ []) :
 ∃ s', appendV 1 bytes d x s = some (.arr s.next 0 (rows.length + new.length) 1, s') /\ s'.next = s.next + 1 /\ s'.get s.next = some (.cells (rows.flatten ++ new.flatten)) /\ ∀ id, id ≠ s.next -> (∀ e ∈ E, e.1 ≠ id) -> s'.get id = s.get id := by
 have b3 : bytes <= 2 ^ 20 := Nat.le_trans hb (by decide)
 obtain ⟨r1, r2, r3⟩ := fl_row hx (g := s.get)
 have hnl : new.length ≠ 0 := by simpa using hn
 rcases h with ⟨rfl, rfl, rfl⟩ | ⟨id, rfl, rfl, hne⟩
 ·have b1 : new.length * bytes <= 2 ^ 45 := Nat.le_trans (Nat.mul_le_mul (show new.length <= 1000000000 by simpa using hl) hb) (by decide)
  have hl' : new.length <= 1000000000 := by simpa using hl
  refine ⟨s.push (.cells new.flatten), ?_, by simp, by rw [get_push_new rfl]; simp, fun j hj _ => by rw [Store.get_push, if_neg hj]⟩
  unfold appendV
  simp only [r1, r2, r3, b3, decide_true, Bool.and_self, if_true]
  rw [if_neg hnl, if_pos ⟨b1, by omega⟩]
  simp
 ·have hf := flat_len hrs
  have hg : s.get id = some (.cells rows.flatten) := he (id, rows.flatten) (by simp)
  have b1 : (rows.length + new.length) * bytes <= 2 ^ 45 := Nat.le_trans (Nat.mul_le_mul hl hb) (by decide)
  refine ⟨(s.set id none).push (.cells (rows.flatten ++ new.flatten)), ?_, by simp, get_push_new (by simp), fun j hj hn => ?_⟩
  ·unfold appendV
   simp only [r1, r2, r3, b3, decide_true, Bool.and_self, if_true, hg, Nat.zero_add, hf, and_self, List.drop_zero]
   rw [if_neg hnl, if_pos ⟨b1, by omega⟩]
  ·have : id ≠ j := hn (id, rows.flatten) (by simp)
   rw [Store.get_push, if_neg (by simpa using hj), get_set_ne this.symm]
theorem GrB.exps {s0 s : Store} {ids : List Nat} {A B R E : Hs} {d x : D} {l r : List Bool} (h : GrB s0 s ids A B R d l E) (hx : FL 1 x (rowsB r)) (hl : l.length <= 1000000) (hr : r.length <= 1000) (hn : r ≠ []) :
 ∃ d' s' E', appendV 1 1 d x s = some (d', s') /\ GrB s0 s' ids A B R d' (l ++ r) E' /\ s.next <= s'.next /\ ∀ id, id ∉ s.next :: E.map Prod.fst -> s.get id = s'.get id := by
 have he : Has s E := fun y hy => h.hp.w y (by simp [hy])
 obtain ⟨s', h1, h2, h3, h4⟩ := h.rp.exps (bytes := 1) he hx (rowsB_len _) (rowsB_len _) (by decide) (by simp; omega) (by simpa [rowsB] using hn)
 have hfr := h.fr.1
 refine ⟨_, s', [(s.next, (rowsB (l ++ r)).flatten)], h1, ⟨?_, ?_, ?_, ?_⟩, by omega, fun id hid => ?_⟩
 ·refine .inr ⟨s.next, ?_, rfl, ?_⟩
  ·simp
  ·simp [rowsB, hn]
 ·have hp := h.hp
  have hnd := hp.nd
  have hlt : ∀ w ∈ A ++ E ++ B, w.1 < s.next := fun w hw => get_lts (hp.w w hw)
  have hltr : ∀ w ∈ R, w.1 < s.next := fun w hw => get_lts (hp.r w hw)
  have hap : ∀ w ∈ A ++ B, ∀ e ∈ E, e.1 ≠ w.1 := by
   intro w hw e hee heq
   rw [List.map_append, List.map_append, List.nodup_append, List.nodup_append] at hnd
   obtain ⟨⟨n1, n2, n3⟩, n4, n5⟩ := hnd
   rcases List.mem_append.1 hw with hw | hw
   ·exact n3 _ (List.mem_map_of_mem hw) _ (List.mem_map_of_mem hee) heq.symm
   ·exact n5 _ (List.mem_append_right _ (List.mem_map_of_mem hee)) _ (List.mem_map_of_mem hw) heq
  have hnd' : ((A ++ B).map Prod.fst).Nodup := (hp.sub (W' := A ++ B) (R' := R) (List.Sublist.append (List.sublist_append_left A E) (List.Sublist.refl B)) fun _ h => h).nd
  refine ⟨?_, ?_, ?_, ?_⟩
  ·rw [List.map_append, List.map_append, List.nodup_append, List.nodup_append]
   rw [List.map_append, List.nodup_append] at hnd'
   obtain ⟨n1, n2, n3⟩ := hnd'
   refine ⟨⟨n1, by simp, ?_⟩, n2, ?_⟩
   ·intro a ha b hb
    simp only [List.map_cons, List.map_nil, List.mem_singleton] at hb
    obtain ⟨w, hw, rfl⟩ := List.mem_map.1 ha
    have := hlt w (by simp [hw])
    omega
   ·intro a ha b hb
    rcases List.mem_append.1 ha with ha | ha
    ·exact n3 a ha b hb
    ·simp only [List.map_cons, List.map_nil, List.mem_singleton] at ha
     obtain ⟨w, hw, rfl⟩ := List.mem_map.1 hb
     have := hlt w (by simp [hw])
     omega
  ·intro w hw q hq
   have := hltr q hq
   rcases List.mem_append.1 hw with hw | hw
   ·rcases List.mem_append.1 hw with hw | hw
    ·exact hp.ap w (by simp [hw]) q hq
    ·simp only [List.mem_singleton] at hw
     subst hw; simp only; omega
   ·exact hp.ap w (by simp [hw]) q hq
  ·intro w hw
   rcases List.mem_append.1 hw with hw | hw
   ·rcases List.mem_append.1 hw with hw | hw
    ·have := hlt w (by simp [hw])
     rw [h4 _ (by omega) (hap w (by simp [hw]))]
     exact hp.w w (by simp [hw])
    ·simp only [List.mem_singleton] at hw
     subst hw
     rw [rowsB_app, List.flatten_append]; exact h3
   ·have := hlt w (by simp [hw])
    rw [h4 _ (by omega) (hap w (by simp [hw]))]
    exact hp.w w (by simp [hw])
  ·intro w hw
   have := hltr w hw
   rw [h4 _ (by omega) fun e hee => hp.ap e (by simp [hee]) w hw]
   exact hp.r w hw
 ·refine ⟨by omega, fun j hj hjn => ?_⟩
  rw [h4 j (by omega) fun e hee heq => ?_, h.fr.2 j hj hjn]
  rcases h.nw e hee with h5 | h5
  ·exact hjn (heq ▸ h5)
  ·omega
 ·intro e hee
  simp only [List.mem_singleton] at hee
  subst hee
  exact .inr (by simp only; omega)
 ·simp only [List.mem_cons, not_or] at hid
  exact (h4 id hid.1 fun e hee heq => hid.2 (heq ▸ List.mem_map_of_mem hee)).symm
theorem bm_grBs {s0 : Store} {ids : List Nat} {t rest env K s d x A B R E} {l r : List Bool} (h : GrB s0 s ids A B R d l E) (hx : FL 1 x (rowsB r)) (hl : l.length <= 1000000) (hr : r.length <= 1000) (hn : r ≠ [])
 (k : ∀ d' s' E', GrB s0 s' ids A B R d' (l ++ r) E' -> XQ fs [] rest ((t, d') :: env) s' K) : BM (appendV 1 1 d x s) fs t rest env K := by
 obtain ⟨d', s', E', h1, h2, _⟩ := h.exps hx hl hr hn
 rw [h1]
 exact k d' s' E' h2
theorem mx_grBs {pairs T i} {s0 : Store} {ids : List Nat} {t rest env K s d x A B R E} {l r : List Bool} (h : GrB s0 s ids A B R d l E) (hx : FL 1 x (rowsB r)) (hl : l.length <= 1000000) (hr : r.length <= 1000) (hn : r ≠ []) (he : EfOk pairs i (s.next :: E.map Prod.fst) T)
 (k : ∀ d' s' E' T', GrB s0 s' ids A B R d' (l ++ r) E' -> XX fs pairs T' rest ((t, d') :: env) s' K) : MX d x 1 1 i fs pairs T t rest env s K := by
 obtain ⟨d', s', E', h1, h2, h3, h4⟩ := h.exps hx hl hr hn
 exact ⟨d', s', _, h1, h3, h4, he, k d' s' E' _ h2⟩
def GrL (s0 s : Store) (R : Hs) (d : D) (l : List Bool) (E : Hs) : Prop := GrB s0 s [] [] [] R d l E
theorem GrB.base {s0 s s' : Store} {R R' E E' : Hs} {d d' : D} {l l' : List Bool} (h : GrB s s' (E.map Prod.fst) [] [] R' d' l' E') (h0 : GrL s0 s R d l E) : GrL s0 s' R' d' l' E' := by
 have nE : ∀ i ∈ E.map Prod.fst, s0.next <= i := fun i hi => by
  obtain ⟨e, he, rfl⟩ := List.mem_map.1 hi
  rcases h0.nw e he with h | h
  ·simp at h
  ·exact h
 refine ⟨h.rp, h.hp, ⟨Nat.le_trans h0.fr.1 h.fr.1, fun j hj _ => ?_⟩, fun e he => .inr ?_⟩
 ·rw [h.fr.2 j (Nat.lt_of_lt_of_le hj h0.fr.1) fun hc => by have := nE j hc; omega, h0.fr.2 j hj (by simp)]
 ·rcases h.nw e he with h | h
  ·exact nE _ h
  ·exact Nat.le_trans h0.fr.1 h
theorem GrL.mv {s0 s s' : Store} {R E : Hs} {d : D} {l : List Bool} (h : GrL s0 s R d l E) (hf : Fr [] s s') : GrL s0 s' R d l E :=
 ⟨h.rp, h.hp.fr hf, h.fr.trans hf (by simp), h.nw⟩
theorem GrL.nil {s0 s : Store} {R : Hs} (h : Has s R) (hf : Fr [] s0 s) : GrL s0 s R .nils [] [] := ⟨.inl ⟨rfl, rfl, rfl⟩, ⟨List.nodup_nil, by simp, by simp [Has], h⟩, hf, by simp⟩
theorem fr_e {s : Store} : Fr [] Store.empty s := ⟨Nat.zero_le _, fun i hi => absurd hi (Nat.not_lt_zero i)⟩
theorem fr_box {s : Store} {z o : VObj} : Fr [] s ((s.push z).set s.next (some o)) := (Fr.push _).thenSet _ (.inr (Nat.le_refl _))
theorem bL_ne {n : Int} {w : Nat} (h : 1 <= w) : bL n w ≠ [] := by
 intro e
 have := bL_len n w
 rw [e] at this
 simp at this; omega
theorem encL_snoc {α β : Type} {e : α -> β -> List Bool} : ∀ {a : List α} {b : List β} {i : Nat} (h : i < a.length) (h' : i < b.length), encL e (a.take (i + 1)) (b.take (i + 1)) = encL e (a.take i) (b.take i) ++ e a[i] b[i]
 | x :: a, y :: b, 0, _, _ => by simp [encL]
 | x :: a, y :: b, i + 1, h, h' => by
   simp only [List.take_succ_cons, encL, List.getElem_cons_succ, List.append_assoc]
   rw [encL_snoc (by simpa using h) (by simpa using h')]
def Mo.pkA (mo : Mo) (st : Stt) (i : Nat) : List Bool := encL encP (mo.procs.take i) (st.at'.take i)
def Mo.pkV (mo : Mo) (st : Stt) (i : Nat) : List Bool := mo.pkA st mo.procs.length ++ encL encV (mo.vars.take i) (st.vars.take i)
def Mo.pkC (mo : Mo) (st : Stt) (i : Nat) : List Bool := mo.pkV st mo.vars.length ++ encL encC (mo.chans.take i) (st.chans.take i)
theorem pkA_succ {mo : Mo} {st : Stt} {i : Nat} (h : i < mo.procs.length) (h' : i < st.at'.length) : mo.pkA st (i + 1) = mo.pkA st i ++ bL (nAt st.at' i : Int) (wid ((pAt mo.procs i).places : Int)) := by
 unfold Mo.pkA; rw [encL_snoc h h', pAt_get h, nAt_get h']; rfl
theorem pkV_succ {mo : Mo} {st : Stt} {i : Nat} (h : i < mo.vars.length) (h' : i < st.vars.length) : mo.pkV st (i + 1) = mo.pkV st i ++ bL (zAt st.vars i) (vAt mo.vars i).width.toNat := by
 unfold Mo.pkV; rw [encL_snoc h h', vAt_get h, zAt_get h', List.append_assoc]; rfl
theorem pkC_succ {mo : Mo} {st : Stt} {i : Nat} (h : i < mo.chans.length) (h' : i < st.chans.length) : mo.pkC st (i + 1) = mo.pkC st i ++ bL ((cAt st.chans i).length : Int) 2 ++ encK (chAt mo.chans i).width.toNat (cAt st.chans i) (chAt mo.chans i).room.toNat := by
 unfold Mo.pkC; rw [encL_snoc h h', chAt_get h, cAt_get h', List.append_assoc, List.append_assoc]; rfl
theorem pk_all {mo : Mo} {st : Stt} (h1 : st.at'.length = mo.procs.length) (h2 : st.vars.length = mo.vars.length) (h3 : st.chans.length = mo.chans.length) : mo.pkC st mo.chans.length ++ bL (st.hold + 1) 3 = mo.pack st := by
 unfold Mo.pkC Mo.pkV Mo.pkA Mo.pack
 rw [List.take_length, List.take_length, List.take_length, List.take_of_length_le (by omega), List.take_of_length_le (by omega), List.take_of_length_le (by omega)]
theorem encL_le {α β : Type} {e : α -> β -> List Bool} {k : Nat} : ∀ (a : List α) (b : List β), (∀ x ∈ a, ∀ b, (e x b).length <= k) -> (encL e a b).length <= k * a.length
 | [], b, _ => by cases b <;> simp [encL]
 | x :: a, [], _ => by simp [encL]
 | x :: a, y :: b, he => by
   simp only [encL, List.length_append, List.length_cons, Nat.mul_succ]
   have := encL_le a b fun z hz => he z (by simp [hz])
   have := he x (by simp) y
   omega
theorem pk_le {mo : Mo} (ho : MoOk mo) (hf : MoFi mo) (st : Stt) (i : Nat) : (mo.pkA st i).length <= 1000 /\ (mo.pkV st i).length <= 1000 /\ (mo.pkC st i).length <= 1000 := by
 have h1 : ∀ i, (mo.pkA st i).length <= 16 * 4 := fun i => by
  refine Nat.le_trans (encL_le (k := 16) _ _ fun p _ n => ?_) (Nat.mul_le_mul_left _ ?_)
  ·simp only [encP, bL_len]; exact (wid_in _).2
  ·rw [List.length_take]; have := ho.np; omega
 have h2 : ∀ i, (encL encV (mo.vars.take i) (st.vars.take i)).length <= 8 * 8 := fun i => by
  refine Nat.le_trans (encL_le (k := 8) _ _ fun v hv n => ?_) (Nat.mul_le_mul_left _ ?_)
  ·simp only [encV, bL_len]; have := hf.vr v (List.mem_of_mem_take hv); omega
  ·rw [List.length_take]; have := ho.nv; omega
 have h3 : ∀ i, (encL encC (mo.chans.take i) (st.chans.take i)).length <= 26 * 3 := fun i => by
  refine Nat.le_trans (encL_le (k := 26) _ _ fun c hc n => ?_) (Nat.mul_le_mul_left _ ?_)
  ·have hw := hf.ch c (List.mem_of_mem_take hc)
   simp only [encC, List.length_append, bL_len, encK_len]
   have : c.room.toNat * c.width.toNat <= 3 * 8 := Nat.mul_le_mul (by omega) (by omega)
   omega
  ·rw [List.length_take]; have := ho.nc; omega
 have a := h1 i
 have b := h1 mo.procs.length
 have c := h2 i
 have d := h2 mo.vars.length
 have e := h3 i
 unfold Mo.pkC Mo.pkV
 simp only [List.length_append]
 omega
theorem zAt_out {l : List Int} {k : Nat} (h : ¬ k < l.length) : zAt l k = 0 := by simp [zAt, List.getD, List.getElem?_eq_none (by omega : l.length <= k)]
theorem encK_succ (w : Nat) (l : List Int) (k : Nat) : encK w l (k + 1) = encK w l k ++ bL (zAt l k) w := rfl
theorem GrL.lt {s0 s : Store} {R E : Hs} {d : D} {l : List Bool} (h : GrL s0 s R d l E) {id : Nat} (hm : id ∈ E.map Prod.fst) : id < s.next := by
 obtain ⟨e, he, h1⟩ := List.mem_map.1 hm
 rw [<- h1]
 exact get_lts (h.hp.w e (by simp [he]))
theorem GrL.sub {s0 s : Store} {R R' E : Hs} {d : D} {l : List Bool} (h : GrL s0 s R d l E) (hr : ∀ x ∈ R', x ∈ R) : GrL s0 s R' d l E :=
 ⟨h.rp, h.hp.sub (List.Sublist.refl _) hr, h.fr, h.nw⟩
theorem GrL.box {s0 s : Store} {R E : Hs} {d : D} {l : List Bool} (h : GrL s0 s R d l E) {z : VObj} {cs : List D} : GrL s0 ((s.push z).set s.next (some (.cells cs))) ((s.next, cs) :: R) d l E := by
 have h2 := h.mv (fr_box (z := z) (o := .cells cs))
 refine ⟨h.rp, h2.hp.addR1 (get_set_eq (by simp)) fun w hw heq => ?_, h.fr.trans fr_box (by simp), h.nw⟩
 have hw' : w ∈ E := by simpa using hw
 have := h.lt (List.mem_map_of_mem hw')
 omega
theorem ix_bB {d : D} {l : List Bool} {i : Nat} {k : IntKind} (h : FL 1 d (rowsB l)) (hi : i < l.length) : idxAV 1 d (.int k (i : Int)) = some (.fp [.bool (aB l i)] 0) := by rw [ix_b h hi]; rfl
theorem bB_ext {a b : List Bool} (h : a.length = b.length) (hz : ∀ j, j < a.length -> aB a j = aB b j) : a = b := List.ext_getElem h fun j h1 h2 => by
 rw [<- aB_get h1, <- aB_get h2]; exact hz j h1
theorem bAt_aB {l : List Bool} {i : Nat} : bAt l i = aB l i := rfl
attribute [go_sem] bAt_aB
theorem szL_succ {α : Type} {sz : α -> Nat} {l : List α} {i : Nat} (h : i < l.length) : szL sz (l.take (i + 1)) = szL sz (l.take i) + sz l[i] := by
 unfold szL
 rw [List.take_succ_eq_append_getElem h, List.map_append, List.sum_append]
 simp
theorem szL_le {α : Type} {sz : α -> Nat} {k : Nat} : ∀ (l : List α), (∀ x ∈ l, sz x <= k) -> szL sz l <= k * l.length
 | [], _ => by simp [szL]
 | x :: l, h => by
   have := szL_le l fun y hy => h y (by simp [hy])
   have := h x (by simp)
   simp only [szL, List.map_cons, List.sum_cons, List.length_cons, Nat.mul_succ] at *
   omega
theorem szP_succ {mo : Mo} {i : Nat} (h : i < mo.procs.length) : szL (fun p : Pr => wid (p.places : Int)) (mo.procs.take (i + 1)) = szL (fun p : Pr => wid (p.places : Int)) (mo.procs.take i) + wid ((pAt mo.procs i).places : Int) := by rw [szL_succ h, pAt_get h]
theorem szV_succ {mo : Mo} {i : Nat} (h : i < mo.vars.length) : szL (fun v : Vr => v.width.toNat) (mo.vars.take (i + 1)) = szL (fun v : Vr => v.width.toNat) (mo.vars.take i) + (vAt mo.vars i).width.toNat := by rw [szL_succ h, vAt_get h]
theorem szC_succ {mo : Mo} {i : Nat} (h : i < mo.chans.length) : szL (fun c : Ch => 2 + c.room.toNat * c.width.toNat) (mo.chans.take (i + 1)) = szL (fun c : Ch => 2 + c.room.toNat * c.width.toNat) (mo.chans.take i) + (2 + (chAt mo.chans i).room.toNat * (chAt mo.chans i).width.toNat) := by rw [szL_succ h, chAt_get h]
theorem szP_le {mo : Mo} (ho : MoOk mo) (i : Nat) : szL (fun p : Pr => wid (p.places : Int)) (mo.procs.take i) <= 64 := by
 refine Nat.le_trans (szL_le (k := 16) _ fun p _ => (wid_in _).2) ?_
 rw [List.length_take]; have := ho.np; omega
theorem szV_le {mo : Mo} (ho : MoOk mo) (hf : MoFi mo) (i : Nat) : szL (fun v : Vr => v.width.toNat) (mo.vars.take i) <= 64 := by
 refine Nat.le_trans (szL_le (k := 8) _ fun v hv => ?_) ?_
 ·have := hf.vr v (List.mem_of_mem_take hv); omega
 ·rw [List.length_take]; have := ho.nv; omega
theorem szC_le {mo : Mo} (ho : MoOk mo) (hf : MoFi mo) (i : Nat) : szL (fun c : Ch => 2 + c.room.toNat * c.width.toNat) (mo.chans.take i) <= 78 := by
 refine Nat.le_trans (szL_le (k := 26) _ fun c hc => ?_) ?_
 ·have hw := hf.ch c (List.mem_of_mem_take hc)
  have : c.room.toNat * c.width.toNat <= 3 * 8 := Nat.mul_le_mul (by omega) (by omega)
  omega
 ·rw [List.length_take]; have := ho.nc; omega
def Rdr (s : Store) (r : Nat) (l : List Bool) : Prop := ∃ d, s.get r = some (.cells [d]) /\ FL 1 d (rowsB l)
theorem rowsB_tk (l : List Bool) (n : Nat) : rowsB (l.take n) = (rowsB l).take n := by simp [rowsB, List.map_take]
theorem rowsB_dr (l : List Bool) (n : Nat) : rowsB (l.drop n) = (rowsB l).drop n := by simp [rowsB, List.map_drop]
theorem num_take {l : List Bool} {w : Nat} : num (aB (l.take w)) w = num (aB l) w := num_cong fun i hi => by
 unfold aB List.getD
 rw [List.getElem?_take]
 simp [hi]
theorem val_take {l : List Bool} {w : Nat} (h : 0 < w) : valZ (aB (l.take w)) w = valZ (aB l) w := valZ_cong h fun i hi => by
 unfold aB List.getD
 rw [List.getElem?_take]
 simp [hi]
theorem orI_num {n i : Nat} (h : n < 2 ^ i) (hi : i <= 16) : IntKind.i64.wrap (orI .i64 (n : Int) (2 ^ i)) = ((n + 2 ^ i : Nat) : Int) := by
 have hp : 2 ^ i <= 2 ^ 16 := Nat.pow_le_pow_right (by omega) hi
 have hc : ((2 ^ i : Nat) : Int) = 2 ^ i := by simp
 show IntKind.i64.wrap ((BitVec.ofInt IntKind.i64.bits (n : Int) ||| BitVec.ofInt IntKind.i64.bits (2 ^ i)).toNat : Int) = _
 have a1 : (BitVec.ofInt IntKind.i64.bits (n : Int)).toNat = n := by
  rw [BitVec.toNat_ofInt, show IntKind.i64.bits = 64 from rfl]; omega
 have a2 : (BitVec.ofInt IntKind.i64.bits (2 ^ i)).toNat = 2 ^ i := by
  rw [BitVec.toNat_ofInt, show IntKind.i64.bits = 64 from rfl, <- hc]; omega
 have e := Nat.two_pow_add_eq_or_of_lt h 1
 rw [Nat.mul_one] at e
 rw [BitVec.toNat_or, a1, a2, Nat.or_comm, <- e, i64_id (by omega) (by omega)]
 omega
theorem Hp.frI {s s' : Store} {W R : Hs} {ids : List Nat} (h : Hp s W R) (hf : Fr ids s s') (hn : ∀ w ∈ W ++ R, w.1 ∉ ids) : Hp s' W R :=
 ⟨h.nd, h.ap, fun w hw => by rw [hf.2 _ (get_lts (h.w w hw)) (hn w (by simp [hw])), h.w w hw], fun w hw => by rw [hf.2 _ (get_lts (h.r w hw)) (hn w (by simp [hw])), h.r w hw]⟩
structure GrZ (n0 : Nat) (s : Store) (R : Hs) (d : D) (l : List Int) (E : Hs) : Prop where
 rp : Rp d 1 (rowsZ l) E
 hp : Hp s E R
 nw : ∀ e ∈ E, n0 <= e.1
theorem GrZ.fr {n0 : Nat} {s s' : Store} {R E : Hs} {d : D} {l : List Int} {ids : List Nat} (h : GrZ n0 s R d l E) (hf : Fr ids s s') (h1 : ∀ i ∈ ids, i < n0) (h2 : ∀ x ∈ R, x.1 ∉ ids) : GrZ n0 s' R d l E :=
 ⟨h.rp, h.hp.frI hf fun w hw hi => by
  rcases List.mem_append.1 hw with hw | hw
  ·have := h.nw w hw
   have := h1 _ hi
   omega
  ·exact h2 w hw hi, h.nw⟩
theorem bm_grZ {n0 : Nat} {t rest env K s d b R E} {l : List Int} (h : GrZ n0 s R d l E) (hn : n0 <= s.next) (hl : l.length <= 1000000)
 (k : ∀ d' s' E', GrZ n0 s' R d' (l ++ [b]) E' -> s.next <= s'.next -> (∀ j, j < n0 -> s'.get j = s.get j) -> XQ fs [] rest ((t, d') :: env) s' K) : BM (appendV 1 8 d (.arr s.next 0 1 1) (s.push (.cells [.int .i64 b]))) fs t rest env K := by
 refine bm_app2 (A := []) (B := []) (row := [.int .i64 b]) h.rp (by simpa using h.hp) rfl (fun r hr => ?_) (by decide) (by simp; omega) fun s' h1 h2 h3 h4 => k _ s' [(s.next + 1, (rowsZ l ++ [[D.int .i64 b]]).flatten)] ⟨?_, ?_, ?_⟩ (by omega) fun j hj => h4 j (by omega) fun e he hc => ?_
 ·obtain ⟨x, _, rfl⟩ := List.mem_map.1 hr; rfl
 ·rw [show rowsZ (l ++ [b]) = rowsZ l ++ [[.int .i64 b]] by simp [rowsZ]]; exact h1
 ·exact h2
 ·intro e he
  simp only [List.mem_singleton] at he
  subst he; simp only; omega
 ·have := h.nw e he; omega
theorem decK_succ (w n k : Nat) (l : List Bool) : decK w n (k + 1) l = if k < n then ((decK w n k l).1 ++ [valZ (aB (decK w n k l).2.2) w], (decK w n k l).2.1, (decK w n k l).2.2.drop w) else ((decK w n k l).1, (decK w n k l).2.1 && decide (valZ (aB (decK w n k l).2.2) w = 0), (decK w n k l).2.2.drop w) := rfl
theorem decL_none {α β : Type} {d : α -> List Bool -> Option (β × List Bool)} : ∀ {l : List α} {bs : List Bool} {i : Nat}, decL d (l.take i) bs = none -> decL d l bs = none
 | [], bs, i, h => by simp at h; exact h
 | x :: l, bs, 0, h => by simp [decL] at h
 | x :: l, bs, i + 1, h => by
   simp only [List.take_succ_cons, decL] at h ⊢
   cases hx : d x bs with
   | none => rfl
   | some y =>
     rw [hx] at h
     simp only at h ⊢
     cases hy : decL d (l.take i) y.2 with
     | none => rw [decL_none hy]
     | some z => rw [hy] at h; cases h
theorem decL_step {α β : Type} {d : α -> List Bool -> Option (β × List Bool)} {l : List α} {bs : List Bool} {i : Nat} {o : List β} {r : List Bool} (hi : i < l.length) (h : decL d (l.take i) bs = some (o, r)) : decL d (l.take (i + 1)) bs = match d l[i] r with
 | some (b, r') => some (o ++ [b], r')
 | none => none := by
 rw [List.take_succ_eq_append_getElem hi, decL_snoc, h] <;> rfl
structure UnW (mcs : List D) (s : Store) (dA dV dC : D) (W : Hs) : Prop where
 hp : Hp s ((3, [dA, dV, dC, .int .i64 0]) :: (1, [.nils, .nils, .nils, .int .i64 0]) :: W) [(0, mcs)]
 nw : ∀ e ∈ W, 4 <= e.1
theorem UnW.lt {mcs : List D} {s : Store} {dA dV dC : D} {W : Hs} (h : UnW mcs s dA dV dC W) : 3 < s.next := get_lts (h.hp.w (3, [dA, dV, dC, .int .i64 0]) (by simp))
theorem UnW.fr {mcs : List D} {s s' : Store} {dA dV dC : D} {W : Hs} {ids : List Nat} (h : UnW mcs s dA dV dC W) (hf : Fr ids s s') (hi : ∀ i ∈ ids, i = 2) : UnW mcs s' dA dV dC W :=
 ⟨h.hp.frI hf fun w hw hn => by
  have := hi _ hn
  simp only [List.cons_append, List.mem_cons, List.mem_append, List.not_mem_nil, or_false] at hw
  rcases hw with rfl | rfl | hw | rfl
  ·simp at this
  ·simp at this
  ·have := h.nw w hw; omega
  ·simp at this, h.nw⟩
theorem Rdr.fr {s s' : Store} {l : List Bool} {r : Nat} (h : Rdr s r l) (hf : Fr [] s s') : Rdr s' r l := by
 obtain ⟨d, h1, h2⟩ := h
 exact ⟨d, by rw [hf.2 _ (get_lts h1) (by simp), h1], h2⟩
theorem szL_mono {α : Type} (sz : α -> Nat) (l : List α) (i : Nat) : szL sz (l.take i) <= szL sz l := by
 have : szL sz l = szL sz (l.take i) + szL sz (l.drop i) := by
  unfold szL
  rw [<- List.sum_append, <- List.map_append, List.take_append_drop]
 omega
theorem UnW.more {mcs : List D} {s : Store} {d dA dV dC : D} {A B E : Hs} {rows : List (List D)} (h : UnW mcs s dA dV dC (A ++ B)) (hE : Rp d 1 rows E) (hh : Has s E) (n : Nat) (hn : ∀ e ∈ E, n <= e.1) (h3 : 3 < n) (hw : ∀ w ∈ A ++ B, w.1 < n) : UnW mcs s dA dV dC (A ++ E ++ B) := by
 rcases hE with ⟨_, _, rfl⟩ | ⟨id, rfl, rfl, _⟩
 ·simpa using h
 ·have hid := hn _ (List.mem_singleton.2 rfl)
  simp only at hid
  have hp := h.hp.addW (id := id) (cs := rows.flatten) (hh (id, rows.flatten) (by simp)) (fun w hw' => by
   simp only [List.mem_cons] at hw'
   rcases hw' with rfl | rfl | hw'
   ·simp only; omega
   ·simp only; omega
   ·have := hw w hw'; omega) (fun r hr => by
   simp only [List.mem_singleton] at hr
   subst hr; simp only; omega)
  refine ⟨hp.perm ?_, fun e he => ?_⟩
  ·have e1 : (A ++ [(id, rows.flatten)] ++ B).Perm ((id, rows.flatten) :: (A ++ B)) := by
    rw [List.append_assoc]
    exact List.perm_middle
   exact ((e1.cons _).cons _).trans (((List.Perm.swap _ _ _).cons _).trans (List.Perm.swap _ _ _))
  ·simp only [List.mem_append, List.mem_singleton] at he
   rcases he with (he | rfl) | he
   ·exact h.nw e (by simp [he])
   ·simp only; omega
   ·exact h.nw e (by simp [he])
theorem cAt_snoc {l : List (List Int)} {x : List Int} {j : Nat} : cAt (l ++ [x]) j = if j = l.length then x else cAt l j := by
 unfold cAt List.getD
 by_cases h : j < l.length
 ·rw [List.getElem?_append_left h, if_neg (by omega)]
 ·by_cases h2 : j = l.length
  ·subst h2; simp
  ·rw [if_neg h2, List.getElem?_eq_none (by simp; omega), List.getElem?_eq_none (by omega)]
theorem dAt_snoc {l : List D} {x : D} {j : Nat} : dAt (l ++ [x]) j = if j = l.length then x else dAt l j := by
 unfold dAt List.getD
 by_cases h : j < l.length
 ·rw [List.getElem?_append_left h, if_neg (by omega)]
 ·by_cases h2 : j = l.length
  ·subst h2; simp
  ·rw [if_neg h2, List.getElem?_eq_none (by simp; omega), List.getElem?_eq_none (by omega)]
theorem rp_nil_or {d : D} {qs : List D} {E : Hs} (h : Rp d 1 (qs.map fun q => [q]) E) : qs = [] ∨ ∃ id, d = .arr id 0 qs.length 1 := by
 rcases h with ⟨_, h, _⟩ | ⟨id, h, _⟩
 ·exact .inl (by simpa using h)
 ·exact .inr ⟨id, by simpa using h⟩
theorem nbits_le {mo : Mo} (ho : MoOk mo) (hf : MoFi mo) : mo.nbits <= 300 := by
 have h1 := szP_le ho mo.procs.length
 have h2 := szV_le ho hf mo.vars.length
 have h3 := szC_le ho hf mo.chans.length
 rw [List.take_length] at h1 h2 h3
 unfold Mo.nbits
 omega
def repB (bs : List Bool) (n : Nat) : List Bool := (List.range n).map fun i => decide (0 < bs.length) && aB bs (i % bs.length)
@[simp] theorem repB_len (bs : List Bool) (n : Nat) : (repB bs n).length = n := by simp [repB]
theorem repB_succ (bs : List Bool) (n : Nat) : repB bs (n + 1) = repB bs n ++ [decide (0 < bs.length) && aB bs (n % bs.length)] := by simp [repB, List.range_succ]
end Go.V
namespace Go.Proofs.Ytlaeblilmppodaa
open Go.V
set_option maxRecDepth 100000
set_option maxHeartbeats 4000000
theorem bitsR_ok {x : Int} {w : Nat} (hx : -65536 <= x /\ x <= 65536) (hw : w <= 16) : IsoP vfs 63 [.int .i64 x, .int .i64 (w : Int)] fun d => FL 1 d (rowsB (bL x w)) := by
 refine yisop (vf := vf63) rfl ?_
 unfold vf63; refine zF ?_
 refine zY0 ?_
 refine yw_up [1, 4] 0 w (fun i f s => f 6 = .int .i64 (i : Int) /\ f 0 = .int .i64 (x / 2 ^ i) /\ ∃ E, GrB Store.empty s [] [] [] [] (f 5) (bL x i) E) (.mk rfl) (by omega) ⟨rfl, by rw [Int.pow_zero, Int.ediv_one]; rfl, [], ⟨.inl ⟨rfl, rfl, rfl⟩, ⟨List.nodup_nil, by simp, by simp [Has], by simp [Has]⟩, Fr.refl _ _, by simp⟩⟩ ?_
 rintro i f s hi ⟨hE, hE0, E, hg⟩
 have on := hg.rp.one
 have hd := div_in hx i
 by_cases ci : i < w
 ·have hs := half_step (x / 2 ^ i)
  have hb : bitZ x i = decide (x / 2 ^ i % 2 = 1) := rfl
  have hds := div_pow_succ x i
  generalize x / 2 ^ i = n at *
  rcases hs with ⟨a1, a2, a3⟩ | ⟨a1, a2, a3⟩ | ⟨a1, a2, a3⟩
  ·have hb : bitZ x i = false := by rw [hb]; simp; omega
   have e1 : IntKind.i64.wrap (n / 2) = n / 2 := i64_id (by omega) (by omega)
   refine zY (aN hE (aN hE0 (aN ci a1))) ?_
   refine bm_grB (b := false) hg (by simp; omega) ?_
   intro d' s' E' hg'
   refine zY (aN hE (aN hE0 (aN ci (aN a1 (aN a3 e1))))) ?_
   exact ⟨hds.symm, E', by rw [bL_succ, hb]; exact hg'⟩
  ·have hb : bitZ x i = true := by rw [hb]; simp; omega
   have e1 : IntKind.i64.wrap (n / 2) = n / 2 := i64_id (by omega) (by omega)
   refine zY (aN hE (aN hE0 (aN ci a1))) ?_
   refine bm_grB (b := true) hg (by simp; omega) ?_
   intro d' s' E' hg'
   refine zY (aN hE (aN hE0 (aN ci (aN a1 (aN a3 e1))))) ?_
   exact ⟨hds.symm, E', by rw [bL_succ, hb]; exact hg'⟩
  ·have hb : bitZ x i = true := by rw [hb]; simp; omega
   have e1 : IntKind.i64.wrap (n / 2) = n / 2 := i64_id (by omega) (by omega)
   have e2 : IntKind.i64.wrap (n - 1) = n - 1 := i64_id (by omega) (by omega)
   refine zY (aN hE (aN hE0 (aN ci a1))) ?_
   refine bm_grB (b := true) hg (by simp; omega) ?_
   intro d' s' E' hg'
   refine zY (aN hE (aN hE0 (aN ci (aN a1 (aN a3 (aN e1 e2)))))) ?_
   exact ⟨hds.symm, E', by rw [bL_succ, hb]; exact hg'⟩
 ·obtain rfl : i = w := by omega
  obtain ⟨d', h1, h2⟩ := hg.frz
  refine zY (aN hE (aN ci h1)) ?_
  exact ⟨_, rfl, h2⟩
end Go.Proofs.Ytlaeblilmppodaa
namespace Go.Proofs.Ytlaeblilmppodaa
open Go.V
set_option maxRecDepth 100000
set_option maxHeartbeats 4000000
variable {m : MdX} {mo : Mo} {ps : List (Pr × PrD)} {x : StD} {st : Stt}
end Go.Proofs.Ytlaeblilmppodaa
