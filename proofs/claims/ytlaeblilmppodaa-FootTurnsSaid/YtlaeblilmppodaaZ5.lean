/- Texts one behind the other. -/
import Derived.Test.YtlaeblilmppodaaZ4
import Derived.Test.YtlaeblilmppodaaZ3
import Derived.Test.YtlaeblilmppodaaVt
import Derived.Test.YtlaeblilmppodaaZ1
set_option linter.unusedSimpArgs false
set_option linter.unusedVariables false
namespace Go.V
structure PrF (p : Pr) (x : PrD) : Prop where
 l : FL 1 x.dl (rowsN p.locals)
 r : FL 1 x.dr (rowsB p.rest)
 e : FL 8 x.de (rowsE p.edges)
 n : FL 1 x.dn (rowsS p.names)
 v : FL 1 x.dv (rowsN p.vars)
structure MoF (m : MdX) (mo : Mo) (ps : List (Pr × PrD)) : Prop where
 tr : TreeAt m.dt mo.tree
 c : FL 5 m.dc (rowsC mo.chans)
 v : FL 3 m.dv (rowsV mo.vars)
 p : FL 8 m.dp (rowsP ps)
 eq : ps.map Prod.fst = mo.procs
 at' : ∀ q ∈ ps, PrF q.1 q.2
 sf : FL 1 m.ds (rowsN mo.safe)
 g : m.g = (mo.globals : Int)
 b : m.b = mo.dead
def mapL (f : D -> Option D) : List (List D) -> Option (List (List D))
 | [] => some []
 | r :: rs => match mapO f r, mapL f rs with
   | some a, some b => some (a :: b)
   | _, _ => none
theorem mapO_append {f : D -> Option D} : ∀ {a b a' b' : List D}, mapO f a = some a' -> mapO f b = some b' -> mapO f (a ++ b) = some (a' ++ b')
 | [], b, a', b', h1, h2 => by simp only [mapO, Option.some.injEq] at h1; subst h1; simpa using h2
 | d :: r, b, a', b', h1, h2 => by
   simp only [mapO] at h1
   split at h1
   ·rename_i x l e1 e2
    simp only [Option.some.injEq] at h1
    subst h1
    rw [List.cons_append, mapO, e1, mapO_append e2 h2]
    rfl
   ·cases h1
theorem mapO_len {f : D -> Option D} : ∀ {a a' : List D}, mapO f a = some a' -> a'.length = a.length
 | [], a', h => by simp only [mapO, Option.some.injEq] at h; subst h; rfl
 | d :: r, a', h => by
   simp only [mapO] at h
   split at h
   ·rename_i x l e1 e2
    simp only [Option.some.injEq] at h
    subst h
    simp [mapO_len e2]
   ·cases h
theorem mapL_flat {f : D -> Option D} : ∀ {rows rows' : List (List D)}, mapL f rows = some rows' -> mapO f rows.flatten = some rows'.flatten /\ rows'.length = rows.length
 | [], rows', h => by simp only [mapL, Option.some.injEq] at h; subst h; exact ⟨rfl, rfl⟩
 | r :: rs, rows', h => by
   simp only [mapL] at h
   split at h
   ·rename_i a b e1 e2
    simp only [Option.some.injEq] at h
    subst h
    obtain ⟨h1, h2⟩ := mapL_flat e2
    exact ⟨by simp only [List.flatten_cons]; exact mapO_append e1 h1, by simp [h2]⟩
   ·cases h
theorem mapL_len {f : D -> Option D} {sz : Nat} : ∀ {rows rows' : List (List D)}, mapL f rows = some rows' -> (∀ r ∈ rows, r.length = sz) -> ∀ r ∈ rows', r.length = sz
 | [], rows', h, _ => by simp only [mapL, Option.some.injEq] at h; subst h; simp
 | r :: rs, rows', h, hr => by
   simp only [mapL] at h
   split at h
   ·rename_i a b e1 e2
    simp only [Option.some.injEq] at h
    subst h
    intro y hy
    rcases List.mem_cons.1 hy with rfl | hy
    ·rw [mapO_len e1]; exact hr r (by simp)
    ·exact mapL_len e2 (fun x hx => hr x (by simp [hx])) y hy
   ·cases h
theorem chunk_flat {sz : Nat} : ∀ {rows : List (List D)}, (∀ r ∈ rows, r.length = sz) -> chunk sz rows.length rows.flatten = rows
 | [], _ => rfl
 | r :: rs, h => by
   have hr := h r (by simp)
   rw [List.length_cons, chunk, List.flatten_cons]
   rw [List.take_append_of_le_length (by omega), List.take_of_length_le (by omega), List.drop_append_of_le_length (by omega), List.drop_of_length_le (by omega), List.nil_append, chunk_flat fun x hx => h x (by simp [hx])]
theorem SN.frz {s : Store} {sz : Nat} {d : D} {rows rows' : List (List D)} {n : Nat} (h : SN s sz d rows) (hr : ∀ r ∈ rows, r.length = sz) (hm : mapL (ice s.get n) rows = some rows') (hl : d = .lst sz rows -> rows' = rows) : ∃ d', ice s.get (n + 1) d = some d' /\ FL sz d' rows' := by
 rcases h with ⟨rfl, rfl⟩ | ⟨id, rfl, hg⟩ | rfl
 ·simp only [mapL, Option.some.injEq] at hm
  exact ⟨.nils, rfl, .inl ⟨rfl, hm.symm⟩⟩
 ·have hrow := (SN.row (s := s) (.inr (.inl ⟨id, rfl, hg⟩)) hr).1
  obtain ⟨h1, h2⟩ := mapL_flat hm
  refine ⟨.lst sz rows', ?_, .inr rfl⟩
  simp only [ice, hrow, h1, Option.map_some]
  rw [<- h2, chunk_flat (mapL_len hm hr)]
 ·exact ⟨.lst sz rows, rfl, .inr (by rw [hl rfl])⟩
theorem mapL_scal {g : Look} {n : Nat} : ∀ {rows : List (List D)}, (∀ r ∈ rows, r.all scal1 = true) -> mapL (ice g (n + 1)) rows = some rows
 | [], _ => rfl
 | r :: rs, h => by
   rw [mapL, mapO_ice (h r (by simp)), mapL_scal fun x hx => h x (by simp [hx])]
theorem SN.frz1 {s : Store} {sz : Nat} {d : D} {rows : List (List D)} {n : Nat} (h : SN s sz d rows) (hr : ∀ r ∈ rows, r.length = sz) (hs : ∀ r ∈ rows, r.all scal1 = true) : ∃ d', ice s.get (n + 2) d = some d' /\ FL sz d' rows := h.frz hr (mapL_scal hs) fun _ => rfl
theorem rowsN_scal (l : List Nat) : ∀ r ∈ rowsN l, r.all scal1 = true := by intro r h; obtain ⟨b, _, rfl⟩ := List.mem_map.1 h; rfl
theorem rowsB_scal (l : List Bool) : ∀ r ∈ rowsB l, r.all scal1 = true := by intro r h; obtain ⟨b, _, rfl⟩ := List.mem_map.1 h; rfl
theorem rowsS_scal (l : List ByteArray) : ∀ r ∈ rowsS l, r.all scal1 = true := by intro r h; obtain ⟨b, _, rfl⟩ := List.mem_map.1 h; rfl
theorem rowsE_scal (l : List Ed) : ∀ r ∈ rowsE l, r.all scal1 = true := by intro r h; obtain ⟨b, _, rfl⟩ := List.mem_map.1 h; rfl
theorem rowsC_scal (l : List Ch) : ∀ r ∈ rowsC l, r.all scal1 = true := by intro r h; obtain ⟨b, _, rfl⟩ := List.mem_map.1 h; rfl
theorem rowsV_scal (l : List Vr) : ∀ r ∈ rowsV l, r.all scal1 = true := by intro r h; obtain ⟨b, _, rfl⟩ := List.mem_map.1 h; rfl
theorem PrAt.frz {s : Store} {p : Pr} {x : PrD} (h : PrAt s p x) (n : Nat) : ∃ x', mapO (ice s.get (n + 2)) (prRow p x) = some (prRow p x') /\ PrF p x' := by
 obtain ⟨dl, a1, b1⟩ := h.l.frz1 (n := n) (rowsN_len _) (rowsN_scal _)
 obtain ⟨dr, a2, b2⟩ := h.r.frz1 (n := n) (rowsB_len _) (rowsB_scal _)
 obtain ⟨de, a3, b3⟩ := h.e.frz1 (n := n) (rowsE_len _) (rowsE_scal _)
 obtain ⟨dn, a4, b4⟩ := h.n.frz1 (n := n) (rowsS_len _) (rowsS_scal _)
 obtain ⟨dv, a5, b5⟩ := h.v.frz1 (n := n) (rowsN_len _) (rowsN_scal _)
 refine ⟨⟨dl, dr, de, dn, dv⟩, ?_, b1, b2, b3, b4, b5⟩
 simp only [prRow, mapO, ice, a1, a2, a3, a4, a5]
theorem procs_frz {s : Store} (n : Nat) : ∀ {ps : List (Pr × PrD)}, (∀ q ∈ ps, PrAt s q.1 q.2) -> ∃ ps', mapL (ice s.get (n + 2)) (rowsP ps) = some (rowsP ps') /\ ps'.map Prod.fst = ps.map Prod.fst /\ ∀ q ∈ ps', PrF q.1 q.2
 | [], _ => ⟨[], rfl, rfl, by simp⟩
 | q :: qs, h => by
   obtain ⟨x', h1, h2⟩ := (h q (by simp)).frz n
   obtain ⟨ps', h3, h4, h5⟩ := procs_frz n (ps := qs) fun y hy => h y (by simp [hy])
   refine ⟨(q.1, x') :: ps', ?_, by simp [h4], ?_⟩
   ·simp only [rowsP, List.map_cons] at h3 ⊢
    simp only [mapL, h1, h3]
   ·intro y hy
    rcases List.mem_cons.1 hy with rfl | hy
    ·exact h2
    ·exact h5 y hy
theorem MoAt.frz {s : Store} {m : MdX} {mo : Mo} {ps : List (Pr × PrD)} (h : MoAt s m mo ps) (hn : m.dp ≠ .lst 8 (rowsP ps)) (b : Bool) : ∃ m' ps', ice s.get 20 (.tup [.agg (mdRow m), .bool b]) = some (.tup [.agg (mdRow m'), .bool b]) /\ MoF m' mo ps' := by
 obtain ⟨dc, a1, b1⟩ := h.c.frz1 (n := 16) (rowsC_len _) (rowsC_scal _)
 obtain ⟨dv, a2, b2⟩ := h.v.frz1 (n := 16) (rowsV_len _) (rowsV_scal _)
 obtain ⟨ds, a3, b3⟩ := h.sf.frz1 (n := 16) (rowsN_len _) (rowsN_scal _)
 obtain ⟨ps', h1, h2, h3⟩ := procs_frz 15 h.at'
 obtain ⟨dp, a4, b4⟩ := h.p.frz (n := 17) (rowsP_len _) h1 (fun e => (hn e).elim)
 have a5 : ice s.get 18 m.dt = some m.dt := h.tr.fl.ice
 refine ⟨⟨m.dt, dc, dv, dp, ds, m.g, m.b⟩, ps', ?_, ⟨h.tr, b1, b2, b4, h2.trans h.eq, h3, b3, h.g, h.b⟩⟩
 have e1 : ice s.get 18 (.int .i64 m.g) = some (.int .i64 m.g) := rfl
 have e2 : ice s.get 18 (.bool m.b) = some (.bool m.b) := rfl
 have e3 : mapO (ice s.get 18) (mdRow m) = some (mdRow ⟨m.dt, dc, dv, dp, ds, m.g, m.b⟩) := by
  simp only [mdRow, mapO, a5, e1, a1, a2, a4, a3, e2]
 have e4 : ice s.get 19 (.agg (mdRow m)) = some (.agg (mdRow ⟨m.dt, dc, dv, dp, ds, m.g, m.b⟩)) := by
  simp only [ice, e3, Option.map_some]
 have e5 : ice s.get 19 (.bool b) = some (.bool b) := rfl
 show (mapO (ice s.get 19) [.agg (mdRow m), .bool b]).map D.tup = _
 simp only [mapO, e4, e5, Option.map_some]
theorem MoF.fz {m : MdX} {mo : Mo} {ps : List (Pr × PrD)} (h : MoF m mo ps) : Fz (.agg (mdRow m)) := fz_agg fun d hd => by
 simp only [mdRow, List.mem_cons, List.not_mem_nil, or_false] at hd
 rcases hd with rfl | rfl | rfl | rfl | rfl | rfl | rfl
 ·exact FL.ic h.tr.fl
 ·exact fun _ _ => rfl
 ·exact FL.ic h.c
 ·exact FL.ic h.v
 ·exact FL.ic h.p
 ·exact FL.ic h.sf
 ·exact fun _ _ => rfl
theorem MoF.ones {m : MdX} {mo : Mo} {ps : List (Pr × PrD)} (h : MoF m mo ps) : oneCell m.dt = true /\ oneCell m.dc = true /\ oneCell m.dv = true /\ oneCell m.dp = true /\ oneCell m.ds = true := ⟨FL.one h.tr.fl, h.c.one, h.v.one, h.p.one, h.sf.one⟩
theorem PrF.ones {p : Pr} {x : PrD} (h : PrF p x) : oneCell x.dl = true /\ oneCell x.dr = true /\ oneCell x.de = true /\ oneCell x.dn = true /\ oneCell x.dv = true := ⟨h.l.one, h.r.one, h.e.one, h.n.one, h.v.one⟩
theorem PrF.fz {p : Pr} {x : PrD} (h : PrF p x) : Fz (.agg (prRow p x)) := fz_agg fun d hd => by
 simp only [prRow, List.mem_cons, List.not_mem_nil, or_false] at hd
 rcases hd with rfl | rfl | rfl | rfl | rfl | rfl | rfl | rfl
 ·exact fun _ _ => rfl
 ·exact fun _ _ => rfl
 ·exact FL.ic h.l
 ·exact fun _ _ => rfl
 ·exact FL.ic h.r
 ·exact FL.ic h.e
 ·exact FL.ic h.n
 ·exact FL.ic h.v
theorem MoF.plen {m : MdX} {mo : Mo} {ps : List (Pr × PrD)} (h : MoF m mo ps) : ps.length = mo.procs.length := by rw [<- h.eq, List.length_map]
theorem MoF.proc {m : MdX} {mo : Mo} {ps : List (Pr × PrD)} (h : MoF m mo ps) {i : Nat} (hi : i < mo.procs.length) : ∃ x, PrF mo.procs[i] x /\ ∀ k : IntKind, idxAV 8 m.dp (.int k (i : Int)) = some (.fp (prRow mo.procs[i] x) 0) := by
 have hi' : i < ps.length := by rw [h.plen]; exact hi
 have e : mo.procs[i] = ps[i].1 := by simp [<- h.eq]
 rw [e]
 refine ⟨ps[i].2, h.at' _ (List.getElem_mem hi'), fun k => ?_⟩
 rw [h.p.idx (by simpa using hi')]
 simp [rowsP]
theorem MoF.lenP {m : MdX} {mo : Mo} {ps : List (Pr × PrD)} (h : MoF m mo ps) : lenV false m.dp = some (.int .i64 (mo.procs.length : Int)) := by rw [h.p.len, rowsP_length, h.plen]
theorem MoF.lenC {m : MdX} {mo : Mo} {ps : List (Pr × PrD)} (h : MoF m mo ps) : lenV false m.dc = some (.int .i64 (mo.chans.length : Int)) := by rw [h.c.len, rowsC_length]
theorem FLN.idx {d : D} {l : List Nat} (h : FL 1 d (rowsN l)) {i : Nat} (hi : i < l.length) {k : IntKind} : idxAV 1 d (.int k (i : Int)) = some (.fp [.int .i64 (l[i] : Int)] 0) := by
 rw [h.idx (by simpa using hi)]; simp [rowsN]
theorem FLS.idx {d : D} {l : List ByteArray} (h : FL 1 d (rowsS l)) {i : Nat} (hi : i < l.length) {k : IntKind} : idxAV 1 d (.int k (i : Int)) = some (.fp [.str l[i]] 0) := by
 rw [h.idx (by simpa using hi)]; simp [rowsS]
theorem FLB.idx {d : D} {l : List Bool} (h : FL 1 d (rowsB l)) {i : Nat} (hi : i < l.length) {k : IntKind} : idxAV 1 d (.int k (i : Int)) = some (.fp [.bool l[i]] 0) := by
 rw [h.idx (by simpa using hi)]; simp [rowsB]
theorem FLE.idx {d : D} {l : List Ed} (h : FL 8 d (rowsE l)) {i : Nat} (hi : i < l.length) {k : IntKind} : idxAV 8 d (.int k (i : Int)) = some (.fp l[i].row 0) := by
 rw [h.idx (by simpa using hi)]; simp [rowsE]
theorem FLC.idx {d : D} {l : List Ch} (h : FL 5 d (rowsC l)) {i : Nat} (hi : i < l.length) {k : IntKind} : idxAV 5 d (.int k (i : Int)) = some (.fp l[i].row 0) := by
 rw [h.idx (by simpa using hi)]; simp [rowsC]
theorem FLV.idx {d : D} {l : List Vr} (h : FL 3 d (rowsV l)) {i : Nat} (hi : i < l.length) {k : IntKind} : idxAV 3 d (.int k (i : Int)) = some (.fp l[i].row 0) := by
 rw [h.idx (by simpa using hi)]; simp [rowsV]
theorem PrF.lenE {p : Pr} {x : PrD} (h : PrF p x) : lenV false x.de = some (.int .i64 (p.edges.length : Int)) := by rw [h.e.len, rowsE_length]
theorem PrF.lenN {p : Pr} {x : PrD} (h : PrF p x) : lenV false x.dn = some (.int .i64 (p.names.length : Int)) := by rw [h.n.len, rowsS_length]
end Go.V
namespace Go.V
def csum (t : List Nd) (kind : Int) : Nat -> Int
 | 0 => 0
 | i + 1 => csum t kind i + if (nd t i).kind = kind then stepF t kind i else 0
theorem csum_eq {t : List Nd} {kind : Int} : ∀ {n : Nat}, sumF t kind n < 100 -> sumF t kind n = csum t kind n
 | 0, _ => rfl
 | n + 1, h => by
   rw [csum]
   rw [sumF] at h ⊢
   by_cases c : (nd t n).kind = kind
   ·by_cases d : sumF t kind n < 100
    ·rw [if_pos ⟨d, c⟩, if_pos c, csum_eq d]
    ·rw [if_neg (by omega)] at h
     omega
   ·rw [if_neg (by omega)] at h ⊢
    rw [if_neg c, csum_eq h]
    omega
theorem sum_le {t : List Nd} {kind B : Int} (hB : 0 <= B) (h : ∀ i, i < t.length -> (nd t i).kind = kind -> sumF t kind (i + 1) <= B) : ∀ {n : Nat}, n <= t.length -> sumF t kind n <= B
 | 0, _ => by simpa [sumF] using hB
 | n + 1, hn => by
   by_cases c : (nd t n).kind = kind
   ·exact h n (by omega) c
   ·rw [sumF, if_neg (by omega)]
    exact sum_le hB h (by omega)
theorem total_le {t : List Nd} {kind B : Int} (hB : 0 <= B) (hB2 : B < 100) (h : ∀ i, i < t.length -> (nd t i).kind = kind -> sumF t kind (i + 1) <= B) : csum t kind t.length <= B := by
 have := sum_le hB h (Nat.le_refl t.length)
 rw [csum_eq (by omega)] at this
 exact this
def adds (t : List Nd) (kind : Int) (w : Nat -> Nat) (ks : List Int) : Int := (ks.map fun k => ((w k.toNat : Nat) : Int)).sum
theorem csum_items {t : List Nd} {kind : Int} {w : Nat -> Nat} : ∀ {ks : List Int} {a n : Nat}, Subs t ks a n -> (∀ (k b : Nat), (k : Int) ∈ ks -> Sub t k b -> csum t kind b = csum t kind k + ((w k : Nat) : Int)) -> csum t kind n = csum t kind a + adds t kind w ks
 | [], a, n, h, _ => by simp only [Subs] at h; subst h; simp [adds]
 | k :: ks, a, n, h, hw => by
   obtain ⟨rfl, b, h1, h2⟩ := h
   rw [csum_items h2 fun k b hk hs => hw k b (by simp [hk]) hs, hw a b (by simp) h1]
   simp only [adds, List.map_cons, List.sum_cons, Int.toNat_natCast]
   omega
theorem csum_none {t : List Nd} {kind : Int} {a : Nat} : ∀ {b : Nat}, a <= b -> (∀ j, a <= j -> j < b -> (nd t j).kind ≠ kind) -> csum t kind b = csum t kind a
 | 0, h, _ => by
   obtain rfl : a = 0 := by omega
   rfl
 | b + 1, h, hn => by
   by_cases e : a = b + 1
   ·subst e; rfl
   ·rw [csum, if_neg (hn b (by omega) (by omega)), csum_none (b := b) (by omega) fun j h1 h2 => hn j h1 (by omega)]
    omega
theorem loc_kids {t : List Nd} (h : RightT t) {g : Nat} : ∀ {ks : List Int} {a n : Nat}, KF t g ks a n -> n <= t.length -> ∀ l, l < ((ks.map Int.toNat).takeWhile fun k => (nd t k).kind == 2).length -> ∃ hl : l < ks.length, ks[l].toNat = a + l
 | [], a, n, _, _, l, hl => by simp at hl
 | z :: zs, a, n, hk, hn, l, hl => by
   obtain ⟨rfl, h1, b, h2, h3, h4, h5⟩ := hk.cons
   rw [List.map_cons, List.takeWhile_cons] at hl
   split at hl
   ·rename_i h2k
    have hk2 : (nd t a).kind = 2 := by simpa using h2k
    cases l with
    | zero => exact ⟨by simp, by simp⟩
    | succ l =>
      obtain ⟨g', rfl, hkk⟩ := walk_kf h2
      rw [(h.ok.node a h1).none (by omega)] at hkk
      obtain rfl := hkk.nil
      obtain ⟨i1, i2⟩ := loc_kids h h5 hn l (by simpa using hl)
      exact ⟨by simpa using i1, by simp only [List.getElem_cons_succ]; omega⟩
   ·simp at hl
theorem loc_at {t : List Nd} (h : RightT t) {k : Nat} (hk : k ∈ (nd t 0).ks) {l : Nat} (hl : l < locN t (nd t k)) : (nd t k).kid l = k + 1 + l := by
 obtain ⟨k1, k2, b, b1, b2, b3, b4⟩ := h.item hk
 obtain ⟨i1, i2⟩ := loc_kids h b4 b3 l hl
 rw [kid_get i1, i2]
theorem csum_var3 {t : List Nd} (h : RightT t) (hT : Typed t) {k b : Nat} (hk : k ∈ (nd t 0).ks) (h3 : (nd t k).kind = 3) (hs : Sub t k b) : csum t 2 b = csum t 2 k + ((((nd t k).num 0).toNat * locN t (nd t k) : Nat) : Int) := by
 have hc := copies_le h hT hk h3
 have hit := item_range h hk hs
 have hkl : k < t.length := by have := hs.lt; have := hs.le; omega
 have hp := loc_proc ((h.ok.node k hkl).proc h3)
 have hst : ∀ j, k <= j -> j < b -> stepF t 2 j = (nd t k).num 0 := fun j h1 h2 => by
  unfold stepF copiesF
  rw [if_neg (by decide), hit j h1 h2, if_pos h3]
  omega
 have hkb : ∀ l, l < locN t (nd t k) -> k + 1 + l < b /\ (nd t (k + 1 + l)).kind = 2 := fun l hl => by
  have hll := locN_le t (nd t k)
  have hl' : l < (nd t k).ks.length := by omega
  have e := locN_in hl hl'
  have e2 := loc_at h hk hl
  rw [ks_get hl', e2] at e
  have hm : k + 1 + l ∈ (nd t k).ks := by rw [<- e2]; exact kid_mem (by rw [<- ks_len]; exact hl')
  obtain ⟨z, hz, ez⟩ := List.mem_map.1 hm
  have := hs.down k (Nat.le_refl _) hs.lt z hz
  exact ⟨by omega, e⟩
 have pre : ∀ l, l <= locN t (nd t k) -> csum t 2 (k + 1 + l) = csum t 2 k + (nd t k).num 0 * (l : Int) := by
  intro l
  induction l with
  | zero =>
    intro _
    show csum t 2 (k + 1) = _
    rw [csum, if_neg (by omega)]
    simp
  | succ l ih =>
    intro hl
    have hb := hkb l (by omega)
    show csum t 2 (k + 1 + l + 1) = _
    rw [csum, if_pos hb.2, hst (k + 1 + l) (by omega) hb.1, ih (by omega), Int.natCast_succ, Int.mul_add]
    omega
 have hle : k + 1 + locN t (nd t k) <= b := by
  have := hs.lt
  rcases Nat.eq_zero_or_pos (locN t (nd t k)) with e | e
  ·omega
  ·have := hkb (locN t (nd t k) - 1) (by omega)
   omega
 rw [csum_none hle fun j j1 j2 e => ?_, pre _ (Nat.le_refl _)]
 ·rw [Int.natCast_mul, Int.toNat_of_nonneg (by omega)]
 ·have hjl : j < t.length := by have := hs.le; omega
  have hij := hit j (by omega) j2
  rcases var_kind h hjl e with v | ⟨p, p1, p2, p3⟩
  ·have := item_self h (ks_z h v)
   omega
  ·obtain ⟨q1, q2, c, c1, c2, c3, c4⟩ := h.item p1
   have hpm : j ∈ (nd t p).ks := List.mem_of_mem_take p3
   have hsp := (walk_ok 19 q2 c1).1
   obtain ⟨z, hz, ez⟩ := List.mem_map.1 hpm
   have hd := hsp.down p (Nat.le_refl _) hsp.lt z hz
   have := item_range h p1 hsp j (by omega) (by omega)
   obtain rfl : p = k := by omega
   obtain ⟨l, hl, e2⟩ := List.getElem_of_mem p3
   have hl' : l < locN t (nd t p) := by simp at hl; omega
   rw [List.getElem_take, ks_get (by simp at hl; omega), loc_at h p1 hl'] at e2
   omega
def varW (t : List Nd) (k : Nat) : Nat := if (nd t k).kind = 2 then 1 else if (nd t k).kind = 3 then ((nd t k).num 0).toNat * locN t (nd t k) else 0
theorem csum_var {t : List Nd} (h : RightT t) (hT : Typed t) {k b : Nat} (hk : k ∈ (nd t 0).ks) (hs : Sub t k b) : csum t 2 b = csum t 2 k + ((varW t k : Nat) : Int) := by
 unfold varW
 have hkl : k < t.length := by have := hs.lt; have := hs.le; omega
 by_cases c2 : (nd t k).kind = 2
 ·rw [if_pos c2]
  have hb : b = k + 1 := by
   have := hs.lt
   by_cases e : b = k + 1
   ·exact e
   ·obtain ⟨p, p1, p2, p3⟩ := hs.up (k + 1) (by omega) (by omega)
    have := hs.down p p1 p2 _ p3
    obtain rfl : p = k := by omega
    rw [(h.ok.node p hkl).none (by omega)] at p3
    simp at p3
  subst hb
  rw [csum, if_pos c2]
  unfold stepF copiesF
  rw [item_self h (ks_z h hk), if_neg (by decide), if_neg (by omega)]
  rfl
 rw [if_neg c2]
 by_cases c3 : (nd t k).kind = 3
 ·rw [if_pos c3]
  exact csum_var3 h hT hk c3 hs
 rw [if_neg c3]
 rw [csum_none (a := k) (by have := hs.lt; omega)]
 ·simp
 intro j j1 j2 e
 have hjl : j < t.length := by have := hs.le; omega
 have hij := item_range h hk hs j j1 j2
 rcases var_kind h hjl e with v | ⟨p, p1, p2, p3⟩
 ·have := item_self h (ks_z h v)
  obtain rfl : j = k := by omega
  exact c2 e
 ·obtain ⟨q1, q2, c, e1, e2, e3, e4⟩ := h.item p1
  have hpm : j ∈ (nd t p).ks := List.mem_of_mem_take p3
  have hsp := (walk_ok 19 q2 e1).1
  obtain ⟨z, hz, ez⟩ := List.mem_map.1 hpm
  have hd := hsp.down p (Nat.le_refl _) hsp.lt z hz
  have := item_range h p1 hsp j (by omega) (by omega)
  obtain rfl : p = k := by omega
  exact c3 p2
end Go.V
namespace Go.V
structure Org where
 k : Nat
 seen : Nat
 c : Nat
 nv : Nat
def pr1 (t : List Nd) (o : Org) : Pr :=
 ⟨(nd t o.k).word 0, o.c, (List.range (locN t (nd t o.k))).map (o.nv + ·), 2, [false, true], [], ((gat t).vs.take o.seen).map Vr.name ++ (locs t (nd t o.k)).map (fun y => y.word 0), List.range o.seen ++ (List.range (locN t (nd t o.k))).map (o.nv + ·)⟩
def proc1 (t : List Nd) (o : Org) : Pr := sevF (statF t (chs t) (t.length + 1)) o.k (pr1 t o) ((nd t o.k).ks.drop (locN t (nd t o.k))) 0 1
def orgC (t : List Nd) (k seen nv n : Nat) : List Org := (List.range n).map fun c => ⟨k, seen, c, nv + c * locN t (nd t k)⟩
structure Gc where
 seen : Nat
 nv : Nat
 l : List Org
def one3 (t : List Nd) (a : Gc) (k : Nat) : Gc :=
 if (nd t k).kind = 3 then ⟨a.seen, a.nv + ((nd t k).num 0).toNat * locN t (nd t k), a.l ++ orgC t k a.seen a.nv ((nd t k).num 0).toNat⟩
 else if (nd t k).kind = 2 then ⟨a.seen + 1, a.nv, a.l⟩ else a
def pass3 (t : List Nd) (l : List Nat) : Gc := l.foldl (one3 t) ⟨0, (gat t).vs.length, []⟩
def orgs (t : List Nd) : List Org := (pass3 t (nd t 0).ks).l
theorem procF_eq {t : List Nd} {k seen c nv : Nat} {vs : List Vr} (h1 : vs.length = nv) (h2 : vs.take seen = (gat t).vs.take seen) : procF t (chs t) k seen c vs = proc1 t ⟨k, seen, c, nv⟩ := by
 unfold procF proc1 pr0 pr1
 rw [h2, h1, locs_length]
theorem copyF_org {t : List Nd} {k seen nv : Nat} {a : List Vr × List Pr} (h1 : a.1.length = nv) (h2 : a.1.take seen = (gat t).vs.take seen) (h3 : seen <= a.1.length) : ∀ c, (copyF t (chs t) k seen c a).1.length = nv + c * locN t (nd t k) /\ (copyF t (chs t) k seen c a).2 = a.2 ++ (orgC t k seen nv c).map (proc1 t)
 | 0 => by simp [copyF, h1, orgC]
 | c + 1 => by
   obtain ⟨i1, i2⟩ := copyF_org (k := k) h1 h2 h3 c
   have h4 := (copyF_take (t := t) (ch := chs t) (k := k) (c := c) h3).1
   refine ⟨?_, ?_⟩
   ·simp only [copyF, List.length_append, List.length_map, locs_length, i1]
    rw [Nat.succ_mul]; omega
   ·simp only [copyF, i2]
    rw [procF_eq i1 (h4.trans h2)]
    simp [orgC, List.range_succ]
theorem pass3_snoc (t : List Nd) (l : List Nat) (k : Nat) : pass3 t (l ++ [k]) = one3 t (pass3 t l) k := by simp [pass3]
structure GcR (t : List Nd) (b : Gb) (a : Gc) : Prop where
 seen : b.seen = a.seen
 nv : b.vs.length = a.nv
 pre : ∃ m, b.vs = (gat t).vs ++ m
 ps : b.ps = a.l.map (proc1 t)
theorem pass3_eq (t : List Nd) : ∀ (n : Nat), n <= (nd t 0).ks.length -> GcR t (pass2 t (chs t) (gat t).vs ((nd t 0).ks.take n)) (pass3 t ((nd t 0).ks.take n))
 | 0, _ => ⟨rfl, rfl, ⟨[], by simp [pass2]⟩, rfl⟩
 | n + 1, hn => by
   have ih := pass3_eq t n (by omega)
   have htk := pass2_take t (chs t) n
   have e : (nd t 0).ks.take (n + 1) = (nd t 0).ks.take n ++ [(nd t 0).ks[n]] := List.take_succ_eq_append_getElem (by omega)
   obtain ⟨m2, hm2⟩ := pass2_pre t (chs t) (gat t).vs ((nd t 0).ks.take (n + 1))
   rw [e] at hm2 ⊢
   rw [pass2_snoc] at hm2 ⊢
   have e3 : pass3 t ((nd t 0).ks.take n ++ [(nd t 0).ks[n]]) = one3 t (pass3 t ((nd t 0).ks.take n)) (nd t 0).ks[n] := pass3_snoc t _ _
   rw [e3]
   generalize (nd t 0).ks[n] = k at *
   generalize pass2 t (chs t) (gat t).vs ((nd t 0).ks.take n) = b at *
   generalize pass3 t ((nd t 0).ks.take n) = a at *
   obtain ⟨m, hm⟩ := ih.pre
   unfold one2 one3 at *
   by_cases c3 : (nd t k).kind = 3
   ·rw [if_pos c3] at hm2
    rw [if_pos c3, if_pos c3]
    have hs : b.vs.take b.seen = (gat t).vs.take b.seen := by rw [hm, List.take_append_of_le_length htk.2.2]
    obtain ⟨i1, i2⟩ := copyF_org (t := t) (k := k) (seen := b.seen) (nv := a.nv) (a := (b.vs, b.ps)) ih.nv hs htk.2.1 ((nd t k).num 0).toNat
    refine ⟨ih.seen, i1, ⟨m2, hm2⟩, ?_⟩
    show (copyF t (chs t) k b.seen ((nd t k).num 0).toNat (b.vs, b.ps)).2 = _
    rw [i2, List.map_append, <- ih.ps, ih.seen]
   ·rw [if_neg c3, if_neg c3]
    by_cases c2 : (nd t k).kind = 2
    ·rw [if_pos c2, if_pos c2]
     exact ⟨by simp [ih.seen], ih.nv, ih.pre, ih.ps⟩
    ·rw [if_neg c2, if_neg c2]
     exact ih
theorem orgs_eq (t : List Nd) : (gbt t).ps = (orgs t).map (proc1 t) /\ (gbt t).vs.length = (pass3 t (nd t 0).ks).nv := by
 have h := pass3_eq t (nd t 0).ks.length (Nat.le_refl _)
 rw [List.take_length] at h
 exact ⟨h.ps, h.nv⟩
structure OrgOk (t : List Nd) (nv : Nat) (o : Org) : Prop where
 at' : ∃ i, ∃ hi : i < (nd t 0).ks.length, (nd t 0).ks[i] = o.k /\ o.seen = (pass1 t ((nd t 0).ks.take i)).vs.length
 kind : (nd t o.k).kind = 3
 c : (o.c : Int) < (nd t o.k).num 0
 lo : (gat t).vs.length <= o.nv
 hi : o.nv + locN t (nd t o.k) <= nv
theorem orgs_ok (t : List Nd) : ∀ n, n <= (nd t 0).ks.length -> (gat t).vs.length <= (pass3 t ((nd t 0).ks.take n)).nv /\ (pass3 t ((nd t 0).ks.take n)).seen = (pass1 t ((nd t 0).ks.take n)).vs.length /\ ∀ o ∈ (pass3 t ((nd t 0).ks.take n)).l, OrgOk t (pass3 t ((nd t 0).ks.take n)).nv o
 | 0, _ => by simp [pass3, pass1]
 | n + 1, hn => by
   obtain ⟨i1, i2, i3⟩ := orgs_ok t n (by omega)
   have hs := pass3_eq t (n + 1) hn
   have hs1 := hs.seen
   rw [seen_eq] at hs1
   refine ⟨?_, hs1.symm, ?_⟩
   ·obtain ⟨m, hm⟩ := hs.pre
    have := hs.nv
    rw [hm, List.length_append] at this
    omega
   ·rw [List.take_succ_eq_append_getElem (by omega), pass3_snoc]
    intro o ho
    unfold one3 at ho ⊢
    by_cases c3 : (nd t (nd t 0).ks[n]).kind = 3
    ·rw [if_pos c3] at ho ⊢
     rcases List.mem_append.1 ho with ho | ho
     ·have := i3 o ho
      exact ⟨this.at', this.kind, this.c, this.lo, by have := this.hi; simp only; omega⟩
     ·obtain ⟨c, hc, rfl⟩ := List.mem_map.1 ho
      rw [List.mem_range] at hc
      refine ⟨⟨n, by omega, rfl, i2⟩, c3, by simp only; omega, by simp only; omega, ?_⟩
      simp only
      have : (c + 1) * locN t (nd t (nd t 0).ks[n]) <= ((nd t (nd t 0).ks[n]).num 0).toNat * locN t (nd t (nd t 0).ks[n]) := Nat.mul_le_mul_right _ (by omega)
      rw [Nat.succ_mul] at this
      omega
    ·rw [if_neg c3] at ho ⊢
     have key : ∀ (g : Gc), g.nv = (pass3 t ((nd t 0).ks.take n)).nv -> g.l = (pass3 t ((nd t 0).ks.take n)).l -> o ∈ g.l -> OrgOk t g.nv o := fun g e1 e2 h => by
      rw [e1]; rw [e2] at h; exact i3 o h
     split at ho
     ·rename_i h2; rw [if_pos h2]; exact key _ rfl rfl ho
     ·rename_i h2; rw [if_neg h2]; exact key _ rfl rfl ho
theorem org_ok {t : List Nd} {o : Org} (ho : o ∈ orgs t) : OrgOk t (gbt t).vs.length o := by
 have := (orgs_ok t (nd t 0).ks.length (Nat.le_refl _)).2.2
 rw [List.take_length] at this
 rw [(orgs_eq t).2]
 exact this o ho
def procW (t : List Nd) (k : Nat) : Nat := if (nd t k).kind = 3 then ((nd t k).num 0).toNat else 0
theorem pass3_len (t : List Nd) (l : List Nat) : (pass3 t l).nv = (gat t).vs.length + (l.map fun k => if (nd t k).kind = 3 then ((nd t k).num 0).toNat * locN t (nd t k) else 0).sum /\ (pass3 t l).l.length = (l.map (procW t)).sum := by
 have key : ∀ (l : List Nat) (a : Gc), (l.foldl (one3 t) a).nv = a.nv + (l.map fun k => if (nd t k).kind = 3 then ((nd t k).num 0).toNat * locN t (nd t k) else 0).sum /\ (l.foldl (one3 t) a).l.length = a.l.length + (l.map (procW t)).sum := by
  intro l
  induction l with
  | nil => intro a; simp
  | cons k l ih =>
    intro a
    rw [List.foldl_cons, (ih _).1, (ih _).2]
    unfold one3
    simp only [List.map_cons, List.sum_cons, procW]
    by_cases c3 : (nd t k).kind = 3
    ·simp only [c3, if_true, List.length_append, orgC, List.length_map, List.length_range]
     omega
    ·rw [if_neg c3, if_neg c3, if_neg c3]
     split <;> simp
 have := key l ⟨0, (gat t).vs.length, []⟩
 simpa [pass3] using this
theorem adds_eq (t : List Nd) (kind : Int) (w : Nat -> Nat) (ks : List Int) : adds t kind w ks = ((((ks.map Int.toNat).map w).sum : Nat) : Int) := by
 unfold adds
 induction ks with
 | nil => rfl
 | cons k ks ih =>
   simp only [List.map_cons, List.sum_cons, ih]
   omega
theorem csum_root {t : List Nd} (h : RightT t) {kind : Int} (hk : kind ≠ 0) : csum t kind 1 = 0 := by
 show csum t kind 0 + _ = 0
 rw [if_neg (by rw [h.ok.root]; omega)]
 rfl
theorem csum_item {t : List Nd} (h : RightT t) {kind : Int} (hkd : kind = 1 ∨ kind = 3) {k b : Nat} (hk : k ∈ (nd t 0).ks) (hs : Sub t k b) : csum t kind b = csum t kind k + if (nd t k).kind = kind then stepF t kind k else 0 := by
 have hl := hs.lt
 have hle := hs.le
 rw [csum_none (a := k + 1) (by omega)]
 ·rfl
 intro j j1 j2 e
 have hj := item_kind h (j := j) (by omega) (by omega)
 have h1 := item_self h (ks_z h hj)
 have h2 := item_range h hk hs j (by omega) j2
 omega
theorem greatV {t : List Nd} (h : RightT t) (hT : Typed t) : (gbt t).vs.length <= 8 := by
 have h1 := total_le (t := t) (kind := 2) (B := 8) (by decide) (by decide) fun i hi hk => ((hT.fine i hi).var hk).2.2.2
 rw [csum_items (w := varW t) h.subs fun k b hk hs => csum_var h hT (mem_ks hk) hs, csum_root h (by decide), adds_eq] at h1
 rw [(orgs_eq t).2, (pass3_len t _).1]
 have e : (gat t).vs.length = ((nd t 0).ks.map fun k => if (nd t k).kind = 2 then 1 else 0).sum := by
  unfold gat
  rw [pass1_eq]
  simp only [List.length_map]
  generalize (nd t 0).ks = l
  induction l with
  | nil => rfl
  | cons k l ih =>
    by_cases c : (nd t k).kind = 2
    ·rw [List.filter_cons_of_pos (by simpa using c)]; simp only [List.length_cons, ih, List.map_cons, List.sum_cons, c, if_true]; omega
    ·rw [List.filter_cons_of_neg (by simpa using c)]; simp only [ih, List.map_cons, List.sum_cons, c, if_false]; omega
 have e2 : ((nd t 0).ks.map (varW t)).sum = ((nd t 0).ks.map fun k => if (nd t k).kind = 2 then 1 else 0).sum + ((nd t 0).ks.map fun k => if (nd t k).kind = 3 then ((nd t k).num 0).toNat * locN t (nd t k) else 0).sum := by
  generalize (nd t 0).ks = l
  induction l with
  | nil => rfl
  | cons k l ih =>
    simp only [List.map_cons, List.sum_cons, ih, varW]
    by_cases c : (nd t k).kind = 2
    ·have c3 : (nd t k).kind ≠ 3 := by omega
     simp only [c, if_true]
     rw [if_neg (by decide)]
     omega
    ·simp only [c, if_false]; omega
 have h1 : ((((nd t 0).ks.map (varW t)).sum : Nat) : Int) <= 8 := by
  have e0 : (nd t 0).ks = (nd t 0).kids.map Int.toNat := rfl
  rw [e0]; omega
 rw [e]; omega
theorem greatP {t : List Nd} (h : RightT t) (hT : Typed t) : (gbt t).ps.length <= 4 := by
 have h1 := total_le (t := t) (kind := 3) (B := 4) (by decide) (by decide) fun i hi hk => ((hT.fine i hi).proc hk).2
 rw [csum_items (w := procW t) h.subs (fun k b hk hs => by
  rw [csum_item h (.inr rfl) (mem_ks hk) hs]
  unfold procW
  by_cases c : (nd t k).kind = 3
  ·have hc := copies_le h hT (mem_ks hk) c
   rw [if_pos c, if_pos c]
   unfold stepF copiesF
   rw [item_self h hk, if_neg (by decide), if_pos c]
   omega
  ·rw [if_neg c, if_neg c]; rfl), csum_root h (by decide), adds_eq] at h1
 rw [(orgs_eq t).1, List.length_map]
 unfold orgs
 rw [(pass3_len t _).2]
 have e0 : (nd t 0).ks = (nd t 0).kids.map Int.toNat := rfl
 rw [e0]; omega
theorem greatC {t : List Nd} (h : RightT t) (hT : Typed t) : (gat t).ch.length <= 3 := by
 have h1 := total_le (t := t) (kind := 1) (B := 3) (by decide) (by decide) fun i hi hk => ((hT.fine i hi).chan hk).2.2.2.2
 rw [csum_items (w := fun k => if (nd t k).kind = 1 then 1 else 0) h.subs (fun k b hk hs => by
  rw [csum_item h (.inl rfl) (mem_ks hk) hs]
  by_cases c : (nd t k).kind = 1
  ·rw [if_pos c, if_pos c]; rfl
  ·rw [if_neg c, if_neg c]; rfl), csum_root h (by decide), adds_eq] at h1
 have e0 : (nd t 0).ks = (nd t 0).kids.map Int.toNat := rfl
 rw [<- e0] at h1
 unfold gat
 rw [pass1_eq]
 simp only [List.length_map]
 have e : ((nd t 0).ks.filter fun k => (nd t k).kind == 1).length = ((nd t 0).ks.map fun k => if (nd t k).kind = 1 then 1 else 0).sum := by
  generalize (nd t 0).ks = l
  induction l with
  | nil => rfl
  | cons k l ih =>
    by_cases c : (nd t k).kind = 1
    ·rw [List.filter_cons_of_pos (by simpa using c)]; simp only [List.length_cons, ih, List.map_cons, List.sum_cons, c, if_true]; omega
    ·rw [List.filter_cons_of_neg (by simpa using c)]; simp only [ih, List.map_cons, List.sum_cons, c, if_false]; omega
 rw [e]; omega
end Go.V
namespace Go.V
structure PrOk (mo : Mo) (p : Pr) : Prop where
 inv : PInv mo.tree mo.chans.length p
 same : p.names.length = p.vars.length
 var : ∀ v ∈ p.vars, v < mo.vars.length
 loc : ∀ v ∈ p.locals, v ∈ p.vars /\ mo.globals <= v
 pl : p.places <= 4000
 el : p.edges.length <= 4000
 nl : p.names.length <= mo.vars.length
structure MoOk (mo : Mo) : Prop where
 tree : TreeOk mo.tree
 nv : mo.vars.length <= 8
 np : mo.procs.length <= 4
 nc : mo.chans.length <= 3
 gl : mo.globals <= mo.vars.length
 pr : ∀ p ∈ mo.procs, PrOk mo p
 sf : ∀ k ∈ mo.safe, k < mo.tree.length /\ exprK (nd mo.tree k).kind
 sl : mo.safe.length <= 800
theorem gbt_pre (t : List Nd) : ∃ m, (gbt t).vs = (gat t).vs ++ m := pass2_pre t (chs t) (gat t).vs (nd t 0).ks
theorem pr1_pr0 {t : List Nd} {o : Org} (ho : o ∈ orgs t) : ∃ vs : List Vr, vs.length = o.nv /\ vs.take o.seen = (gat t).vs.take o.seen /\ o.seen <= (gat t).vs.length /\ pr1 t o = pr0 (nd t o.k) o.c o.seen vs (locs t (nd t o.k)) := by
 have h := org_ok ho
 obtain ⟨m, hm⟩ := gbt_pre t
 have hlo := h.lo
 have hhi := h.hi
 have hseen : o.seen <= (gat t).vs.length := by
  obtain ⟨i, hi, _, e⟩ := h.at'
  have := pass1_mono t ((nd t 0).ks.take i) ((nd t 0).ks.drop i)
  rw [List.take_append_drop, <- e] at this
  exact this
 have e1 : ((gbt t).vs.take o.nv).length = o.nv := by rw [List.length_take]; omega
 have e2 : ((gbt t).vs.take o.nv).take o.seen = (gat t).vs.take o.seen := by
  rw [List.take_take, Nat.min_eq_left (by omega), hm, List.take_append_of_le_length hseen]
 refine ⟨_, e1, e2, hseen, ?_⟩
 unfold pr0 pr1
 rw [e2, e1, locs_length]
theorem org_sight {t : List Nd} (h : RightT t) (hS : Scoped t) {o : Org} (ho : o ∈ orgs t) : ∃ b, walkF t 19 o.k = (b, true) /\ Sub t o.k b /\ o.k < t.length /\ KF t 18 (nd t o.k).kids (o.k + 1) b /\ ∀ j, o.k <= j /\ j < b -> Sight t (gat t).ch.length (chs t) (pr1 t o).names (pr1 t o).vars j := by
 have hok := org_ok ho
 obtain ⟨i, hi, e, hseen⟩ := hok.at'
 have hkm : o.k ∈ (nd t 0).ks := e ▸ List.getElem_mem hi
 obtain ⟨k1, k2, b, b1, b2, b3, b4⟩ := h.item hkm
 have hsub := (walk_ok 19 k2 b1).1
 obtain ⟨vs, v1, v2, v3, v4⟩ := pr1_pr0 ho
 have hv : vs.take o.seen = (pass1 t ((nd t 0).ks.take i)).vs := by
  rw [v2]
  obtain ⟨r, hr⟩ := pass1_pre t ((nd t 0).ks.take i) ((nd t 0).ks.drop i)
  rw [List.take_append_drop] at hr
  have hg : (gat t).vs = (pass1 t ((nd t 0).ks.take i)).vs ++ r := hr
  rw [hg, hseen, List.take_left]
 refine ⟨b, b1, hsub, k2, b4, ?_⟩
 rw [v4]
 have := hok.lo
 exact sight_ok h hS hi e hok.kind hsub hv (by omega)
theorem org_kids {t : List Nd} (h : RightT t) (hS : Scoped t) {o : Org} (ho : o ∈ orgs t) : ∀ k ∈ (nd t o.k).ks.drop (locN t (nd t o.k)), StOk t (gat t).ch.length (pr1 t o).names (pr1 t o).vars (statF t (chs t) (t.length + 1)) k /\ StG t (statF t (chs t) (t.length + 1)) k := by
 obtain ⟨b, b1, hsub, k2, _, hsg⟩ := org_sight h hS ho
 have hok := org_ok ho
 have hpc := loc_proc ((h.ok.node o.k k2).proc hok.kind)
 have hclo : ∀ j, j < t.length -> (o.k <= j /\ j < b) -> ∀ k ∈ (nd t j).ks, o.k <= k /\ k < b := fun j _ hj k hk => by
  obtain ⟨z, hz, rfl⟩ := List.mem_map.1 hk
  have := hsub.down j hj.1 hj.2 z hz
  omega
 intro k hk
 have hst := hpc.1 k hk
 have hkm := List.mem_of_mem_drop hk
 have hkk := h.ok.ks k2 k hkm
 have hPk := hclo o.k k2 ⟨Nat.le_refl _, hsub.lt⟩ k hkm
 exact ⟨stat_ok h.ok hclo hsg (t.length + 1) k hkk.2 hPk hst (by omega), stat_gw h.ok _ (t.length + 1) k hkk.2 hst (by omega)⟩
theorem proc_inv {t : List Nd} (h : RightT t) (hS : Scoped t) {o : Org} (ho : o ∈ orgs t) : PInv t (gat t).ch.length (proc1 t o) /\ PGrow (pr1 t o) (proc1 t o) := by
 have := org_kids h hS ho
 exact sev_ok (fun k hk => (this k hk).1) ⟨by simp [pr1], by simp [pr1], by simp [pr1]⟩ rfl rfl (by simp [pr1]) (by simp [pr1])
theorem proc_gw {t : List Nd} (h : RightT t) (hS : Scoped t) {o : Org} (ho : o ∈ orgs t) : Gw (pr1 t o) (proc1 t o) 3300 := by
 have hk := org_kids h hS ho
 obtain ⟨b, b1, hsub, k2, hkf, _⟩ := org_sight h hS ho
 obtain ⟨b', hb1, hkf'⟩ := hkf.drop (locN t (nd t o.k))
 have := sev_gw (node := o.k) (p := pr1 t o) (frm := 0) (to := 1) hkf' (st := statF t (chs t) (t.length + 1)) (fun k hm => (hk k (by rw [List.map_drop] at hm; exact hm)).2)
 rw [List.map_drop] at this
 have hle := hsub.le
 have := h.ok.le
 exact Gw.le ‹_› (by omega)
theorem model_ok {t : List Nd} (h : RightT t) (hS : Scoped t) (hT : Typed t) : MoOk (modelOf t) := by
 have hg : (gat t).vs.length <= (gbt t).vs.length := by
  obtain ⟨m, hm⟩ := gbt_pre t
  rw [hm, List.length_append]; omega
 refine ⟨h.ok, greatV h hT, greatP h hT, greatC h hT, hg, fun p hp => ?_, fun k hk => ?_, ?_⟩
 ·have hp : p ∈ (gbt t).ps := hp
  rw [(orgs_eq t).1] at hp
  obtain ⟨o, ho, rfl⟩ := List.mem_map.1 hp
  have hok := org_ok ho
  obtain ⟨i1, g⟩ := proc_inv h hS ho
  have hw := proc_gw h hS ho
  obtain ⟨vs, v1, v2, v3, v4⟩ := pr1_pr0 ho
  have hhi := hok.hi
  have hlo := hok.lo
  refine ⟨i1, ?_, ?_, ?_, ?_, ?_, ?_⟩
  ·rw [g.names, g.vars]
   simp only [pr1, List.length_append, List.length_map, List.length_take, locs_length, List.length_range]
   omega
  ·rw [g.vars]
   intro v hv
   show v < (gbt t).vs.length
   simp only [pr1, List.mem_append, List.mem_range, List.mem_map] at hv
   rcases hv with hv | ⟨l, hl, rfl⟩ <;> omega
  ·rw [g.vars, g.locals]
   intro v hv
   simp only [pr1, List.mem_append, List.mem_range, List.mem_map] at hv ⊢
   obtain ⟨l, hl, rfl⟩ := hv
   exact ⟨.inr ⟨l, hl, rfl⟩, by show (gat t).vs.length <= _; omega⟩
  ·have := hw.pl; simp only [pr1] at this; omega
  ·have := hw.el; simp only [pr1, List.length_nil] at this; omega
  ·rw [g.names]
   show _ <= (gbt t).vs.length
   simp only [pr1, List.length_append, List.length_map, List.length_take, locs_length]
   omega
 ·have hk : k ∈ (gat t).sf := hk
  unfold gat at hk
  rw [pass1_eq] at hk
  simp only [List.mem_map, List.mem_filter, beq_iff_eq] at hk
  obtain ⟨j, ⟨j1, j2⟩, rfl⟩ := hk
  obtain ⟨q1, q2, _⟩ := h.item j1
  have h1 := (h.ok.node j q2).one (.inl j2)
  exact ⟨(h.ok.ks q2 _ (kid_mem (by omega))).2, h1.2⟩
 ·have h1 := (pass1_le t (nd t 0).ks).2.2
  have h2 := h.subs.length
  have h3 := h.ok.le
  rw [ks_len] at h1
  show (gat t).sf.length <= 800
  unfold gat
  omega
end Go.V
namespace Go.V
theorem tup_fz {g : Look} {a : D} (h : Fz a) (b : Bool) : ice g 20 (.tup [a, .bool b]) = some (.tup [a, .bool b]) := by
 show (mapO (ice g 19) [a, .bool b]).map D.tup = _
 have e : ice g 19 (.bool b) = some (.bool b) := rfl
 simp only [mapO, h g 16, e, Option.map_some]
theorem pow32 {n : Nat} (h : n < 32) : 2 ^ n < 4294967296 := Nat.lt_of_lt_of_eq (Nat.pow_lt_pow_right (a := 2) (by decide) h) (by decide)
theorem shl32 {n : Nat} (h : n < 32) : shiftInt .shl .u32 1 (n : Int) = some (.int .u32 ((2 ^ n : Nat) : Int)) := by
 unfold shiftInt
 rw [if_neg (by omega)]
 simp only [Int.toNat_natCast]
 have e : min n IntKind.u32.bits = n := by rw [show IntKind.u32.bits = 32 from rfl]; omega
 rw [e, Int.one_mul, show (2 : Int) ^ n = ((2 ^ n : Nat) : Int) by rw [Int.natCast_pow]; rfl, s32_id (pow32 h)]
def bitN (n : Int) : Nat := if n < 0 then 0 else 2 ^ n.toNat
theorem bitN_lt {n : Int} (h : n < 32) : bitN n < 4294967296 := by
 unfold bitN
 split
 ·decide
 ·exact pow32 (by omega)
theorem bitN_nat (n : Nat) : bitN (n : Int) = 2 ^ n := by unfold bitN; rw [if_neg (by omega), Int.toNat_natCast]
def idxB (l : List ByteArray) (w : ByteArray) : Nat := l.findIdx fun x => decide (x = w)
def varB (names : List ByteArray) (vars : List Nat) (w : ByteArray) : Nat := if idxB names w < names.length then 2 ^ (vars.getD (idxB names w) 0) else 0
def chB (ch : List ByteArray) (w : ByteArray) : Nat := if idxB ch w < ch.length then 2 ^ (idxB ch w) else 0
theorem idxB_at {l : List ByteArray} {w : ByteArray} {i : Nat} (hi : i < l.length) (h1 : l[i] = w) (h2 : ∀ j (hj : j < l.length), j < i -> l[j] ≠ w) : idxB l w = i := by
 unfold idxB
 rw [List.findIdx_eq hi]
 refine ⟨by simpa using h1, fun j hj => ?_⟩
 simpa using h2 j (by omega) hj
theorem idxB_none {l : List ByteArray} {w : ByteArray} (h : ∀ j (hj : j < l.length), l[j] ≠ w) : ¬ idxB l w < l.length := by
 unfold idxB
 intro hc
 have := List.findIdx_getElem (w := hc)
 simp only [decide_eq_true_eq] at this
 exact h _ _ this
def read1 (ch : List ByteArray) (vb : ByteArray -> Nat) (x : Nd) (f : Ft) : Ft :=
 if x.kind = 18 then { f with reads := f.reads ||| vb (x.word 0) }
 else if x.kind = 19 then { f with sizes := f.sizes ||| chB ch (x.word 0) }
 else if x.kind = 22 /\ (x.num 0 = 7 ∨ x.num 0 = 8) then { f with part := true } else f
def readF (t : List Nd) (ch : List ByteArray) (vb : ByteArray -> Nat) : Nat -> Nat -> Ft -> Ft
 | 0, _, f => f
 | n + 1, k, f => (nd t k).ks.foldl (fun f c => readF t ch vb n c f) (read1 ch vb (nd t k) f)
theorem chB_lt {ch : List ByteArray} (h : ch.length <= 3) (w : ByteArray) : chB ch w < 4294967296 := by
 unfold chB
 split
 ·exact pow32 (by omega)
 ·decide
theorem read1_ok {ch : List ByteArray} {vb : ByteArray -> Nat} {x : Nd} {f : Ft} (hf : f.Ok) (hc : ch.length <= 3) (hv : ∀ w, vb w < 4294967296) : (read1 ch vb x f).Ok := by
 unfold read1
 split
 ·exact ⟨or_lt hf.r (hv _), hf.w, hf.s, hf.v, hf.z⟩
 ·split
  ·exact ⟨hf.r, hf.w, hf.s, hf.v, or_lt hf.z (chB_lt hc _)⟩
  ·split
   ·exact ⟨hf.r, hf.w, hf.s, hf.v, hf.z⟩
   ·exact hf
def edgeF (mo : Mo) (p : Pr) (e : Ed) : Ft :=
 let f := if 0 <= e.expr then readF mo.tree (mo.chans.map Ch.name) (varB p.names p.vars) (mo.tree.length + 1) e.expr.toNat ⟨0, 0, 0, 0, 0, false⟩ else ⟨0, 0, 0, 0, 0, false⟩
 if e.act = 1 then { f with writes := bitN e.var }
 else if e.act = 2 then { f with sends := bitN e.chan }
 else if e.act = 3 then { f with writes := bitN e.var, recvs := bitN e.chan } else f
theorem expr_kids {t : List Nd} {x : Nd} (h : NodeOk t x) (hx : exprK x.kind) : x.kids.length <= 2 /\ ∀ i, i < x.kids.length -> exprK (nd t (x.kid i)).kind := by
 obtain ⟨h1, h2⟩ := hx
 by_cases a : x.kind = 20 ∨ x.kind = 21
 ·obtain ⟨e, hk⟩ := h.one (by omega)
  refine ⟨by omega, fun i hi => ?_⟩
  obtain rfl : i = 0 := by omega
  exact hk
 by_cases b : x.kind = 22
 ·obtain ⟨e, k0, k1, _⟩ := h.bin b
  refine ⟨by omega, fun i hi => ?_⟩
  rcases (show i = 0 ∨ i = 1 by omega) with rfl | rfl
  ·exact k0
  ·exact k1
 ·rw [h.none (by omega)]
  simp
theorem next_empty : Store.empty.next = 0 := rfl
theorem ft0_ok : (⟨0, 0, 0, 0, 0, false⟩ : Ft).Ok := ⟨by decide, by decide, by decide, by decide, by decide⟩
end Go.V
namespace Go.Proofs.Ytlaeblilmppodaa
open Go.V
set_option maxRecDepth 100000
set_option maxHeartbeats 4000000
def MadeR (t : List Nd) (r : D) : Prop := r = .tup [.agg [.nils, .int .i64 0, .nils, .nils, .nils, .nils, .bool false], .bool false] ∨ ∃ m ps, r = .tup [.agg (mdRow m), .bool true] /\ RightT t /\ Scoped t /\ Typed t /\ MoF m (modelOf t) ps
theorem makeI {d : D} {t : List Nd} (hT : TreeAt d t) (hR : RightT t) : ∃ r s1 d', Ev vfs 26 [d] Store.empty r s1 /\ V.ice s1.get 20 r = some d' /\ MadeR t d' := by
 obtain ⟨r, s1, h1, h2⟩ := make_ok hT hR
 rcases h2 with rfl | ⟨hS, hY, m, ps, rfl, hm, hn⟩
 ·exact ⟨_, s1, _, h1, rfl, .inl rfl⟩
 ·obtain ⟨m', ps', h3, h4⟩ := hm.frz hn true
  exact ⟨_, s1, _, h1, h3, .inr ⟨m', ps', rfl, hR, hS, hY, h4⟩⟩
theorem made18 {d : D} {t : List Nd} (hT : TreeAt d t) : ∃ r s1 d', Ev vfs 12 [d] Store.empty r s1 /\ V.ice s1.get 20 r = some d' /\ MadeR t d' := by
 suffices h : EvP vfs 12 [d] Store.empty fun r s1 => ∃ d', V.ice s1.get 20 r = some d' /\ MadeR t d' by
  obtain ⟨r, s1, h1, d', h2, h3⟩ := h
  exact ⟨r, s1, d', h1, h2, h3⟩
 obtain ⟨b, hb, _⟩ := small_ok hT
 cases b
 ·refine evp_of (vf := vf12) rfl ?_
  unfold vf12; refine zE ?_
  repeat first
  |(apply vq_isoI hb rfl rfl (fz1 hT.fz))
  |refine zW0 ?_
  exact ⟨.inr trivial, _, rR, _, rfl, .inl rfl⟩
 obtain ⟨c, hc, hR⟩ := right_ok hT
 cases c
 ·refine evp_of (vf := vf12) rfl ?_
  unfold vf12; refine zE ?_
  repeat first
  |(apply vq_isoI hb rfl rfl (fz1 hT.fz))
  |(apply vq_isoI hc rfl rfl (fz1 hT.fz))
  |refine zW0 ?_
  exact ⟨.inr trivial, _, rR, _, rfl, .inl rfl⟩
 obtain ⟨r, s1, d', h1, h2, h3⟩ := makeI hT (hR rfl)
 have hpu : pureL [d] = true := by simp only [pureL, hT.fl.pure, Bool.and_self]
 rcases h3 with rfl | ⟨m, ps, rfl, hR, hS, hY, hm⟩
 ·refine evp_of (vf := vf12) rfl ?_
  unfold vf12; refine zE ?_
  repeat first
  |(apply vq_isoI hb rfl rfl (fz1 hT.fz))
  |(apply vq_isoI hc rfl rfl (fz1 hT.fz))
  |(refine vq_iso' (l := [d]) rfl (fz1 hT.fz) h1 h2 (by rw [hpu, Bool.or_true]) ?_)
  |refine zW0 ?_
  exact ⟨.inr trivial, _, rR, _, rfl, .inl rfl⟩
 ·have om := hm.ones
  unfold mdRow at h2
  refine evp_of (vf := vf12) rfl ?_
  unfold vf12; refine zE ?_
  repeat first
  |(apply vq_isoI hb rfl rfl (fz1 hT.fz))
  |(apply vq_isoI hc rfl rfl (fz1 hT.fz))
  |(refine vq_iso' (l := [d]) rfl (fz1 hT.fz) h1 h2 (by rw [hpu, Bool.or_true]) ?_)
  |refine zW om ?_
  refine ⟨.inr trivial, _, rR, .tup [.agg (mdRow m), .bool true], ?_, .inr ⟨m, ps, rfl, hR, hS, hY, hm⟩⟩
  exact tup_fz hm.fz true
theorem bit_ok {n : Int} (h : n < 32) : Iso 40 [.int .i64 n] (.int .u32 (bitN n : Int)) := by
 refine iso_of ?_
 by_cases c : n < 0
 ·have c' : (n < 0) = True := eq_true c
  refine evp_of (vf := vf40) rfl ?_
  unfold vf40; refine zE ?_
  try refine zW c' ?_
  exact ⟨.inr trivial, _, rR, by simp [bitN, c]⟩
 ·obtain ⟨k, rfl⟩ := Int.eq_ofNat_of_zero_le (by omega : 0 <= n)
  have c' : ((k : Int) < 0) = False := eq_false c
  have hs := shl32 (n := k) (by omega)
  refine evp_of (vf := vf40) rfl ?_
  unfold vf40; refine zE ?_
  try refine zW (aN c' hs) ?_
  exact ⟨.inr trivial, _, rR, by rw [bitN_nat]⟩
theorem edge1_ok {s : Store} {p : Pr} {x : PrD} {idp : Nat} (hp : PrF p x) (hg : s.get idp = some (.cells (prRow p x))) (hs : p.names.length = p.vars.length) (hv : ∀ v ∈ p.vars, v < 32) (hl : p.names.length <= 1000) {w : ByteArray} : Ev vfs 39 [.str w, .ptr idp 0] s (.int .u32 (varB p.names p.vars w : Int)) s := by
 have op := hp.ones
 have hlen := hp.lenN
 unfold prRow at hg
 refine ev_of (vf := vf39) rfl ?_
 unfold vf39; refine zE ?_
 try refine zW (aN hg (aN op hlen)) ?_
 refine vw_loop_inv (Q := Out' 0 _) (fun n env s' => ∃ i : Nat, i <= p.names.length /\ n = p.names.length - i /\ s' = s /\ (∀ j (hj : j < p.names.length), j < i -> p.names[j] ≠ w) /\ (env.get 0 = .str w /\ env.get 1 = .ptr idp 0 /\ env.get 7 = x.dn /\ env.get 8 = .int .i64 (p.names.length : Int) /\ env.get 9 = .int .i64 (i : Int))) ?_ p.names.length _ _ ⟨0, by omega, rfl, rfl, fun j _ h => by omega, by simp [Env.get]⟩
 rintro n env s' ⟨i, hi, rfl, rfl, hall, hE⟩
 by_cases c3 : i < p.names.length
 ·have c3' : ((i : Int) < (p.names.length : Int)) = True := eq_true (by omega)
  have hs1 : IntKind.i64.wrap ((i : Int) + 1) = ((i + 1 : Nat) : Int) := by rw [i64_id (by omega) (by omega)]; omega
  have hidx := FLS.idx hp.n c3 (k := .i64)
  by_cases c4 : p.names[i] = w
  ·have c4' : decide (p.names[i] = w) = true := by simp [c4]
   have hvi : i < p.vars.length := by omega
   have hidv := FLN.idx hp.v hvi (k := .i64)
   have hb := bit_ok (n := (p.vars[i] : Int)) (by have := hv _ (List.getElem_mem hvi); omega)
   have e : varB p.names p.vars w = bitN (p.vars[i] : Int) := by
    unfold varB
    rw [idxB_at c3 c4 hall, if_pos c3, bitN_nat]
    simp [List.getD, hvi]
   rw [e]
   repeat first
   |(apply vq_isoI hb rfl; (focus (simp only [Env.evL, Env.ev, Env.get, Nat.reduceEqDiff, ↓reduceIte, hE])); (focus rfl))
   |refine zW (aN hE (aN hg (aN op (aN c3' (aN hidx (aN c4' hidv)))))) ?_
   exact ⟨.inr trivial, trivial, rR⟩
  ·have c4' : decide (p.names[i] = w) = false := by simp [c4]
   try refine zW (aN hE (aN hg (aN op (aN c3' (aN hidx (aN c4' hs1)))))) ?_
   refine ⟨p.names.length - (i + 1), by omega, i + 1, by omega, rfl, trivial, fun j hj hji => ?_, (rG hE)⟩
   by_cases ej : j = i
   ·subst ej; exact c4
   ·exact hall j hj (by omega)
 ·have c3' : ((i : Int) < (p.names.length : Int)) = False := eq_false (by omega)
  have e : varB p.names p.vars w = 0 := by
   unfold varB
   rw [if_neg (idxB_none fun j hj => hall j hj (by omega))]
  rw [e]
  try refine zW (aN hE c3') ?_
  exact ⟨.inr trivial, trivial, rR⟩
end Go.Proofs.Ytlaeblilmppodaa
namespace Go.V
variable {fs : FuncId -> Option VFunc}
structure Ent where
 i : Nat
 rd : Option Nat
 eff : List Nat
structure TrE (n : Nat) (e : Ent) (t : Tr) : Prop where
 i : t.idx = e.i
 rd : t.rd = e.rd
 ef : ∀ id, id ∉ e.eff -> t.pre.get id = t.post.get id
 lt : ∀ id, e.rd = some id -> id < n
def TrM (n : Nat) (T : List Ent) (tr : List Tr) : Prop := ∀ t ∈ tr, (t.rd = none /\ ∀ id, t.pre.get id = t.post.get id) ∨ ∃ e ∈ T, TrE n e t
def WX (fs : FuncId -> Option VFunc) (pairs : List (Nat × Nat)) (T : List Ent) (ops : List (Nat × VOper)) (env : Env) (s : Store) (Q : Env -> Store -> Prop) : Prop := ∀ tr, TrM s.next T tr -> WO fs pairs ops tr env s Q
theorem vw_rgx {vars ops p pairs dr env s Q} (h : WX fs (p :: pairs) [] ops env s fun env' s' => Q .normal (env'.keep vars) s') : WP fs vars (.region ⟨ops, p :: pairs, dr⟩) env s Q := vw_region (h [] (by simp [TrM]))
theorem stable_of {a b : Store} {r : Option Nat} (h : ∀ id, r = some id -> a.get id = b.get id) : stable a b r = true := by
 cases r with
 | none => rfl
 | some id => simp only [stable]; rw [h id rfl]; exact beqO_self _
def Free (pairs : List (Nat × Nat)) (T : List Ent) (i : Nat) (r : Option Nat) (E : List Nat) : Prop := ∀ e ∈ T, (e.i, i) ∈ pairs -> (∀ id, e.rd = some id -> id ∉ E) /\ ∀ id, r = some id -> id ∉ e.eff
theorem pairs_free {pairs : List (Nat × Nat)} {T : List Ent} {n : Nat} {j : Tr} {E : List Nat} (hE : ∀ id, id ∉ E -> j.pre.get id = j.post.get id) (hf : Free pairs T j.idx j.rd E) : ∀ {tr : List Tr}, TrM n T tr -> pairsOk pairs j tr = true
 | [], _ => rfl
 | t :: r, h => by
   have ih := pairs_free hE hf (tr := r) fun x hx => h x (by simp [hx])
   rcases h t (by simp) with ⟨k1, k2⟩ | ⟨e, he, k⟩
   ·have s1 : stable j.pre j.post t.rd = true := by rw [k1]; rfl
    have s2 : stable t.pre t.post j.rd = true := stable_of fun id _ => k2 id
    simp only [pairsOk, s1, s2, Bool.and_self, ite_self, Bool.true_and, ih]
   by_cases hc : (t.idx, j.idx) ∈ pairs
   ·rw [k.i] at hc
    obtain ⟨f1, f2⟩ := hf e he hc
    have s1 : stable j.pre j.post t.rd = true := stable_of fun id hid => hE id (f1 id (by rw [<- k.rd]; exact hid))
    have s2 : stable t.pre t.post j.rd = true := stable_of fun id hid => k.ef id (f2 id hid)
    simp only [pairsOk, s1, s2, Bool.and_self, ite_self, Bool.true_and, ih]
   ·have hc' : pairs.contains (t.idx, j.idx) = false := by rw [Bool.eq_false_iff]; intro h'; rw [List.contains_iff_mem] at h'; exact hc h'
    simp only [pairsOk, hc', Bool.false_eq_true, if_false, Bool.true_and, ih]
theorem TrM.grow {n m : Nat} {T : List Ent} {tr : List Tr} (h : TrM n T tr) (hm : n <= m) (e : Ent) : TrM m (e :: T) tr := fun t ht => by
 rcases h t ht with k | ⟨e', h1, h2⟩
 ·exact .inl k
 ·exact .inr ⟨e', by simp [h1], h2.i, h2.rd, h2.ef, fun id hid => Nat.lt_of_lt_of_le (h2.lt id hid) hm⟩
theorem wx_op {pairs T i o rest env s Q} (hw : wantV env o.guard = some true) {d s'} {E : List Nat} (m : Nat) (hr : runOp (callWith fs (vexec fs m)) env s o.op = some (d, s')) (hE : ∀ id, id ∉ E -> s.get id = s'.get id) (hn : s.next <= s'.next) (hl : ∀ id, rdOf env o.op = some id -> id < s.next) (hf : Free pairs T i (rdOf env o.op) E)
 (h : WX fs pairs (⟨i, rdOf env o.op, E⟩ :: T) rest (env.put o.dst d) s' Q) : WX fs pairs T ((i, o) :: rest) env s Q := by
 intro tr ht
 refine vo_op hw m hr (pairs_free (j := ⟨i, rdOf env o.op, s, s'⟩) hE hf ht) (h _ ?_)
 split
 ·exact ht.grow hn _
 ·intro t hm
  rcases List.mem_cons.1 hm with rfl | hm
  ·exact .inr ⟨⟨i, rdOf env o.op, E⟩, by simp, rfl, rfl, hE, fun id hid => Nat.lt_of_lt_of_le (hl id hid) hn⟩
  ·exact ht.grow hn _ t hm
theorem free_none {pairs : List (Nat × Nat)} {T : List Ent} {i : Nat} : Free pairs T i none [] := fun e _ _ => ⟨by simp, by simp⟩
theorem wx_still {pairs T i o rest env s Q} (hw : wantV env o.guard = some true) {d} (m : Nat) (hr : runOp (callWith fs (vexec fs m)) env s o.op = some (d, s)) (hn : rdOf env o.op = none) (h : WX fs pairs T rest (env.put o.dst d) s Q) : WX fs pairs T ((i, o) :: rest) env s Q := by
 intro tr ht
 refine vo_op hw m hr (pairs_free (E := []) (fun _ _ => rfl) (by rw [hn]; exact free_none) ht) (h _ ?_)
 split
 ·exact ht
 ·intro t hm
  rcases List.mem_cons.1 hm with rfl | hm
  ·exact .inl ⟨hn, fun _ => rfl⟩
  ·exact ht t hm
theorem wx_nil {pairs T env s Q} (h : Q env s) : WX fs pairs T [] env s Q := fun _ _ => vo_nil h
theorem wx_skip {pairs T i o rest env s Q} (hw : wantV env o.guard = some false) (h : WX fs pairs T rest (env.put o.dst (.tup [])) s Q) : WX fs pairs T ((i, o) :: rest) env s Q := fun tr ht => vo_skip hw (h tr ht)
theorem wx_p {pairs T i t o rest s Q} {env : Env} {d : D} (hr : evP env o = some d) (h : WX fs pairs T rest ((t, d) :: env) s Q) : WX fs pairs T ((i, ⟨some t, .p o, none⟩) :: rest) env s Q :=
 wx_still rfl 0 (by simp only [runOp, hr, Option.map_some]) rfl h
theorem wx_fp {pairs T i t n x rest s Q} {env : Env} {d : D} {cs : List D} {off : Nat} (hx : env.ev x = .fp cs off) (hr : ldV s.get n (.fp cs off) = some d) (h : WX fs pairs T rest ((t, d) :: env) s Q) : WX fs pairs T ((i, ⟨some t, .r (.load n x), none⟩) :: rest) env s Q :=
 wx_still rfl 0 (by simp only [runOp, evR_load, hx, hr, Option.map_some]) (by simp only [rdOf, rdR, hx]) h
theorem wx_ld {pairs T i t n x rest s Q} {env : Env} {d : D} {id off : Nat} (hx : env.ev x = .ptr id off) (hr : ldV s.get n (.ptr id off) = some d) (hf : ∀ e ∈ T, (e.i, i) ∈ pairs -> id ∉ e.eff) (h : WX fs pairs (⟨i, some id, []⟩ :: T) rest ((t, d) :: env) s Q) : WX fs pairs T ((i, ⟨some t, .r (.load n x), none⟩) :: rest) env s Q := by
 have hrd : rdOf env (.r (.load n x)) = some id := by simp only [rdOf, rdR, hx]
 have hlt : id < s.next := by
  simp only [ldV] at hr
  cases hg : s.get id with
  | none => rw [hg] at hr; cases hr
  | some o => exact get_lts hg
 refine wx_op (E := []) rfl 0 (d := d) (s' := s) (by simp only [runOp, evR_load, hx, hr, Option.map_some]) (fun _ _ => rfl) (Nat.le_refl _) ?_ ?_ ?_
 ·intro j hj
  simp only [hrd, Option.some.injEq] at hj
  subst hj; exact hlt
 ·simp only [hrd]
  intro e he hp
  refine ⟨by simp, fun j hj => ?_⟩
  simp only [Option.some.injEq] at hj
  subst hj
  exact hf e he hp
 ·simp only [hrd]; exact h
theorem wx_a {pairs T i t o rest s Q} {env : Env} {ob : VObj} {m : Made} (hr : evA env o = some (ob, m)) (h : WX fs pairs (⟨i, none, [s.next]⟩ :: T) rest ((t, m.at s.next) :: env) (s.push ob) Q) : WX fs pairs T ((i, ⟨some t, .a o, none⟩) :: rest) env s Q := by
 intro tr ht
 have hE : ∀ id, id ∉ [s.next] -> s.get id = (s.push ob).get id := fun id hid => by
  rw [Store.get_push, if_neg (by simpa using hid)]
 refine vo_op rfl 0 (d := m.at s.next) (s' := s.push ob) (by simp only [runOp, hr]) ?_ (h _ ?_)
 ·have key : ∀ {tr : List Tr}, TrM s.next T tr -> pairsOk pairs ⟨i, none, s, s.push ob⟩ tr = true := by
   intro tr
   induction tr with
   | nil => intro _; rfl
   | cons x r ih =>
     intro hx
     have ih := ih fun y hy => hx y (by simp [hy])
     have s1 : stable s (s.push ob) x.rd = true := by
      rcases hx x (by simp) with ⟨k1, _⟩ | ⟨e, _, k⟩
      ·rw [k1]; rfl
      ·refine stable_of fun id hid => hE id ?_
       have := k.lt id (by rw [<- k.rd]; exact hid)
       simp only [List.mem_singleton]; omega
     have s2 : stable x.pre x.post none = true := rfl
     simp only [pairsOk, s1, s2, Bool.and_self, ite_self, Bool.true_and, ih]
  exact key ht
 ·have hn : s.next <= (s.push ob).next := by simp
  split
  ·exact ht.grow hn _
  ·intro x hm
   rcases List.mem_cons.1 hm with rfl | hm
   ·exact .inr ⟨⟨i, none, [s.next]⟩, by simp, rfl, rfl, hE, by simp⟩
   ·exact ht.grow hn _ x hm
theorem wx_w {pairs T i n a v rest s Q} {env : Env} {id off : Nat} {ob : VObj} (hx : env.ev a = .ptr id off) (hr : evW env s.get n a v = some (id, ob)) (hf : ∀ e ∈ T, (e.i, i) ∈ pairs -> e.rd ≠ some id /\ id ∉ e.eff) (h : WX fs pairs (⟨i, some id, [id]⟩ :: T) rest env (s.set id (some ob)) Q) : WX fs pairs T ((i, ⟨none, .w n a v, none⟩) :: rest) env s Q := by
 have hrd : rdOf env (.w n a v) = some id := by simp only [rdOf, rdW, hx]
 have hlt : id < s.next := by
  simp only [evW, hx] at hr
  cases hg : s.get id with
  | none => rw [hg] at hr; cases hr
  | some o => exact get_lts hg
 refine wx_op (E := [id]) rfl 0 (d := .tup []) (s' := s.set id (some ob)) (by simp only [runOp, hr]) (fun j hj => by rw [get_set_ne (by simpa using hj)]) (by simp) ?_ ?_ ?_
 ·intro j hj
  simp only [hrd, Option.some.injEq] at hj
  subst hj; exact hlt
 ·simp only [hrd]
  intro e he hp
  obtain ⟨f1, f2⟩ := hf e he hp
  refine ⟨fun j hj hm => ?_, fun j hj => ?_⟩
  ·simp only [List.mem_singleton] at hm
   subst hm
   exact f1 hj
  ·simp only [Option.some.injEq] at hj
   subst hj
   exact f2
 ·simp only [hrd]; exact h
theorem wx_m {pairs T i t o rest s Q} {env : Env} {d : D} {s' : Store} {E : List Nat} (hr : ∃ n, evM (callWith fs (vexec fs n)) env s o = some (d, s')) (hE : ∀ id, id ∉ E -> s.get id = s'.get id) (hn : s.next <= s'.next) (hf : ∀ e ∈ T, (e.i, i) ∈ pairs -> ∀ id, e.rd = some id -> id ∉ E)
 (h : WX fs pairs (⟨i, none, E⟩ :: T) rest ((t, d) :: env) s' Q) : WX fs pairs T ((i, ⟨some t, .m o, none⟩) :: rest) env s Q := by
 obtain ⟨n, hn'⟩ := hr
 refine wx_op (E := E) rfl n (d := d) (s' := s') (by simp only [runOp]; exact hn') hE hn (by intro id hid; simp [rdOf] at hid) (fun e he hp => ⟨hf e he hp, by intro id hid; simp [rdOf] at hid⟩) h
theorem wx_iso {pairs T i t f args rest s Q} {env : Env} {l l' : List D} {d r : D} {s1 : Store} (hl : env.evL args = l) (ha : mapO (ice s.get 20) l = some l')
 (hr : Ev fs f l' Store.empty r s1) (hi : ice s1.get 20 r = some d) (hs : (scalarD d || pureL l) = true)
 (h : WX fs pairs T rest ((t, d) :: env) s Q) : WX fs pairs T ((i, ⟨some t, .m (.call .iso (.cst (.fn f [])) args), none⟩) :: rest) env s Q := by
 subst hl
 obtain ⟨n, hn⟩ := hr
 have hn' : callWith fs (vexec fs n) f l' Store.empty = some (r, s1) := hn
 exact wx_still rfl n (by simp only [runOp, evM, callV, Env.ev, List.append_nil, ha, hn', hi, hs, if_true]) rfl h
end Go.V
namespace Go.V
def setF (l : List Nat) : Nat := l.foldl (fun a v => a ||| 2 ^ v) 0
end Go.V
namespace Go.V
structure Stt where
 at' : List Nat
 vars : List Int
 chans : List (List Int)
 hold : Int
 deriving DecidableEq
def doZ (op : Nat) (a b : Int) (w : Nat) : Int := match op with
 | 0 => trimZ (a + b) w
 | 1 => trimZ (a - b) w
 | 2 => trimZ (a * b) w
 | 3 => if b = 0 then 0 else trimZ (a.tdiv b) w
 | _ => if b = 0 then 0 else trimZ (a.tmod b) w
def zAt (l : List Int) (i : Nat) : Int := l.getD i 0
def cAt (l : List (List Int)) (i : Nat) : List Int := l.getD i []
def nAt (l : List Nat) (i : Nat) : Nat := l.getD i 0
def chAt (l : List Ch) (i : Nat) : Ch := l.getD i default
theorem zAt_get {l : List Int} {i : Nat} (h : i < l.length) : zAt l i = l[i] := by simp [zAt, List.getD, h]
theorem cAt_get {l : List (List Int)} {i : Nat} (h : i < l.length) : cAt l i = l[i] := by simp [cAt, List.getD, h]
theorem nAt_get {l : List Nat} {i : Nat} (h : i < l.length) : nAt l i = l[i] := by simp [nAt, List.getD, h]
theorem chAt_get {l : List Ch} {i : Nat} (h : i < l.length) : chAt l i = l[i] := by simp [chAt, List.getD, h]
def oneZ (b : Bool) : Int := if b then 1 else 0
def lookP (p : Pr) (w : ByteArray) : Option Nat := if idxB p.names w < p.names.length then some (p.vars.getD (idxB p.names w) 0) else none
def lookG (mo : Mo) (w : ByteArray) : Option Nat := if idxB ((mo.vars.take mo.globals).map Vr.name) w < mo.globals then some (idxB ((mo.vars.take mo.globals).map Vr.name) w) else none
def binZ (op a b : Int) : Int × Bool :=
 if 7 <= op /\ b = 0 then (0, false)
 else if op = 0 then (oneZ (decide (a ≠ 0) || decide (b ≠ 0)), true)
 else if op = 1 then (oneZ (decide (a ≠ 0) && decide (b ≠ 0)), true)
 else if op = 2 then (oneZ (decide (a = b)), true)
 else if op = 3 then (oneZ (decide (a < b)), true)
 else (doZ (op - 4).toNat a b 8, true)
def valF (t : List Nd) (ch : List ByteArray) (look : ByteArray -> Option Nat) (st : Stt) : Nat -> Nat -> Int × Bool
 | 0, _ => (0, false)
 | n + 1, k =>
   let x := nd t k
   if x.kind = 17 then (trimZ (x.num 0) 8, true)
   else if x.kind = 18 then match look (x.word 0) with
    | none => (0, false)
    | some v => (zAt st.vars v, true)
   else if x.kind = 19 then (if idxB ch (x.word 0) < ch.length then (((cAt st.chans (idxB ch (x.word 0))).length : Int), true) else (0, false))
   else if x.kind = 20 then (trimZ (-(valF t ch look st n (x.kid 0)).1) 8, (valF t ch look st n (x.kid 0)).2)
   else if x.kind = 21 then (oneZ ((valF t ch look st n (x.kid 0)).2 && decide ((valF t ch look st n (x.kid 0)).1 = 0)), (valF t ch look st n (x.kid 0)).2)
   else if x.kind = 22 then
    if (valF t ch look st n (x.kid 0)).2 && (valF t ch look st n (x.kid 1)).2 then binZ (x.num 0) (valF t ch look st n (x.kid 0)).1 (valF t ch look st n (x.kid 1)).1 else (0, false)
   else (0, false)
def Mo.ch (mo : Mo) : List ByteArray := mo.chans.map Ch.name
def Mo.val (mo : Mo) (look : ByteArray -> Option Nat) (st : Stt) (k : Nat) : Int × Bool := valF mo.tree mo.ch look st (mo.tree.length + 1) k
def Mo.ex (mo : Mo) (p : Pr) (st : Stt) (e : Ed) (z : Int) : Int × Bool := if 0 <= e.expr then mo.val (lookP p) st e.expr.toNat else (z, true)
def Mo.can (mo : Mo) (st : Stt) (i : Nat) (p : Pr) (e : Ed) : Bool :=
 decide (nAt st.at' i = e.frm) && (mo.ex p st e 0).2 &&
 (if e.act = 2 then decide (((cAt st.chans e.chan.toNat).length : Int) < (chAt mo.chans e.chan.toNat).room)
  else if e.act = 3 then decide (0 < (cAt st.chans e.chan.toNat).length)
  else if e.act = 4 then decide ((mo.ex p st e 0).1 ≠ 0)
  else if e.act = 5 then decide ((mo.ex p st e 0).1 = 0) else true)
def Mo.safeS (mo : Mo) (st : Stt) : Bool := mo.safe.all fun k => (mo.val (lookG mo) st k).2 && decide ((mo.val (lookG mo) st k).1 ≠ 0)
def Mo.someS (mo : Mo) (st : Stt) (i : Nat) (p : Pr) : Bool := p.edges.any fun e => mo.can st i p e
structure Mv where
 kind : Nat
 proc : Nat
 edge : Nat
 chan : Nat
 deriving DecidableEq, Inhabited
def Mv.row (v : Mv) : List D := [.int .i64 (v.kind : Int), .int .i64 (v.proc : Int), .int .i64 (v.edge : Int), .int .i64 (v.chan : Int)]
def rowsM (l : List Mv) : List (List D) := l.map Mv.row
def Mo.movesP (mo : Mo) (st : Stt) (i : Nat) : List Mv := if 0 <= st.hold /\ st.hold ≠ (i : Int) then [] else ((List.range (mo.procs.getD i default).edges.length).filter fun j => mo.can st i (mo.procs.getD i default) ((mo.procs.getD i default).edges.getD j default)).map fun j => ⟨0, i, j, 0⟩
def Mo.movesC (mo : Mo) (st : Stt) (c : Nat) : List Mv :=
 (if (chAt mo.chans c).lossy && decide (0 < (cAt st.chans c).length) then [⟨1, 0, 0, c⟩] else []) ++
 (if (chAt mo.chans c).copying && decide (0 < (cAt st.chans c).length) && decide (((cAt st.chans c).length : Int) < (chAt mo.chans c).room) then [⟨2, 0, 0, c⟩] else [])
def Mo.moves (mo : Mo) (st : Stt) : List Mv := (List.range mo.procs.length).flatMap (mo.movesP st) ++ if st.hold < 0 then (List.range mo.chans.length).flatMap (mo.movesC st) else []
structure Fit (mo : Mo) (st : Stt) : Prop where
 at' : st.at'.length = mo.procs.length
 vars : st.vars.length = mo.vars.length
 chans : st.chans.length = mo.chans.length
 pl : ∀ i (h : i < st.at'.length) (h' : i < mo.procs.length), st.at'[i] < mo.procs[i].places
 vr : ∀ i (h : i < st.vars.length) (h' : i < mo.vars.length), trimZ st.vars[i] mo.vars[i].width.toNat = st.vars[i]
 cl : ∀ i (h : i < st.chans.length) (h' : i < mo.chans.length), (st.chans[i].length : Int) <= mo.chans[i].room
 cv : ∀ i (h : i < st.chans.length) (h' : i < mo.chans.length), ∀ n ∈ st.chans[i], trimZ n mo.chans[i].width.toNat = n
 hold : -1 <= st.hold /\ st.hold < (mo.procs.length : Int)
def lookZ : Option Nat -> Int
 | none => -1
 | some v => (v : Int)
structure StD where
 da : D
 dv : D
 dc : D
def stRow (x : StD) (st : Stt) : List D := [x.da, x.dv, x.dc, .int .i64 st.hold]
structure StF (x : StD) (st : Stt) : Prop where
 a : FL 1 x.da (rowsN st.at')
 v : FI x.dv st.vars
 c : ∃ ds : List D, FL 1 x.dc (ds.map fun d => [d]) /\ ds.length = st.chans.length /\ ∀ i (h : i < ds.length) (h' : i < st.chans.length), FI ds[i] st.chans[i]
theorem StF.ones {x : StD} {st : Stt} (h : StF x st) : oneCell x.da = true /\ oneCell x.dv = true /\ oneCell x.dc = true := by
 obtain ⟨ds, h1, _⟩ := h.c
 exact ⟨h.a.one, FL.one h.v, h1.one⟩
theorem StF.fz {x : StD} {st : Stt} (h : StF x st) : Fz (.agg (stRow x st)) := fz_agg fun d hd => by
 obtain ⟨ds, h1, _⟩ := h.c
 simp only [stRow, List.mem_cons, List.not_mem_nil, or_false] at hd
 rcases hd with rfl | rfl | rfl | rfl
 ·exact FL.ic h.a
 ·exact FL.ic h.v
 ·exact FL.ic h1
 ·exact fun _ _ => rfl
theorem StF.chan {x : StD} {st : Stt} (h : StF x st) {i : Nat} (hi : i < st.chans.length) : ∃ d, FI d st.chans[i] /\ ∀ k : IntKind, idxAV 1 x.dc (.int k (i : Int)) = some (.fp [d] 0) := by
 obtain ⟨ds, h1, h2, h3⟩ := h.c
 have hi' : i < ds.length := by omega
 refine ⟨ds[i], h3 i hi' hi, fun k => ?_⟩
 rw [h1.idx (by simpa using hi')]
 simp
theorem lookP_some {p : Pr} {w : ByteArray} {v : Nat} (hs : p.names.length = p.vars.length) (h : lookP p w = some v) : v ∈ p.vars := by
 unfold lookP at h
 split at h
 ·rename_i hl
  rw [hs] at hl
  simp only [List.getD, List.getElem?_eq_getElem hl, Option.getD_some, Option.some.injEq] at h
  rw [<- h]
  exact List.getElem_mem hl
 ·cases h
theorem lookG_some {mo : Mo} {w : ByteArray} {v : Nat} (h : lookG mo w = some v) : v < mo.globals := by
 unfold lookG at h
 split at h
 ·simp only [Option.some.injEq] at h; omega
 ·cases h
def I8 (n : Int) : Prop := -128 <= n /\ n <= 127
theorem trim8 (n : Int) : I8 (trimZ n 8) := by
 have := trimZ_lo (n := n) (w := 8) (by decide)
 simp only [I8] at *
 have e : (2 : Int) ^ (8 - 1) = 128 := rfl
 rw [e] at this
 omega
theorem doZ8 (op : Nat) (a b : Int) : I8 (doZ op a b 8) := by
 unfold doZ
 split <;> try exact trim8 _
 all_goals
  split
  ·simp [I8]
  ·exact trim8 _
theorem oneZ8 (b : Bool) : I8 (oneZ b) := by cases b <;> simp [oneZ, I8]
theorem binZ8 (op a b : Int) : I8 (binZ op a b).1 := by
 unfold binZ
 split
 ·simp [I8]
 split
 ·exact oneZ8 _
 split
 ·exact oneZ8 _
 split
 ·exact oneZ8 _
 split
 ·exact oneZ8 _
 ·exact doZ8 _ _ _
structure St8 (st : Stt) : Prop where
 v : ∀ n ∈ st.vars, I8 n
 c : ∀ l ∈ st.chans, l.length <= 3 /\ ∀ n ∈ l, I8 n
theorem val8 {t : List Nd} {ch : List ByteArray} {look : ByteArray -> Option Nat} {st : Stt} (h8 : St8 st) : ∀ n k, I8 (valF t ch look st n k).1
 | 0, k => by simp [valF, I8]
 | n + 1, k => by
   unfold valF
   simp only
   split
   ·exact trim8 _
   split
   ·split
    ·simp [I8]
    ·rename_i v _
     simp only [zAt, List.getD]
     cases hv : st.vars[v]? with
     | none => simp [I8]
     | some y => exact h8.v y (List.mem_of_getElem? hv)
   split
   ·split
    ·simp only [cAt, List.getD]
     cases hv : st.chans[idxB ch ((nd t k).word 0)]? with
     | none => simp [I8]
     | some y => have := (h8.c y (List.mem_of_getElem? hv)).1; simp only [Option.getD_some, I8]; omega
    ·simp [I8]
   split
   ·exact trim8 _
   split
   ·exact oneZ8 _
   split
   ·split
    ·exact binZ8 _ _ _
    ·simp [I8]
   ·simp [I8]
end Go.V
namespace Go.Proofs.Ytlaeblilmppodaa
open Go.V
set_option maxRecDepth 100000
set_option maxHeartbeats 4000000
theorem i64_succ {i : Nat} (h : i < 1000000000) : IntKind.i64.wrap ((i : Int) + 1) = ((i + 1 : Nat) : Int) := by rw [i64_id (by omega) (by omega)]; omega
theorem doR {s : Store} {a b : Int} {op w : Nat} (hop : op < 5) (hw1 : 1 <= w) (hw2 : w <= 16) (ha : -65536 <= a) (ha' : a <= 65536) (hb : -65536 <= b) (hb' : b <= 65536) :
 Ev vfs 69 [.int .i64 (op : Int), .int .i64 a, .int .i64 b, .int .i64 (w : Int)] s (.int .i64 (doZ op a b w)) s := by
 have hwn : (w : Int) = min (max (w : Int) 1) 16 := by omega
 have hT : ∀ x : Int, -9223372036854775808 <= x -> x < 9223372036854775808 -> Ev vfs 45 [.int .i64 x, .int .i64 (w : Int)] Store.empty (.int .i64 (trimZ x w)) Store.empty := fun x h1 h2 => trimR hwn ⟨h1, h2⟩
 refine ev_of (vf := vf69) rfl ?_
 unfold vf69; refine zE ?_
 have h3 : op = 0 ∨ op = 1 ∨ op = 2 ∨ (3 <= op) := by omega
 rcases h3 with h3 | h3 | h3 | h3
 ·have n0 : ((op : Int) == 0) = true := by rw [h3]; rfl
  have n1 : ((op : Int) == 1) = false := by rw [h3]; rfl
  have n2 : ((op : Int) == 2) = false := by rw [h3]; rfl
  have hd : doZ op a b w = trimZ (a + b) w := by rw [h3]; rfl
  rw [hd]
  have e := i64_id (n := a + b) (by omega) (by omega)
  have hT := hT (a + b) (by omega) (by omega)
  repeat first
  |(apply vq_isoL hT rfl; (focus (simp only [Env.evL, Env.ev, Env.get, Nat.reduceEqDiff, ↓reduceIte]; rfl)); (focus rfl))
  |refine zW (aN e (aN n0 (aN n1 n2))) ?_
  exact ⟨.inr trivial, trivial, rR⟩
 ·have n0 : ((op : Int) == 0) = false := by rw [h3]; rfl
  have n1 : ((op : Int) == 1) = true := by rw [h3]; rfl
  have n2 : ((op : Int) == 2) = false := by rw [h3]; rfl
  have hd : doZ op a b w = trimZ (a - b) w := by rw [h3]; rfl
  rw [hd]
  have e := i64_id (n := a - b) (by omega) (by omega)
  have hT := hT (a - b) (by omega) (by omega)
  repeat first
  |(apply vq_isoL hT rfl; (focus (simp only [Env.evL, Env.ev, Env.get, Nat.reduceEqDiff, ↓reduceIte]; rfl)); (focus rfl))
  |refine zW (aN e (aN n0 (aN n1 n2))) ?_
  exact ⟨.inr trivial, trivial, rR⟩
 ·have n0 : ((op : Int) == 0) = false := by rw [h3]; rfl
  have n1 : ((op : Int) == 1) = false := by rw [h3]; rfl
  have n2 : ((op : Int) == 2) = true := by rw [h3]; rfl
  have hd : doZ op a b w = trimZ (a * b) w := by rw [h3]; rfl
  rw [hd]
  have hm : -4294967296 <= a * b /\ a * b <= 4294967296 := by
   have h1 : (a * b).natAbs <= 65536 * 65536 := by
    rw [Int.natAbs_mul]
    exact Nat.mul_le_mul (by omega) (by omega)
   omega
  have e := i64_id (n := a * b) (by omega) (by omega)
  have hT := hT (a * b) (by omega) (by omega)
  repeat first
  |(apply vq_isoL hT rfl; (focus (simp only [Env.evL, Env.ev, Env.get, Nat.reduceEqDiff, ↓reduceIte]; rfl)); (focus rfl))
  |refine zW (aN e (aN n0 (aN n1 n2))) ?_
  exact ⟨.inr trivial, trivial, rR⟩
 ·have n0 : ((op : Int) == 0) = false := by simp; omega
  have n1 : ((op : Int) == 1) = false := by simp; omega
  have n2 : ((op : Int) == 2) = false := by simp; omega
  by_cases hb0 : b = 0
  ·subst hb0
   have hd : doZ op a 0 w = 0 := by
    match op, h3 with
    | 3, _ => rfl
    | n + 4, _ => rfl
   rw [hd]
   try refine zW (aN n0 (aN n1 n2)) ?_
   exact ⟨.inr trivial, trivial, rR⟩
  ·have c0 : (b == 0) = false := by simpa using hb0
   have hpb : 0 < b.natAbs := by omega
   try refine zW (aN n0 (aN n1 (aN n2 c0))) ?_
   refine WP.mono (Q := fun e env s1 => e = .normal /\ s1 = s /\ (env.get 0 = .int .i64 (op : Int) /\ env.get 1 = .int .i64 a /\ env.get 2 = .int .i64 b /\ env.get 3 = .int .i64 (w : Int) /\ env.get 9 = .int .i64 (a.natAbs : Int) /\ env.get 10 = .int .i64 b)) ?_ ?_
   ·by_cases h : a < 0
    ·have b1 : (a < 0) = True := eq_true h
     have e1 : IntKind.i64.wrap (0 - a) = (a.natAbs : Int) := by rw [i64_id (by omega) (by omega)]; omega
     try refine zW (aN b1 e1) ?_
     exact ⟨trivial, trivial, by simp [Env.get]⟩
    ·have b1 : (a < 0) = False := eq_false h
     have e1 : a = (a.natAbs : Int) := by omega
     try refine zW b1 ?_
     exact ⟨trivial, trivial, by simp [Env.get, <- e1]⟩
   rintro e env s1 ⟨rfl, rfl, hE⟩
   simp only [Then]
   try refine zW hE ?_
   refine WP.mono (Q := fun e env s2 => e = .normal /\ s2 = s1 /\ (env.get 0 = .int .i64 (op : Int) /\ env.get 1 = .int .i64 a /\ env.get 2 = .int .i64 b /\ env.get 3 = .int .i64 (w : Int) /\ env.get 9 = .int .i64 (a.natAbs : Int) /\ env.get 10 = .int .i64 (b.natAbs : Int))) ?_ ?_
   ·by_cases h : b < 0
    ·have b1 : (b < 0) = True := eq_true h
     have e1 : IntKind.i64.wrap (0 - b) = (b.natAbs : Int) := by rw [i64_id (by omega) (by omega)]; omega
     try refine zW (aN hE (aN b1 e1)) ?_
     exact ⟨trivial, trivial, by simp [Env.get, hE]⟩
    ·have b1 : (b < 0) = False := eq_false h
     have e1 : b = (b.natAbs : Int) := by omega
     try refine zW (aN hE b1) ?_
     exact ⟨trivial, trivial, by simp [Env.get, hE, <- e1]⟩
   clear hE
   rintro e env s2 ⟨rfl, rfl, hE⟩
   simp only [Then]
   try refine zW hE ?_
   have hab : a.natAbs <= 65536 := by omega
   have hbb : b.natAbs <= 65536 := by omega
   have ta : a.tdiv b = if (decide (a < 0) != decide (b < 0)) = true then -((a.natAbs / b.natAbs : Nat) : Int) else ((a.natAbs / b.natAbs : Nat) : Int) := by
    have key : ((a.natAbs / b.natAbs : Nat) : Int) = ((a.natAbs : Nat) : Int).tdiv (b.natAbs : Nat) := rfl
    rw [key]
    by_cases h1 : a < 0 <;> by_cases h2 : b < 0
    ·rw [decide_eq_true h1, decide_eq_true h2, if_neg (by decide), Int.ofNat_natAbs_of_nonpos (by omega), Int.ofNat_natAbs_of_nonpos (by omega), Int.neg_tdiv, Int.tdiv_neg]; omega
    ·rw [decide_eq_true h1, decide_eq_false h2, if_pos (by decide), Int.ofNat_natAbs_of_nonpos (by omega), Int.natAbs_of_nonneg (by omega), Int.neg_tdiv]; omega
    ·rw [decide_eq_false h1, decide_eq_true h2, if_pos (by decide), Int.natAbs_of_nonneg (by omega), Int.ofNat_natAbs_of_nonpos (by omega), Int.tdiv_neg]; omega
    ·rw [decide_eq_false h1, decide_eq_false h2, if_neg (by decide), Int.natAbs_of_nonneg (by omega), Int.natAbs_of_nonneg (by omega)]
   have tm : a.tmod b = if a < 0 then -((a.natAbs % b.natAbs : Nat) : Int) else ((a.natAbs % b.natAbs : Nat) : Int) := by
    have key : ((a.natAbs % b.natAbs : Nat) : Int) = ((a.natAbs : Nat) : Int).tmod (b.natAbs : Nat) := rfl
    have kb : ∀ x : Int, x.tmod (b.natAbs : Int) = x.tmod b := fun x => by
     rcases Int.natAbs_eq b with hb | hb
     ·rw [<- hb]
     ·have : x.tmod b = x.tmod (-b) := by rw [Int.tmod_neg]
      rw [this]; congr 1; omega
    rw [key, kb]
    by_cases h1 : a < 0
    ·rw [if_pos h1, Int.ofNat_natAbs_of_nonpos (by omega), Int.neg_tmod]; omega
    ·rw [if_neg h1, Int.natAbs_of_nonneg (by omega)]
   generalize a.natAbs = p at *
   generalize b.natAbs = r at *
   refine vw_loop_inv (fun k env s3 => ∃ (q t : Nat), p = q * r + t /\ k = t /\ s3 = s2 /\ (env.get 0 = .int .i64 (op : Int) /\ env.get 1 = .int .i64 a /\ env.get 2 = .int .i64 b /\ env.get 3 = .int .i64 (w : Int) /\ env.get 10 = .int .i64 (r : Int) /\ env.get 11 = .int .i64 (q : Int) /\ env.get 12 = .int .i64 (t : Int))) ?_ p _ _
    ⟨0, p, by omega, rfl, rfl, by simp [Env.get, hE]⟩
   clear hE
   rintro k env s3 ⟨q, t, hp, rfl, rfl, hE⟩
   have hql : q <= p := by
    have : q * 1 <= q * r := Nat.mul_le_mul_left q hpb
    omega
   by_cases hc : r <= k
   ·have c1 : ((r : Int) <= (k : Int)) = True := eq_true (by omega)
    have e1 : IntKind.i64.wrap ((k : Int) - (r : Int)) = ((k - r : Nat) : Int) := by rw [i64_id (by omega) (by omega)]; omega
    have e2 := i64_succ (i := q) (by omega)
    try refine zW (aN hE (aN c1 (aN e1 e2))) ?_
    exact ⟨k - r, by omega, q + 1, k - r, by rw [Nat.succ_mul]; omega, rfl, trivial, (rG hE)⟩
   ·have c1 : ((r : Int) <= (k : Int)) = False := eq_false (by omega)
    have dq : p / r = q := by
     rw [hp, Nat.mul_comm, Nat.mul_add_div hpb, Nat.div_eq_of_lt (by omega), Nat.add_zero]
    have dm : p % r = k := by
     rw [hp, Nat.mul_comm, Nat.mul_add_mod, Nat.mod_eq_of_lt (by omega)]
    rw [dq] at ta
    rw [dm] at tm
    have hop' : op = 3 ∨ op = 4 := by omega
    rcases hop' with rfl | rfl
    ·have hd : doZ 3 a b w = trimZ (a.tdiv b) w := by simp only [doZ]; rw [if_neg hb0]
     have n3 : ((3 : Nat) : Int) = 3 := rfl
     rw [hd]
     by_cases hx : (decide (a < 0) != decide (b < 0)) = true
     ·rw [if_pos hx] at ta
      rw [ta]
      have e1 : IntKind.i64.wrap (0 - (q : Int)) = -(q : Int) := by rw [i64_id (by omega) (by omega)]; omega
      have hx' : (!(decide (a < 0) == decide (b < 0))) = true := hx
      have hT := hT (-(q : Int)) (by omega) (by omega)
      repeat first
      |(apply vq_isoL hT rfl; (focus (simp only [Env.evL, Env.ev, Env.get, Nat.reduceEqDiff, ↓reduceIte, hE]; rfl)); (focus rfl))
      |refine zW (aN hE (aN c1 (aN n3 (aN hx' e1)))) ?_
      exact ⟨.inr trivial, trivial, rR⟩
     ·rw [if_neg hx] at ta
      rw [ta]
      have hx' : (!(decide (a < 0) == decide (b < 0))) = false := by simpa using hx
      have hT := hT (q : Int) (by omega) (by omega)
      repeat first
      |(apply vq_isoL hT rfl; (focus (simp only [Env.evL, Env.ev, Env.get, Nat.reduceEqDiff, ↓reduceIte, hE]; rfl)); (focus rfl))
      |refine zW (aN hE (aN c1 (aN n3 hx'))) ?_
      exact ⟨.inr trivial, trivial, rR⟩
    ·have hd : doZ 4 a b w = trimZ (a.tmod b) w := by simp only [doZ]; rw [if_neg hb0]
     have n3 : (((4 : Nat) : Int) == 3) = false := rfl
     rw [hd]
     by_cases hx : a < 0
     ·rw [if_pos hx] at tm
      rw [tm]
      have e1 : IntKind.i64.wrap (0 - (k : Int)) = -(k : Int) := by rw [i64_id (by omega) (by omega)]; omega
      have hx' : (a < 0) = True := eq_true hx
      have hT := hT (-(k : Int)) (by omega) (by omega)
      repeat first
      |(apply vq_isoL hT rfl; (focus (simp only [Env.evL, Env.ev, Env.get, Nat.reduceEqDiff, ↓reduceIte, hE]; rfl)); (focus rfl))
      |refine zW (aN hE (aN c1 (aN n3 (aN hx' e1)))) ?_
      exact ⟨.inr trivial, trivial, rR⟩
     ·rw [if_neg hx] at tm
      rw [tm]
      have hx' : (a < 0) = False := eq_false hx
      have hT := hT (k : Int) (by omega) (by omega)
      repeat first
      |(apply vq_isoL hT rfl; (focus (simp only [Env.evL, Env.ev, Env.get, Nat.reduceEqDiff, ↓reduceIte, hE]; rfl)); (focus rfl))
      |refine zW (aN hE (aN c1 (aN n3 hx'))) ?_
      exact ⟨.inr trivial, trivial, rR⟩
theorem do8 {op : Nat} (hop : op < 5) {a b : Int} (ha : I8 a) (hb : I8 b) : Iso 69 [.int .i64 (op : Int), .int .i64 a, .int .i64 b, .int .i64 8] (.int .i64 (doZ op a b 8)) := by
 obtain ⟨a1, a2⟩ := ha
 obtain ⟨b1, b2⟩ := hb
 exact ⟨_, doR (w := 8) hop (by decide) (by decide) (by omega) (by omega) (by omega) (by omega)⟩
theorem one_ok {b : Bool} : Iso 68 [.bool b] (.int .i64 (oneZ b)) := by
 refine iso_of ?_
 cases b
 ·refine evp_of (vf := vf68) rfl ?_
  unfold vf68; refine zE ?_
  try refine zW0 ?_
  exact ⟨.inr trivial, _, rR, rfl⟩
 ·refine evp_of (vf := vf68) rfl ?_
  unfold vf68; refine zE ?_
  try refine zW0 ?_
  exact ⟨.inr trivial, _, rR, rfl⟩
theorem varP_ok {m : MdX} {mo : Mo} {ps : List (Pr × PrD)} (hm : MoF m mo ps) (ho : MoOk mo) {p : Nat} (hp : p < mo.procs.length) {w : ByteArray} : Iso 67 [.agg (mdRow m), .int .i64 (p : Int), .str w] (.int .i64 (lookZ (lookP mo.procs[p] w))) := by
 refine iso_of ?_
 have om := hm.ones
 have hpo := ho.pr _ (List.getElem_mem hp)
 obtain ⟨x, hx, hxi⟩ := hm.proc hp
 have hxi := hxi .i64
 have hlp := hm.lenP
 have ox := hx.ones
 have hln := hx.lenN
 have hnl := hpo.nl
 have hnv := ho.nv
 have hsm := hpo.same
 have p1 : ((0 : Int) <= (p : Int)) = True := eq_true (by omega)
 have p2 : ((p : Int) < (mo.procs.length : Int)) = True := eq_true (by omega)
 generalize mo.procs[p] = P at *
 unfold prRow at hxi
 unfold mdRow
 refine evp_of (vf := vf67) rfl ?_
 unfold vf67; refine zE ?_
 try refine zW (aN om (aN hlp (aN hxi (aN ox (aN p1 p2))))) ?_
 refine vw_loop_inv (Q := Out' 0 _) (fun n env s => ∃ i : Nat, i <= P.names.length /\ n = P.names.length - i /\ s.get 1 = some (.cells [.str P.name, .int .i64 (P.copy : Int), x.dl, .int .i64 (P.places : Int), x.dr, x.de, x.dn, x.dv]) /\ (∀ j (hj : j < P.names.length), j < i -> P.names[j] ≠ w) /\ (env.get 2 = .str w /\ env.get 7 = .ptr 1 0 /\ env.get 8 = .int .i64 (i : Int))) ?_ P.names.length _ _ ⟨0, by omega, rfl, rfl, fun j _ h => by omega, by simp [Env.get, Made.at]; rfl⟩
 rintro n env s ⟨i, hi, rfl, hg, hall, hE⟩
 by_cases c3 : i < P.names.length
 ·have c3' : ((i : Int) < (P.names.length : Int)) = True := eq_true (by omega)
  have hs1 : IntKind.i64.wrap ((i : Int) + 1) = ((i + 1 : Nat) : Int) := by rw [i64_id (by omega) (by omega)]; omega
  have hidx := FLS.idx hx.n c3 (k := .i64)
  by_cases c4 : P.names[i] = w
  ·have c4' : decide (P.names[i] = w) = true := by simp [c4]
   have hvi : i < P.vars.length := by omega
   have hidv := FLN.idx hx.v hvi (k := .i64)
   have e : lookZ (lookP P w) = (P.vars[i] : Int) := by
    unfold lookP
    rw [idxB_at c3 c4 hall, if_pos c3]
    simp [lookZ, List.getD, hvi]
   rw [e]
   try refine zW (aN hE (aN hg (aN ox (aN hln (aN c3' (aN hidx (aN c4' hidv))))))) ?_
   exact ⟨.inr trivial, _, rR, rfl⟩
  ·have c4' : decide (P.names[i] = w) = false := by simp [c4]
   try refine zW (aN hE (aN hg (aN ox (aN hln (aN c3' (aN hidx (aN c4' hs1))))))) ?_
   refine ⟨P.names.length - (i + 1), by omega, i + 1, by omega, rfl, hg, fun j hj hji => ?_, (rG hE)⟩
   by_cases ej : j = i
   ·subst ej; exact c4
   ·exact hall j hj (by omega)
 ·have c3' : ((i : Int) < (P.names.length : Int)) = False := eq_false (by omega)
  have e : lookZ (lookP P w) = -1 := by
   unfold lookP
   rw [if_neg (idxB_none fun j hj => hall j hj (by omega))]
   rfl
  rw [e]
  try refine zW (aN hE (aN hg (aN ox (aN hln c3')))) ?_
  exact ⟨.inr trivial, _, rR, rfl⟩
theorem varG_ok {m : MdX} {mo : Mo} {ps : List (Pr × PrD)} (hm : MoF m mo ps) (ho : MoOk mo) {w : ByteArray} : Iso 67 [.agg (mdRow m), .int .i64 (-1), .str w] (.int .i64 (lookZ (lookG mo w))) := by
 refine iso_of ?_
 have om := hm.ones
 have hnv := ho.nv
 have hgl := ho.gl
 have hmg := hm.g
 unfold mdRow
 rw [hmg]
 have hll : ((mo.vars.take mo.globals).map Vr.name).length = mo.globals := by simp; omega
 refine evp_of (vf := vf67) rfl ?_
 unfold vf67; refine zE ?_
 try refine zW om ?_
 refine vw_loop_inv (Q := Out' 2 _) (fun n env s => ∃ i : Nat, i <= mo.globals /\ n = mo.globals - i /\ s.get 0 = some (.cells [m.dt, .int .i64 (mo.globals : Int), m.dc, m.dv, m.dp, m.ds, .bool m.b]) /\ (∀ j (hj : j < mo.vars.length), j < i -> mo.vars[j].name ≠ w) /\ (env.get 2 = .str w /\ env.get 3 = .ptr 0 0 /\ env.get 9 = .int .i64 (i : Int))) ?_ mo.globals _ _ ⟨0, by omega, rfl, rfl, fun j _ h => by omega, by simp [Env.get, Made.at]; rfl⟩
 rintro n env s ⟨i, hi, rfl, hg, hall, hE⟩
 by_cases c3 : i < mo.globals
 ·have c3' : ((i : Int) < (mo.globals : Int)) = True := eq_true (by omega)
  have hs1 : IntKind.i64.wrap ((i : Int) + 1) = ((i + 1 : Nat) : Int) := by rw [i64_id (by omega) (by omega)]; omega
  have hiv : i < mo.vars.length := by omega
  have hidx := FLV.idx hm.v hiv (k := .i64)
  unfold Vr.row at hidx
  by_cases c4 : mo.vars[i].name = w
  ·have c4' : decide (mo.vars[i].name = w) = true := by simp [c4]
   have e : lookZ (lookG mo w) = (i : Int) := by
    unfold lookG
    have hil : i < ((mo.vars.take mo.globals).map Vr.name).length := by omega
    rw [idxB_at hil (by simpa using c4) (fun j hj hji => by simpa using hall j (by simp at hj; omega) hji), if_pos c3]
    rfl
   rw [e]
   try refine zW (aN hE (aN hg (aN om (aN c3' (aN hidx c4'))))) ?_
   exact ⟨.inr trivial, _, rR, rfl⟩
  ·have c4' : decide (mo.vars[i].name = w) = false := by simp [c4]
   try refine zW (aN hE (aN hg (aN om (aN c3' (aN hidx (aN c4' hs1)))))) ?_
   refine ⟨mo.globals - (i + 1), by omega, i + 1, by omega, rfl, hg, fun j hj hji => ?_, (rG hE)⟩
   by_cases ej : j = i
   ·subst ej; exact c4
   ·exact hall j hj (by omega)
 ·have c3' : ((i : Int) < (mo.globals : Int)) = False := eq_false (by omega)
  have e : lookZ (lookG mo w) = -1 := by
   unfold lookG
   have := idxB_none (l := (mo.vars.take mo.globals).map Vr.name) (w := w) (fun j hj => by simpa using hall j (by simp at hj; omega) (by simp at hj; omega))
   rw [hll] at this
   rw [if_neg this]
   rfl
  rw [e]
  try refine zW (aN hE (aN hg (aN om c3'))) ?_
  exact ⟨.inr trivial, _, rR, rfl⟩
end Go.Proofs.Ytlaeblilmppodaa
namespace Go.Proofs.Ytlaeblilmppodaa
open Go.V
set_option maxRecDepth 100000
set_option maxHeartbeats 4000000
theorem read_ok {m : MdX} {mo : Mo} {ps : List (Pr × PrD)} (hm : MoF m mo ps) (ho : MoOk mo) {vb : ByteArray -> Nat} (hvb : ∀ w, vb w < 4294967296) {fid idf : Nat} {caps : List D} : ∀ (n k : Nat), k < mo.tree.length -> mo.tree.length - k < n -> exprK (nd mo.tree k).kind ->
 ∀ (s : Store) (f : Ft), s.get idf = some (.cells f.row) -> f.Ok -> (∀ s', Fr [idf] s s' -> ∀ w, Ev vfs fid (.str w :: caps) s' (.int .u32 (vb w : Int)) s') ->
 EvP vfs 38 [.agg (mdRow m), .int .i64 (k : Int), .ptr idf 0, .fn fid caps] s fun r s' => r = .tup [] /\ s'.get idf = some (.cells (readF mo.tree (mo.chans.map Ch.name) vb n k f).row) /\ Fr [idf] s s' /\ (readF mo.tree (mo.chans.map Ch.name) vb n k f).Ok
 | 0, k, _, h, _ => by omega
 | n + 1, k, hk, hn, hex => by
   intro s f hf hfo hv
   have om := hm.ones
   have hle := ho.tree.le
   have hno := ho.tree.node k hk
   have hidx := hm.tr.at (z := (k : Int)) (by omega) (by omega) (k := .i64)
   rw [Int.toNat_natCast] at hidx
   have on := nd_one hm.tr hk
   have hfl := get_lts hf
   have hw := word_idx hm.tr hk (i := 0)
   have n0 := ndnum_idx hm.tr hk (i := 0)
   have z0 : ((0 : Nat) : Int) = 0 := rfl
   rw [hno.wl, z0] at hw
   rw [hno.nl, z0] at n0
   have hkk := FI.len (hm.tr.nd hk).k
   show EvP _ _ _ _ fun r s' => r = .tup [] /\ s'.get idf = some (.cells ((nd mo.tree k).ks.foldl (fun f c => readF mo.tree (mo.chans.map Ch.name) vb n c f) (read1 (mo.chans.map Ch.name) vb (nd mo.tree k) f)).row) /\ Fr [idf] s s' /\ ((nd mo.tree k).ks.foldl (fun f c => readF mo.tree (mo.chans.map Ch.name) vb n c f) (read1 (mo.chans.map Ch.name) vb (nd mo.tree k) f)).Ok
   have hr1 := read1_ok (x := nd mo.tree k) hfo (ch := mo.chans.map Ch.name) (by simpa using ho.nc) hvb
   unfold mdRow
   refine evp_of (vf := vf38) rfl ?_
   unfold vf38; refine zE ?_
   try refine zW (aN om (aN hidx on)) ?_
   have fr2 : Fr [] s (((s.push (.cells [m.dt, .int .i64 m.g, m.dc, m.dv, m.dp, m.ds, .bool m.b])).push (.cells [.int .i64 0, .nils, .nils, .nils, .int .i64 0])).set (s.next + 1) (some (.cells [.int .i64 (nd mo.tree k).kind, (nd mo.tree k).dw, (nd mo.tree k).dn, (nd mo.tree k).dk, .int .i64 (nd mo.tree k).pos]))) := ((Fr.push _).thenPush _).thenSet _ (.inr (by omega))
   have b2 : (((s.push (.cells [m.dt, .int .i64 m.g, m.dc, m.dv, m.dp, m.ds, .bool m.b])).push (.cells [.int .i64 0, .nils, .nils, .nils, .int .i64 0])).set (s.next + 1) (some (.cells [.int .i64 (nd mo.tree k).kind, (nd mo.tree k).dw, (nd mo.tree k).dn, (nd mo.tree k).dk, .int .i64 (nd mo.tree k).pos]))).get s.next = some (.cells [m.dt, .int .i64 m.g, m.dc, m.dv, m.dp, m.ds, .bool m.b]) := by (simp (disch := (first|with_reducible assumption|omega|((repeat (first|rw [nP]|rw [nS]))<;>omega)|fail)) only [get_push_old, get_push_new, get_set_ne, get_set_eq, Store.next_push, Store.next_set])
   have c2 : (((s.push (.cells [m.dt, .int .i64 m.g, m.dc, m.dv, m.dp, m.ds, .bool m.b])).push (.cells [.int .i64 0, .nils, .nils, .nils, .int .i64 0])).set (s.next + 1) (some (.cells [.int .i64 (nd mo.tree k).kind, (nd mo.tree k).dw, (nd mo.tree k).dn, (nd mo.tree k).dk, .int .i64 (nd mo.tree k).pos]))).get (s.next + 1) = some (.cells [.int .i64 (nd mo.tree k).kind, (nd mo.tree k).dw, (nd mo.tree k).dn, (nd mo.tree k).dk, .int .i64 (nd mo.tree k).pos]) := by (simp (disch := (first|with_reducible assumption|omega|((repeat (first|rw [nP]|rw [nS]))<;>omega)|fail)) only [get_push_old, get_push_new, get_set_ne, get_set_eq, Store.next_push, Store.next_set])
   have f2 := (fr2.2 idf hfl (by simp)).trans hf
   unfold Ft.row at f2
   generalize (((s.push (.cells [m.dt, .int .i64 m.g, m.dc, m.dv, m.dp, m.ds, .bool m.b])).push (.cells [.int .i64 0, .nils, .nils, .nils, .int .i64 0])).set (s.next + 1) (some (.cells [.int .i64 (nd mo.tree k).kind, (nd mo.tree k).dw, (nd mo.tree k).dn, (nd mo.tree k).dk, .int .i64 (nd mo.tree k).pos]))) = s2 at *
   have l2 := get_lts c2
   have l2' := get_lts f2
   have hv2 := hv s2 (fr2.weaken (by simp))
   refine loop_cut (P := fun env s' => s'.get idf = some (.cells (read1 (mo.chans.map Ch.name) vb (nd mo.tree k) f).row) /\ Fr [idf] s s' /\ s'.get s.next = some (.cells [m.dt, .int .i64 m.g, m.dc, m.dv, m.dp, m.ds, .bool m.b]) /\ s'.get (s.next + 1) = some (.cells [.int .i64 (nd mo.tree k).kind, (nd mo.tree k).dw, (nd mo.tree k).dn, (nd mo.tree k).dk, .int .i64 (nd mo.tree k).pos]) /\ (env.get 2 = .ptr idf 0 /\ env.get 3 = .fn fid caps /\ env.get 4 = .ptr s.next 0 /\ env.get 8 = .ptr (s.next + 1) 0)) ?_ ?_
   ·by_cases q18 : (nd mo.tree k).kind = 18
    ·have q18' : ((nd mo.tree k).kind == 18) = true := by rw [q18]; rfl
     rw [q18] at hw
     have hw := hw (by decide)
     have hcl := hv2 ((nd mo.tree k).word 0)
     have hor := s32_or hfo.r (hvb ((nd mo.tree k).word 0))
     have e : read1 (mo.chans.map Ch.name) vb (nd mo.tree k) f = { f with reads := f.reads ||| vb ((nd mo.tree k).word 0) } := by unfold read1; rw [if_pos q18]
     rw [e]
     repeat first
     |((with_reducible apply vq_callv); (focus rfl); (focus exact hcl))
     |refine zW (aN f2 (aN c2 (aN on (aN q18' (aN hw hor))))) ?_
     refine ⟨trivial, ?_, ?_, ?_, ?_, by simp [Env.get, Made.at]⟩
     ·rw [get_set_eq l2']; rfl
     ·exact (fr2.weaken (by simp)).thenSet _ (.inl (by simp))
     ·rw [get_set_ne (by omega), b2]
     ·rw [get_set_ne (by omega), c2]
    have q18' : ((nd mo.tree k).kind == 18) = false := by rw [beq_eq_false_iff_ne]; exact q18
    by_cases q19 : (nd mo.tree k).kind = 19
    ·have q19' : ((nd mo.tree k).kind == 19) = true := by rw [q19]; rfl
     rw [q19] at hw
     have hw := hw (by decide)
     have e : read1 (mo.chans.map Ch.name) vb (nd mo.tree k) f = { f with sizes := f.sizes ||| chB (mo.chans.map Ch.name) ((nd mo.tree k).word 0) } := by unfold read1; rw [if_neg q18, if_pos q19]
     have hlc := hm.lenC
     have hnc := ho.nc
     try refine zW (aN f2 (aN b2 (aN c2 (aN on (aN om (aN q18' (aN q19' hlc))))))) ?_
     refine loop_cut (P := fun env s' => s'.get idf = some (.cells (read1 (mo.chans.map Ch.name) vb (nd mo.tree k) f).row) /\ Fr [idf] s s' /\ s'.get s.next = some (.cells [m.dt, .int .i64 m.g, m.dc, m.dv, m.dp, m.ds, .bool m.b]) /\ s'.get (s.next + 1) = some (.cells [.int .i64 (nd mo.tree k).kind, (nd mo.tree k).dw, (nd mo.tree k).dn, (nd mo.tree k).dk, .int .i64 (nd mo.tree k).pos]) /\ (env.get 2 = .ptr idf 0 /\ env.get 3 = .fn fid caps /\ env.get 4 = .ptr s.next 0 /\ env.get 8 = .ptr (s.next + 1) 0)) ?_ ?_
     rotate_left
     ·rintro env s' ⟨a1, a2, a3, a4, a5⟩
      exact ⟨rfl, a1, a2, a3, a4, a5⟩
     refine vw_loop_inv (Q := Out' 1 _) (fun n env s' => ∃ i : Nat, i <= mo.chans.length /\ n = mo.chans.length - i /\ Fr [] s2 s' /\ (∀ j (hj : j < mo.chans.length), j < i -> mo.chans[j].name ≠ (nd mo.tree k).word 0) /\ (env.get 2 = .ptr idf 0 /\ env.get 3 = .fn fid caps /\ env.get 4 = .ptr s.next 0 /\ env.get 8 = .ptr (s.next + 1) 0 /\ env.get 38 = m.dc /\ env.get 39 = .int .i64 (mo.chans.length : Int) /\ env.get 40 = .int .i64 (i : Int))) ?_ mo.chans.length _ _ ⟨0, by omega, rfl, Fr.refl _ _, fun j _ h => by omega, by simp [Env.get, Made.at]⟩
     rintro n env s' ⟨i, hi, rfl, fr3, hall, hE⟩
     have f3 := (fr3.2 idf l2' (by simp)).trans f2
     have b3 := (fr3.2 s.next (by omega) (by simp)).trans b2
     have c3 := (fr3.2 (s.next + 1) l2 (by simp)).trans c2
     have l3 := get_lts c3
     have l3' := get_lts f3
     by_cases ci : i < mo.chans.length
     ·have ci' : ((i : Int) < (mo.chans.length : Int)) = True := eq_true (by omega)
      have hs1 : IntKind.i64.wrap ((i : Int) + 1) = ((i + 1 : Nat) : Int) := by rw [i64_id (by omega) (by omega)]; omega
      have hci := FLC.idx hm.c ci (k := .i64)
      unfold Ch.row at hci
      have fr4 : ∀ z o, Fr [] s' ((s'.push z).set s'.next (some o)) := fun z o => (Fr.push _).thenSet _ (.inr (Nat.le_refl _))
      by_cases ce : mo.chans[i].name = (nd mo.tree k).word 0
      ·have ce' : decide (mo.chans[i].name = (nd mo.tree k).word 0) = true := by simp [ce]
       have hb := bit_ok (n := (i : Int)) (by omega)
       have eb : chB (mo.chans.map Ch.name) ((nd mo.tree k).word 0) = bitN (i : Int) := by
        unfold chB
        have hil : i < (mo.chans.map Ch.name).length := by simpa using ci
        rw [idxB_at hil (by simpa using ce) (fun j hj hji => by simpa using hall j (by simpa using hj) hji), if_pos hil, bitN_nat]
       have hor := s32_or hfo.z (bitN_lt (n := (i : Int)) (by omega))
       rw [e, eb]
       repeat first
       |(apply vq_isoI hb rfl; (focus (simp only [Env.evL, Env.ev, Env.get, Nat.reduceEqDiff, ↓reduceIte, hE])); (focus rfl))
       |refine zW (aN hE (aN f3 (aN c3 (aN on (aN ci' (aN hci (aN ce' (aN hw hor)))))))) ?_
       have fr5 := (fr4 (.cells [.str (bs []), .int .i64 0, .int .i64 0, .bool false, .bool false]) (.cells [.str mo.chans[i].name, .int .i64 mo.chans[i].room, .int .i64 mo.chans[i].width, .bool mo.chans[i].lossy, .bool mo.chans[i].copying]))
       refine ⟨trivial, ?_, ?_, ?_, ?_, by simp [Env.get, hE]⟩
       ·rw [get_set_eq (Nat.lt_of_lt_of_le l3' fr5.1)]; rfl
       ·exact (((fr2.trans fr3 (by simp)).trans fr5 (by simp)).weaken (by simp)).thenSet _ (.inl (by simp))
       ·rw [get_set_ne (by omega), fr5.2 _ (by omega) (by simp), b3]
       ·rw [get_set_ne (by omega), fr5.2 _ (by omega) (by simp), c3]
      ·have ce' : decide (mo.chans[i].name = (nd mo.tree k).word 0) = false := by simp [ce]
       try refine zW (aN hE (aN f3 (aN c3 (aN on (aN ci' (aN hci (aN ce' (aN hw hs1)))))))) ?_
       refine ⟨mo.chans.length - (i + 1), by omega, i + 1, by omega, rfl, fr3.trans (fr4 _ _) (by simp), fun j hj hji => ?_, (rG hE)⟩
       by_cases ej : j = i
       ·subst ej; exact ce
       ·exact hall j hj (by omega)
     ·have ci' : ((i : Int) < (mo.chans.length : Int)) = False := eq_false (by omega)
      have eb : chB (mo.chans.map Ch.name) ((nd mo.tree k).word 0) = 0 := by
       unfold chB
       rw [if_neg (idxB_none fun j hj => by simpa using hall j (by simpa using hj) (by simp at hj; omega))]
      rw [e, eb, Nat.or_zero]
      try refine zW (aN hE ci') ?_
      exact ⟨trivial, f3, (fr2.trans fr3 (by simp)).weaken (by simp), b3, c3, (rG hE)⟩
    have q19' : ((nd mo.tree k).kind == 19) = false := by rw [beq_eq_false_iff_ne]; exact q19
    by_cases q22 : (nd mo.tree k).kind = 22
    ·have q22' : ((nd mo.tree k).kind == 22) = true := by rw [q22]; rfl
     rw [q22] at n0
     have n0 := n0 (by decide)
     by_cases q7 : (nd mo.tree k).num 0 = 7
     ·have q7' : ((nd mo.tree k).num 0 == 7) = true := by rw [q7]; rfl
      have e : read1 (mo.chans.map Ch.name) vb (nd mo.tree k) f = { f with part := true } := by unfold read1; rw [if_neg q18, if_neg q19, if_pos ⟨q22, .inl q7⟩]
      rw [e]
      try refine zW (aN f2 (aN c2 (aN on (aN q18' (aN q19' (aN q22' (aN n0 q7'))))))) ?_
      refine ⟨trivial, ?_, ?_, ?_, ?_, by simp [Env.get, Made.at]⟩
      ·rw [get_set_eq l2']; rfl
      ·exact (fr2.weaken (by simp)).thenSet _ (.inl (by simp))
      ·rw [get_set_ne (by omega), b2]
      ·rw [get_set_ne (by omega), c2]
     have q7' : ((nd mo.tree k).num 0 == 7) = false := by rw [beq_eq_false_iff_ne]; exact q7
     by_cases q8 : (nd mo.tree k).num 0 = 8
     ·have q8' : ((nd mo.tree k).num 0 == 8) = true := by rw [q8]; rfl
      have e : read1 (mo.chans.map Ch.name) vb (nd mo.tree k) f = { f with part := true } := by unfold read1; rw [if_neg q18, if_neg q19, if_pos ⟨q22, .inr q8⟩]
      rw [e]
      try refine zW (aN f2 (aN c2 (aN on (aN q18' (aN q19' (aN q22' (aN n0 (aN q7' q8')))))))) ?_
      refine ⟨trivial, ?_, ?_, ?_, ?_, by simp [Env.get, Made.at]⟩
      ·rw [get_set_eq l2']; rfl
      ·exact (fr2.weaken (by simp)).thenSet _ (.inl (by simp))
      ·rw [get_set_ne (by omega), b2]
      ·rw [get_set_ne (by omega), c2]
     have q8' : ((nd mo.tree k).num 0 == 8) = false := by rw [beq_eq_false_iff_ne]; exact q8
     have e : read1 (mo.chans.map Ch.name) vb (nd mo.tree k) f = f := by unfold read1; rw [if_neg q18, if_neg q19, if_neg (by omega)]
     rw [e]
     try refine zW (aN f2 (aN c2 (aN on (aN q18' (aN q19' (aN q22' (aN n0 (aN q7' q8')))))))) ?_
     exact ⟨trivial, f2, fr2.weaken (by simp), b2, c2, by simp [Env.get, Made.at]⟩
    have q22' : ((nd mo.tree k).kind == 22) = false := by rw [beq_eq_false_iff_ne]; exact q22
    have e : read1 (mo.chans.map Ch.name) vb (nd mo.tree k) f = f := by unfold read1; rw [if_neg q18, if_neg q19, if_neg (by omega)]
    rw [e]
    try refine zW (aN f2 (aN c2 (aN on (aN q18' (aN q19' q22'))))) ?_
    exact ⟨trivial, f2, fr2.weaken (by simp), b2, c2, by simp [Env.get, Made.at]⟩
   clear f2 c2 b2 l2 l2' fr2 hv2
   clear s2
   rintro env s2 ⟨f2, fr2, b2, c2, hE⟩
   obtain ⟨hkl, hkx⟩ := expr_kids hno hex
   simp only [Then]
   try refine zW (aN hE (aN c2 (aN on hkk))) ?_
   generalize read1 (mo.chans.map Ch.name) vb (nd mo.tree k) f = f1 at *
   refine vw_loop_inv (Q := Out' 3 _) (fun j env s' => ∃ i : Nat, i <= (nd mo.tree k).kids.length /\ j = (nd mo.tree k).kids.length - i /\ s'.get idf = some (.cells (((nd mo.tree k).ks.take i).foldl (fun f c => readF mo.tree (mo.chans.map Ch.name) vb n c f) f1).row) /\ Fr [idf] s s' /\ (((nd mo.tree k).ks.take i).foldl (fun f c => readF mo.tree (mo.chans.map Ch.name) vb n c f) f1).Ok /\ s'.get s.next = some (.cells [m.dt, .int .i64 m.g, m.dc, m.dv, m.dp, m.ds, .bool m.b]) /\ s.next ≠ idf /\ (env.get 2 = .ptr idf 0 /\ env.get 3 = .fn fid caps /\ env.get 4 = .ptr s.next 0 /\ env.get 80 = (nd mo.tree k).dk /\ env.get 81 = .int .i64 ((nd mo.tree k).kids.length : Int) /\ env.get 82 = .int .i64 (i : Int))) ?_ (nd mo.tree k).kids.length _ _ ⟨0, by omega, rfl, f2, fr2, hr1, b2, by omega, by simp [Env.get, hE]⟩
   clear hE b2 c2 f2 fr2
   rintro j env s' ⟨i, hi, rfl, f2, fr2, ho2, b2, hne, hE⟩
   have lb := get_lts b2
   by_cases c1 : i < (nd mo.tree k).kids.length
   ·have c1' : ((i : Int) < ((nd mo.tree k).kids.length : Int)) = True := eq_true (by omega)
    have hs1 : IntKind.i64.wrap ((i : Int) + 1) = ((i + 1 : Nat) : Int) := by rw [i64_id (by omega) (by omega)]; omega
    have hki := kid_idx hm.tr ho.tree hk c1
    have hkm := kid_mem c1
    have hkt := ks_snoc c1
    have hck := ho.tree.ks hk _ hkm
    have hcx := hkx i c1
    generalize (nd mo.tree k).kid i = K at *
    have hcal := read_ok hm ho hvb n K hck.2 (by omega) hcx s' _ f2 ho2 (fun s3 h3 => hv s3 (fr2.trans h3 (by simp)))
    unfold mdRow at hcal
    try refine zW (aN hE (aN c1' (aN hki (aN b2 om)))) ?_
    apply vq_evpf hcal
    ·simp only [Env.evL, Env.ev, Env.get, Nat.reduceEqDiff, ↓reduceIte, hE]
    rintro r s3 ⟨rfl, f3, fr3, o3⟩
    have b3 := (fr3.2 s.next lb (by simpa using hne)).trans b2
    try refine zW (aN hE hs1) ?_
    refine ⟨(nd mo.tree k).kids.length - (i + 1), by omega, i + 1, by omega, rfl, ?_, fr2.trans fr3 (by simp), ?_, b3, hne, (rG hE)⟩
    ·rw [hkt, List.foldl_append]; exact f3
    ·rw [hkt, List.foldl_append]; exact o3
   ·have c1' : ((i : Int) < ((nd mo.tree k).kids.length : Int)) = False := eq_false (by omega)
    obtain rfl : i = (nd mo.tree k).kids.length := by omega
    have hall : (nd mo.tree k).ks.take (nd mo.tree k).kids.length = (nd mo.tree k).ks := by rw [<- ks_len, List.take_length]
    rw [hall] at f2 ho2
    try refine zW (aN hE c1') ?_
    exact ⟨.inl trivial, _, rfl, rfl, f2, fr2, ho2⟩
end Go.Proofs.Ytlaeblilmppodaa
namespace Go.Proofs.Ytlaeblilmppodaa
open Go.V
set_option maxRecDepth 100000
set_option maxHeartbeats 4000000
theorem edge_ok {m : MdX} {mo : Mo} {ps : List (Pr × PrD)} (hm : MoF m mo ps) (ho : MoOk mo) {p i : Nat} (hp : p < mo.procs.length) (hi : i < mo.procs[p].edges.length) :
 Iso 13 [.agg (mdRow m), .int .i64 (p : Int), .int .i64 (i : Int)] (.tup [.agg (edgeF mo mo.procs[p] mo.procs[p].edges[i]).row, .bool true]) /\ (edgeF mo mo.procs[p] mo.procs[p].edges[i]).Ok := by
 suffices h : EvP vfs 13 [.agg (mdRow m), .int .i64 (p : Int), .int .i64 (i : Int)] Store.empty fun r _ => r = .tup [.agg (edgeF mo mo.procs[p] mo.procs[p].edges[i]).row, .bool true] /\ (edgeF mo mo.procs[p] mo.procs[p].edges[i]).Ok by
  obtain ⟨r, s, h1, rfl, h2⟩ := h
  exact ⟨⟨s, h1⟩, h2⟩
 have om := hm.ones
 have hnv := ho.nv
 have hpo := ho.pr _ (List.getElem_mem hp)
 obtain ⟨x, hx, hxi⟩ := hm.proc hp
 have hxi := hxi .i64
 have hlp := hm.lenP
 have ox := hx.ones
 have hle := hx.lenE
 have hei := FLE.idx hx.e hi (k := .i64)
 have heo := hpo.inv.ed _ (List.getElem_mem hi)
 generalize mo.procs[p].edges[i] = e at *
 have p1 : ((p : Int) < 0) = False := eq_false (by omega)
 have p2 : ((mo.procs.length : Int) <= (p : Int)) = False := eq_false (by omega)
 have i1 : ((i : Int) < 0) = False := eq_false (by omega)
 have i2 : ((mo.procs[p].edges.length : Int) <= (i : Int)) = False := eq_false (by omega)
 generalize mo.procs[p] = P at *
 have hvb : ∀ w, varB P.names P.vars w < 4294967296 := fun w => by
  unfold varB
  split
  ·rename_i hw
   rw [hpo.same] at hw
   refine pow32 ?_
   have := hpo.var _ (List.getElem_mem hw)
   simp only [List.getD, List.getElem?_eq_getElem hw, Option.getD_some]
   omega
  ·decide
 have hx' := hx
 unfold prRow at hxi
 unfold Ed.row at hei
 unfold mdRow
 generalize hf1 : (if 0 <= e.expr then readF mo.tree (mo.chans.map Ch.name) (varB P.names P.vars) (mo.tree.length + 1) e.expr.toNat ⟨0, 0, 0, 0, 0, false⟩ else ⟨0, 0, 0, 0, 0, false⟩) = f1
 have hE : edgeF mo P e = (if e.act = 1 then { f1 with writes := bitN e.var } else if e.act = 2 then { f1 with sends := bitN e.chan } else if e.act = 3 then { f1 with writes := bitN e.var, recvs := bitN e.chan } else f1) := by unfold edgeF; rw [hf1]
 rw [hE]
 refine evp_of (vf := vf13) rfl ?_
 unfold vf13; refine zE ?_
 try refine zW (aN om (aN hlp (aN hxi (aN ox (aN hle (aN p1 (aN p2 (aN i1 (aN i2 hei))))))))) ?_
 simp only [Made.at, Store.next_push, Store.next_set, next_empty, Nat.reduceAdd]
 refine wp_gen (Φ := fun s => s.get 0 = some (.cells [m.dt, .int .i64 m.g, m.dc, m.dv, m.dp, m.ds, .bool m.b]) /\ s.get 1 = some (.cells [.int .u32 0, .int .u32 0, .int .u32 0, .int .u32 0, .int .u32 0, .bool false]) /\ s.get 2 = some (.cells [.str P.name, .int .i64 (P.copy : Int), x.dl, .int .i64 (P.places : Int), x.dr, x.de, x.dn, x.dv]) /\ s.get 3 = some (.cells [.int .i64 (e.frm : Int), .int .i64 (e.to : Int), .int .i64 (e.act : Int), .int .i64 e.expr, .int .i64 e.var, .int .i64 e.chan, .bool e.keep, .int .i64 (e.node : Int)]) /\ s.get 4 = some (.cells [.int .u32 0, .int .u32 0, .int .u32 0, .int .u32 0, .int .u32 0, .bool false])) ?_ ?_
 ·have ne := next_empty
  refine ⟨?_, ?_, ?_, ?_, ?_⟩ <;> (simp (disch := (first|with_reducible assumption|omega|((repeat (first|rw [nP]|rw [nS]))<;>omega)|fail)) only [get_push_old, get_push_new, get_set_ne, get_set_eq, Store.next_push, Store.next_set])
 rintro s ⟨g0, g1, g2, g3, g4⟩
 have l0 := get_lts g0
 have l1 := get_lts g1
 have l2 := get_lts g2
 have l3 := get_lts g3
 have l4 := get_lts g4
 refine WP.mono (Q := fun e' env s => e' = .normal /\ s.get 4 = some (.cells f1.row) /\ f1.Ok /\ s.get 1 = some (.cells [.int .u32 0, .int .u32 0, .int .u32 0, .int .u32 0, .int .u32 0, .bool false]) /\ s.get 3 = some (.cells [.int .i64 (e.frm : Int), .int .i64 (e.to : Int), .int .i64 (e.act : Int), .int .i64 e.expr, .int .i64 e.var, .int .i64 e.chan, .bool e.keep, .int .i64 (e.node : Int)]) /\ (env.get 6 = .ptr 1 0 /\ env.get 9 = .ptr 3 0 /\ env.get 10 = .ptr 4 0)) ?_ ?_
 ·by_cases ce : 0 <= e.expr
  ·have ce' : ((0 : Int) <= e.expr) = True := eq_true ce
   have ha := heo.act
   have hac : e.act = 1 ∨ e.act = 2 ∨ e.act = 4 ∨ e.act = 5 := by
    have h0 := heo.ex0
    omega
   obtain ⟨k, hk, hkl, hkx⟩ := heo.ex1 hac
   rw [if_pos ce, hk, Int.toNat_natCast] at hf1
   subst hf1
   have hcl : ∀ s', Fr [4] s s' -> ∀ w, Ev vfs 39 (.str w :: [.ptr 2 0]) s' (.int .u32 (varB P.names P.vars w : Int)) s' := fun s' hf w =>
    edge1_ok hx (by rw [hf.2 2 l2 (by simp), g2]; rfl) hpo.same (fun v hv => by have := hpo.var v hv; omega) (by
     have := hpo.nl
     omega)
   have hcal := read_ok hm ho hvb (mo.tree.length + 1) k hkl (by omega) hkx s ⟨0, 0, 0, 0, 0, false⟩ g4 ft0_ok hcl
   rw [<- hk] at hcal
   unfold mdRow at hcal
   try refine zW (aN ce' (aN g0 (aN g3 om))) ?_
   apply vq_evpf hcal
   ·rfl
   rintro r s' ⟨rfl, f3, fr3, o3⟩
   try refine zW0 ?_
   exact ⟨trivial, f3, o3, by rw [fr3.2 1 l1 (by simp), g1], by rw [fr3.2 3 l3 (by simp), g3, hk], by simp [Env.get]⟩
  ·have ce' : ((0 : Int) <= e.expr) = False := eq_false ce
   rw [if_neg ce] at hf1
   subst hf1
   try refine zW ce' ?_
   exact ⟨trivial, g4, ft0_ok, g1, g3, by simp [Env.get]⟩
 clear g0 g1 g2 g3 g4 l0 l1 l2 l3 l4
 rintro e' env s ⟨rfl, g4, hfo, g1, g3, hEn⟩
 have l1 := get_lts g1
 have l4 := get_lts g4
 unfold Ft.row at g4
 simp only [Then]
 have hvar : e.act = 1 ∨ e.act = 3 -> e.var < 32 := fun h => by
  obtain ⟨n, hn, e1⟩ := heo.v1 h
  have := hpo.var n hn
  omega
 have hcha : e.act = 2 ∨ e.act = 3 -> e.chan < 32 := fun h => by
  obtain ⟨n, e1, hn⟩ := heo.c1 h
  have := ho.nc
  omega
 by_cases a1 : e.act = 1
 ·have a1' : ((e.act : Int) == 1) = true := by rw [a1]; rfl
  have hb := bit_ok (hvar (.inl a1))
  have hbl := bitN_lt (hvar (.inl a1))
  rw [if_pos a1]
  repeat first
  |(apply vq_isoI hb rfl; (focus (simp only [Env.evL, Env.ev, Env.get, Nat.reduceEqDiff, ↓reduceIte, hEn])); (focus rfl))
  |refine zW (aN hEn (aN g3 (aN g4 (aN g1 a1')))) ?_
  refine ⟨.inr trivial, _, ?_, rfl, ⟨hfo.r, hbl, hfo.s, hfo.v, hfo.z⟩⟩
  ·simp only [resOf, resAll, resOne, Env.get, Nat.reduceEqDiff, ↓reduceIte, hEn, get_set_eq (i := 1) (s := s.set 4 _) (by simp only [Store.next_set]; exact l1)]
   rfl
 have a1' : ((e.act : Int) == 1) = false := by rw [beq_eq_false_iff_ne]; omega
 rw [if_neg a1]
 by_cases a2 : e.act = 2
 ·have a2' : ((e.act : Int) == 2) = true := by rw [a2]; rfl
  have hb := bit_ok (hcha (.inl a2))
  have hbl := bitN_lt (hcha (.inl a2))
  rw [if_pos a2]
  repeat first
  |(apply vq_isoI hb rfl; (focus (simp only [Env.evL, Env.ev, Env.get, Nat.reduceEqDiff, ↓reduceIte, hEn])); (focus rfl))
  |refine zW (aN hEn (aN g3 (aN g4 (aN g1 (aN a1' a2'))))) ?_
  refine ⟨.inr trivial, _, ?_, rfl, ⟨hfo.r, hfo.w, hbl, hfo.v, hfo.z⟩⟩
  ·simp only [resOf, resAll, resOne, Env.get, Nat.reduceEqDiff, ↓reduceIte, hEn, get_set_eq (i := 1) (s := s.set 4 _) (by simp only [Store.next_set]; exact l1)]
   rfl
 have a2' : ((e.act : Int) == 2) = false := by rw [beq_eq_false_iff_ne]; omega
 rw [if_neg a2]
 by_cases a3 : e.act = 3
 ·have a3' : ((e.act : Int) == 3) = true := by rw [a3]; rfl
  have hb := bit_ok (hvar (.inr a3))
  have hbl := bitN_lt (hvar (.inr a3))
  have hb2 := bit_ok (hcha (.inr a3))
  have hbl2 := bitN_lt (hcha (.inr a3))
  rw [if_pos a3]
  repeat first
  |(apply vq_isoI hb rfl; (focus (simp only [Env.evL, Env.ev, Env.get, Nat.reduceEqDiff, ↓reduceIte, hEn])); (focus rfl))
  |(apply vq_isoI hb2 rfl; (focus (simp only [Env.evL, Env.ev, Env.get, Nat.reduceEqDiff, ↓reduceIte, hEn])); (focus rfl))
  |refine zW (aN hEn (aN g3 (aN g4 (aN g1 (aN a1' (aN a2' a3')))))) ?_
  refine ⟨.inr trivial, _, ?_, rfl, ⟨hfo.r, hbl, hfo.s, hbl2, hfo.z⟩⟩
  ·simp only [resOf, resAll, resOne, Env.get, Nat.reduceEqDiff, ↓reduceIte, hEn, get_set_eq (i := 1) (s := (s.set 4 _).set 4 _) (by simp only [Store.next_set]; exact l1)]
   rfl
 have a3' : ((e.act : Int) == 3) = false := by rw [beq_eq_false_iff_ne]; omega
 rw [if_neg a3]
 try refine zW (aN hEn (aN g3 (aN g4 (aN g1 (aN a1' (aN a2' a3')))))) ?_
 refine ⟨.inr trivial, _, ?_, rfl, hfo⟩
 simp only [resOf, resAll, resOne, Env.get, Nat.reduceEqDiff, ↓reduceIte, hEn, get_set_eq (i := 1) (s := s) l1]
 rfl
end Go.Proofs.Ytlaeblilmppodaa
namespace Go.Proofs.Ytlaeblilmppodaa
open Go.V
set_option maxRecDepth 100000
set_option maxHeartbeats 4000000
theorem disturbs_ok {a b : Ft} (ha : a.Ok) (hb : b.Ok) : Iso 41 [.agg a.row, .agg b.row] (.bool (a.dist b)) := by
 refine iso_of ?_
 have o1 := s32_or hb.r hb.w
 have o2 := s32_or ha.s ha.v
 have o3 := s32_or hb.s hb.v
 have l1 := or_lt hb.r hb.w
 have l2 := or_lt ha.s ha.v
 have l3 := or_lt hb.s hb.v
 have o4 := s32_or l3 hb.z
 have l4 := or_lt l3 hb.z
 have a1 := s32_and ha.w l1
 have a2 := s32_and l2 l4
 unfold Ft.row Ft.dist
 by_cases c : a.writes &&& (b.reads ||| b.writes) = 0
 ·have c' : decide (a.writes &&& (b.reads ||| b.writes) ≠ 0) = false := by simp [c]
  rw [c']
  refine evp_of (vf := vf41) rfl ?_
  unfold vf41; refine zE ?_
  repeat first
   |with_reducible first|apply vA|apply vB|apply vC
   |((with_reducible apply vD); (focus rfl))
   |((with_reducible first|apply vE|apply vF|apply vG|apply vH); simp only [Env.keep, Env.get, Env.ev, List.map, Nat.reduceEqDiff, ↓reduceIte, Then, Out'])
   |((with_reducible first|apply vI|apply vJ|apply vK|apply vL|apply vM|apply vN); (focus (simp (disch := (first|with_reducible assumption|omega|((repeat (first|rw [nP]|rw [nS]))<;>omega)|fail)) only [go_sem, Env.ev, Env.get, ↓reduceIte, o1, o2, o3, o4, a1, a2, bne0, c'] <;> rfl)); (first|(with_reducible (first|apply vO|apply vP|apply vQ|apply vR|apply vS|apply vT|apply vU); try simp only [Env.put])|with_reducible refine (?_ : WQ _ _ _ _ _ _)))
   |fail
  exact ⟨.inr trivial, _, rR, by simp⟩
 ·have c' : decide (a.writes &&& (b.reads ||| b.writes) ≠ 0) = true := by simp [c]
  rw [c']
  refine evp_of (vf := vf41) rfl ?_
  unfold vf41; refine zE ?_
  repeat first
   |with_reducible first|apply vA|apply vB|apply vC
   |((with_reducible apply vD); (focus rfl))
   |((with_reducible first|apply vE|apply vF|apply vG|apply vH); simp only [Env.keep, Env.get, Env.ev, List.map, Nat.reduceEqDiff, ↓reduceIte, Then, Out'])
   |((with_reducible first|apply vI|apply vJ|apply vK|apply vL|apply vM|apply vN); (focus (simp (disch := (first|with_reducible assumption|omega|((repeat (first|rw [nP]|rw [nS]))<;>omega)|fail)) only [go_sem, Env.ev, Env.get, ↓reduceIte, o1, o2, o3, o4, a1, a2, bne0, c'] <;> rfl)); (first|(with_reducible (first|apply vO|apply vP|apply vQ|apply vR|apply vS|apply vT|apply vU); try simp only [Env.put])|with_reducible refine (?_ : WQ _ _ _ _ _ _)))
   |fail
  exact ⟨.inr trivial, _, rR, by simp⟩
theorem mapO_row {g : Look} {a b : Ft} : mapO (V.ice g 20) [.agg a.row, .agg b.row] = some [.agg a.row, .agg b.row] := rfl
theorem apart_ok {a b : Ft} (ha : a.Ok) (hb : b.Ok) : Iso 14 [.agg a.row, .agg b.row] (.bool (a.apart b)) := by
 refine iso_of ?_
 have h1 := disturbs_ok ha hb
 have h2 := disturbs_ok hb ha
 unfold Ft.apart
 cases hd : a.dist b
 ·rw [hd] at h1
  refine evp_of (vf := vf14) rfl ?_
  unfold vf14; refine zE ?_
  repeat first
   |(apply vq_isoI h1 rfl rfl mapO_row)
   |(apply vq_isoI h2 rfl rfl mapO_row)
   |with_reducible first|apply vA|apply vB|apply vC
   |((with_reducible apply vD); (focus rfl))
   |((with_reducible first|apply vE|apply vF|apply vG|apply vH); simp only [Env.keep, Env.get, Env.ev, List.map, Nat.reduceEqDiff, ↓reduceIte, Then, Out'])
   |((with_reducible first|apply vI|apply vJ|apply vK|apply vL|apply vM|apply vN); (focus (simp (disch := (first|with_reducible assumption|omega|((repeat (first|rw [nP]|rw [nS]))<;>omega)|fail)) only [go_sem, Env.ev, Env.get, ↓reduceIte, Ft.row] <;> rfl)); (first|(with_reducible (first|apply vO|apply vP|apply vQ|apply vR|apply vS|apply vT|apply vU); try simp only [Env.put])|with_reducible refine (?_ : WQ _ _ _ _ _ _)))
   |fail
  exact ⟨.inr trivial, _, rR, by simp⟩
 ·rw [hd] at h1
  refine evp_of (vf := vf14) rfl ?_
  unfold vf14; refine zE ?_
  repeat first
   |(apply vq_isoI h1 rfl rfl mapO_row)
   |(apply vq_isoI h2 rfl rfl mapO_row)
   |with_reducible first|apply vA|apply vB|apply vC
   |((with_reducible apply vD); (focus rfl))
   |((with_reducible first|apply vE|apply vF|apply vG|apply vH); simp only [Env.keep, Env.get, Env.ev, List.map, Nat.reduceEqDiff, ↓reduceIte, Then, Out'])
   |((with_reducible first|apply vI|apply vJ|apply vK|apply vL|apply vM|apply vN); (focus (simp (disch := (first|with_reducible assumption|omega|((repeat (first|rw [nP]|rw [nS]))<;>omega)|fail)) only [go_sem, Env.ev, Env.get, ↓reduceIte, Ft.row] <;> rfl)); (first|(with_reducible (first|apply vO|apply vP|apply vQ|apply vR|apply vS|apply vT|apply vU); try simp only [Env.put])|with_reducible refine (?_ : WQ _ _ _ _ _ _)))
   |fail
  exact ⟨.inr trivial, _, rR, by simp⟩
end Go.Proofs.Ytlaeblilmppodaa
namespace Go.Proofs.Ytlaeblilmppodaa
open Go.V
set_option maxRecDepth 100000
theorem awake18 : ∃ s', Ev vfs 11 [] Store.empty (.bool true) s' := ev_of_fst (n := 400) (by kernel_rfl)
end Go.Proofs.Ytlaeblilmppodaa
namespace Go.V
variable {σ : Nat -> Nat} {l : List Nat} {c : Nat}
end Go.V
namespace Go.V
def exprF (mo : Mo) (p : Pr) (e : Ed) : Ft := if 0 <= e.expr then readF mo.tree (mo.chans.map Ch.name) (varB p.names p.vars) (mo.tree.length + 1) e.expr.toNat ⟨0, 0, 0, 0, 0, false⟩ else ⟨0, 0, 0, 0, 0, false⟩
def actF (e : Ed) (f : Ft) : Ft :=
 if e.act = 1 then { f with writes := bitN e.var }
 else if e.act = 2 then { f with sends := bitN e.chan }
 else if e.act = 3 then { f with writes := bitN e.var, recvs := bitN e.chan } else f
theorem edgeF_eq (mo : Mo) (p : Pr) (e : Ed) : edgeF mo p e = actF e (exprF mo p e) := rfl
end Go.V
namespace Go.V
variable {fs : FuncId -> Option VFunc}
def IsoC (fs : FuncId -> Option VFunc) (f : FuncId) (args : List D) (d : D) : Prop := ∃ r s1, Ev fs f args Store.empty r s1 /\ ice s1.get 20 r = some d
theorem IsoC.det {f : FuncId} {args : List D} {d d' : D} (h : IsoC fs f args d) (k : IsoC fs f args d') : d = d' := by
 obtain ⟨r, s1, h1, h2⟩ := h
 obtain ⟨r', s1', k1, k2⟩ := k
 obtain ⟨rfl, rfl⟩ := h1.det k1
 rw [h2] at k2
 exact Option.some.inj k2
def PZ (d : D) : Prop := pureD d = true /\ Fz d
theorem pz_int {k : IntKind} {n : Int} : PZ (.int k n) := ⟨rfl, fz_int⟩
theorem FL.pz {sz : Nat} {d : D} {rows : List (List D)} (h : FL sz d rows) : PZ d := ⟨h.pure, h.fz⟩
theorem pz_agg {l : List D} (h : ∀ d ∈ l, pureD d = true /\ ∀ g n, ice g (n + 2) d = some d) : PZ (.agg l) := ⟨by
 show pureL l = true
 induction l with
 | nil => rfl
 | cons a r ih => simp only [pureL, (h a (by simp)).1, Bool.true_and]; exact ih fun d hd => h d (by simp [hd]), fz_agg fun d hd => (h d hd).2⟩
def End (Q : VExit -> Env -> Store -> Prop) (e : VExit) (env : Env) (s : Store) : Prop := Q e env s
def RgK (vars : List Nat) (Q : VExit -> Env -> Store -> Prop) (env : Env) (s : Store) : Prop := End Q .normal (env.keep vars) s
abbrev Kt := Env -> Store -> Prop
abbrev Ops := List (Nat × VOper)
abbrev Prs := List (Nat × Nat)
def freeB (pairs : Prs) (ops : Ops) : Bool := ops.all fun o => pairs.all fun p => p.2 != o.1
def XQ (fs : FuncId -> Option VFunc) : Prs -> Ops -> Env -> Store -> Kt -> Prop
 | _, [], env, s, K => K env s
 | pairs, (i, ⟨dst, op, g⟩) :: rest, env, s, K =>
   let run : Prop := match dst, op with
    | some t, .p o => match evP env o with
      | some d => XQ fs pairs rest ((t, d) :: env) s K
      | none => False
    | some t, .r o => match evR env s.get o with
      | some d => XQ fs pairs rest ((t, d) :: env) s K
      | none => False
    | some t, .a o => match pairs with
      | [] => match evA env o with
        | some (ob, m) => XQ fs [] rest ((t, m.at s.next) :: env) (s.push ob) K
        | none => False
      | p :: ps => if freeB (p :: ps) ((i, ⟨some t, .a o, none⟩) :: rest) = true then (match evA env o with
        | some (ob, m) => XQ fs [] rest ((t, m.at s.next) :: env) (s.push ob) K
        | none => False) else WQ fs (p :: ps) ((i, ⟨some t, .a o, none⟩) :: rest) env s K
    | none, .w n a v => match pairs with
      | [] => match evW env s.get n a v with
        | some (id, ob) => XQ fs [] rest env (s.set id (some ob)) K
        | none => False
      | p :: ps => if freeB (p :: ps) ((i, ⟨none, .w n a v, none⟩) :: rest) = true then (match evW env s.get n a v with
        | some (id, ob) => XQ fs [] rest env (s.set id (some ob)) K
        | none => False) else WQ fs (p :: ps) ((i, ⟨none, .w n a v, none⟩) :: rest) env s K
    | some t, .m o => match o, pairs with
      | .call .iso (.cst (.fn f [])) args, pairs => match mapO (ice s.get 20) (env.evL args) with
        | some l => ∃ d, IsoC fs f l d /\ (scalarD d || pureL (env.evL args)) = true /\ XQ fs pairs rest ((t, d) :: env) s K
        | none => False
      | .append sz bytes a x, [] => match appendV sz bytes (env.ev a) (env.ev x) s with
        | some (d, s') => XQ fs [] rest ((t, d) :: env) s' K
        | none => False
      | .append sz bytes a x, p :: ps => if freeB (p :: ps) ((i, ⟨some t, .m (.append sz bytes a x), none⟩) :: rest) = true then (match appendV sz bytes (env.ev a) (env.ev x) s with
        | some (d, s') => XQ fs [] rest ((t, d) :: env) s' K
        | none => False) else WQ fs (p :: ps) ((i, ⟨some t, .m (.append sz bytes a x), none⟩) :: rest) env s K
      | o, pairs => WQ fs pairs ((i, ⟨some t, .m o, none⟩) :: rest) env s K
    | dst, op => WQ fs pairs ((i, ⟨dst, op, none⟩) :: rest) env s K
   match g with
   | none => run
   | some (r, b) => Way (env.get r) b run (XQ fs pairs rest (env.put dst (.tup [])) s K)
def BP (r : Option D) (fs : FuncId -> Option VFunc) (pairs : Prs) (t : Nat) (rest : Ops) (env : Env) (s : Store) (K : Kt) : Prop := match r with
 | some d => XQ fs pairs rest ((t, d) :: env) s K
 | none => False
def BA (r : Option (VObj × Made)) (fs : FuncId -> Option VFunc) (t : Nat) (rest : Ops) (env : Env) (s : Store) (K : Kt) : Prop := match r with
 | some (ob, m) => XQ fs [] rest ((t, m.at s.next) :: env) (s.push ob) K
 | none => False
def BW (r : Option (Nat × VObj)) (fs : FuncId -> Option VFunc) (rest : Ops) (env : Env) (s : Store) (K : Kt) : Prop := match r with
 | some (id, ob) => XQ fs [] rest env (s.set id (some ob)) K
 | none => False
def BM (r : Option (D × Store)) (fs : FuncId -> Option VFunc) (t : Nat) (rest : Ops) (env : Env) (K : Kt) : Prop := match r with
 | some (d, s) => XQ fs [] rest ((t, d) :: env) s K
 | none => False
def BC (fs : FuncId -> Option VFunc) (f : FuncId) (l : List D) (p : Bool) (pairs : Prs) (t : Nat) (rest : Ops) (env : Env) (s : Store) (K : Kt) : Prop := ∃ d, IsoC fs f l d /\ (scalarD d || p) = true /\ XQ fs pairs rest ((t, d) :: env) s K
def BL (r : Option (List D)) (p : Bool) (fs : FuncId -> Option VFunc) (f : FuncId) (pairs : Prs) (t : Nat) (rest : Ops) (env : Env) (s : Store) (K : Kt) : Prop := match r with
 | some l => BC fs f l p pairs t rest env s K
 | none => False
def BF (b : Bool) (d : D) (fs : FuncId -> Option VFunc) (pairs : Prs) (t : Nat) (rest : Ops) (env : Env) (s : Store) (K : Kt) : Prop := match b with
 | true => XQ fs pairs rest ((t, d) :: env) s K
 | false => False
def GW (d : D) (b : Bool) (fs : FuncId -> Option VFunc) (pairs : Prs) (x : Nat × VOper) (t : Option Nat) (rest : Ops) (env : Env) (s : Store) (K : Kt) : Prop := Way d b (XQ fs pairs (x :: rest) env s K) (XQ fs pairs rest (env.put t (.tup [])) s K)
def NeId (a b : Nat) : Prop := a ≠ b
def NotIn (id : Nat) : List Nat -> Prop
 | [] => True
 | x :: r => NeId id x /\ NotIn id r
theorem notIn_mem {id : Nat} : ∀ {l : List Nat}, NotIn id l -> id ∉ l
 | [], _ => by simp
 | x :: r, h => by
   have := notIn_mem h.2
   have h1 : id ≠ x := h.1
   simp [h1, this]
def hasP : Prs -> Nat -> Nat -> Bool
 | [], _, _ => false
 | (a, b) :: r, i, j => match Nat.beq a i with
   | true => match Nat.beq b j with
     | true => true
     | false => hasP r i j
   | false => hasP r i j
theorem hasP_mem : ∀ {l : Prs} {i j : Nat}, (i, j) ∈ l -> hasP l i j = true
 | (a, b) :: r, i, j, h => by
   simp only [hasP]
   rcases List.mem_cons.1 h with h | h
   ·cases h
    have e : ∀ n : Nat, Nat.beq n n = true := fun n => Nat.beq_refl n
    rw [e, e]
   ·have ih := hasP_mem h
    split
    ·split
     ·rfl
     ·exact ih
    ·exact ih
def LdOk (pairs : Prs) (i id : Nat) : List Ent -> Prop
 | [] => True
 | e :: T => (hasP pairs e.i i = true -> NotIn id e.eff) /\ LdOk pairs i id T
theorem ldOk_all {pairs : Prs} {i id : Nat} : ∀ {T : List Ent}, LdOk pairs i id T -> ∀ e ∈ T, (e.i, i) ∈ pairs -> id ∉ e.eff
 | e :: T, h, x, hx, hp => by
   rcases List.mem_cons.1 hx with rfl | hx
   ·exact notIn_mem (h.1 (hasP_mem hp))
   ·exact ldOk_all h.2 x hx hp
def NeO (r : Option Nat) (id : Nat) : Prop := match r with
 | some x => NeId x id
 | none => True
def WrOk (pairs : Prs) (i id : Nat) : List Ent -> Prop
 | [] => True
 | e :: T => (hasP pairs e.i i = true -> NeO e.rd id /\ NotIn id e.eff) /\ WrOk pairs i id T
theorem wrOk_all {pairs : Prs} {i id : Nat} : ∀ {T : List Ent}, WrOk pairs i id T -> ∀ e ∈ T, (e.i, i) ∈ pairs -> e.rd ≠ some id /\ id ∉ e.eff
 | e :: T, h, x, hx, hp => by
   rcases List.mem_cons.1 hx with rfl | hx
   ·obtain ⟨h1, h2⟩ := h.1 (hasP_mem hp)
    refine ⟨fun he => ?_, notIn_mem h2⟩
    rw [he] at h1; exact h1 rfl
   ·exact wrOk_all h.2 x hx hp
def EfOk (pairs : Prs) (i : Nat) (E : List Nat) : List Ent -> Prop
 | [] => True
 | e :: T => (hasP pairs e.i i = true -> match e.rd with | some x => NotIn x E | none => True) /\ EfOk pairs i E T
theorem efOk_all {pairs : Prs} {i : Nat} {E : List Nat} : ∀ {T : List Ent}, EfOk pairs i E T -> ∀ e ∈ T, (e.i, i) ∈ pairs -> ∀ id, e.rd = some id -> id ∉ E
 | e :: T, h, x, hx, hp, id, hr => by
   rcases List.mem_cons.1 hx with rfl | hx
   ·have h1 := h.1 (hasP_mem hp)
    rw [hr] at h1
    exact notIn_mem h1
   ·exact efOk_all h.2 x hx hp id hr
def XX (fs : FuncId -> Option VFunc) (pairs : Prs) : List Ent -> Ops -> Env -> Store -> Kt -> Prop
 | _, [], env, s, K => K env s
 | T, (i, ⟨dst, op, g⟩) :: rest, env, s, K =>
   let run : Prop := match dst, op with
    | some t, .p o => match evP env o with
      | some d => XX fs pairs T rest ((t, d) :: env) s K
      | none => False
    | some t, .r (.load n x) => match env.ev x with
      | .fp cs off => match ldV s.get n (.fp cs off) with
        | some d => XX fs pairs T rest ((t, d) :: env) s K
        | none => False
      | .ptr id off => match ldV s.get n (.ptr id off) with
        | some d => LdOk pairs i id T /\ XX fs pairs (⟨i, some id, []⟩ :: T) rest ((t, d) :: env) s K
        | none => False
      | _ => False
    | some t, .a o => match evA env o with
      | some (ob, m) => XX fs pairs (⟨i, none, [s.next]⟩ :: T) rest ((t, m.at s.next) :: env) (s.push ob) K
      | none => False
    | none, .w n a v => match env.ev a with
      | .ptr id _ => match evW env s.get n a v with
        | some (id', ob) => id' = id /\ WrOk pairs i id T /\ XX fs pairs (⟨i, some id, [id]⟩ :: T) rest env (s.set id (some ob)) K
        | none => False
      | _ => False
    | some t, .m (.call .iso (.cst (.fn f [])) args) => match mapO (ice s.get 20) (env.evL args) with
      | some l => ∃ d, IsoC fs f l d /\ (scalarD d || pureL (env.evL args)) = true /\ XX fs pairs T rest ((t, d) :: env) s K
      | none => False
    | some t, .m (.append sz bytes a x) => ∃ d s' E, appendV sz bytes (env.ev a) (env.ev x) s = some (d, s') /\ s.next <= s'.next /\ (∀ id, id ∉ E -> s.get id = s'.get id) /\ EfOk pairs i E T /\ XX fs pairs (⟨i, none, E⟩ :: T) rest ((t, d) :: env) s' K
    | dst, op => WX fs pairs T ((i, ⟨dst, op, none⟩) :: rest) env s K
   match g with
   | none => run
   | some (r, b) => Way (env.get r) b run (XX fs pairs T rest (env.put dst (.tup [])) s K)
theorem wx_guard {pairs T i t o r b rest s Q} {env : Env} {d : D} (hw : env.get r = d)
 (h : Way d b (WX fs pairs T ((i, ⟨t, o, none⟩) :: rest) env s Q) (WX fs pairs T rest (env.put t (.tup [])) s Q)) : WX fs pairs T ((i, ⟨t, o, some (r, b)⟩) :: rest) env s Q := by
 unfold Way at h
 split at h
 ·rename_i c
  by_cases hc : c = b
  ·rw [if_pos hc] at h; subst hc
   intro tr ht
   obtain ⟨n, env', s', h1, h2⟩ := h tr ht
   refine ⟨n, env', s', ?_, h2⟩
   simp only [runOps, wantV, hw, beq_self_eq_true] at h1 ⊢
   exact h1
  ·rw [if_neg hc] at h
   exact wx_skip (by simp only [wantV, hw]; cases c <;> cases b <;> simp_all) h
 ·exact wx_skip (by simp only [wantV, hw]) h
 ·exact h.elim
theorem xx_sound {pairs : Prs} : ∀ {T : List Ent} {ops : Ops} {env : Env} {s : Store} {K : Kt}, XX fs pairs T ops env s K -> WX fs pairs T ops env s K
 | T, [], env, s, K, h => wx_nil h
 | T, (i, ⟨dst, op, g⟩) :: rest, env, s, K, h => by
   have key : ∀ (h : XX fs pairs T ((i, ⟨dst, op, none⟩) :: rest) env s K), WX fs pairs T ((i, ⟨dst, op, none⟩) :: rest) env s K := by
    intro h
    unfold XX at h
    simp only at h
    split at h
    ·split at h
     ·rename_i d e; exact wx_p e (xx_sound h)
     ·exact h.elim
    ·split at h
     ·rename_i e
      split at h
      ·rename_i d e2; exact wx_fp e e2 (xx_sound h)
      ·exact h.elim
     ·rename_i e
      split at h
      ·rename_i d e2; exact wx_ld e e2 (ldOk_all h.1) (xx_sound h.2)
      ·exact h.elim
     ·exact h.elim
    ·split at h
     ·rename_i ob m e; exact wx_a e (xx_sound h)
     ·exact h.elim
    ·split at h
     ·rename_i e
      split at h
      ·rename_i id' ob e2
       obtain ⟨rfl, h2, h3⟩ := h
       exact wx_w e e2 (wrOk_all h2) (xx_sound h3)
      ·exact h.elim
     ·exact h.elim
    ·split at h
     ·rename_i l hl
      obtain ⟨d, ⟨r, s1, h1, h2⟩, h3, h4⟩ := h
      exact wx_iso rfl hl h1 h2 h3 (xx_sound h4)
     ·exact h.elim
    ·obtain ⟨d, s', E, h1, h2, h3, h4, h5⟩ := h
     exact wx_m ⟨0, by simp only [evM]; exact h1⟩ h3 h2 (efOk_all h4) (xx_sound h5)
    ·exact h
   cases g with
   | none => exact key h
   | some rb =>
     obtain ⟨r, b⟩ := rb
     refine wx_guard (d := env.get r) rfl ?_
     have h' : Way (env.get r) b (XX fs pairs T ((i, ⟨dst, op, none⟩) :: rest) env s K) (XX fs pairs T rest (env.put dst (.tup [])) s K) := h
     unfold Way at h' ⊢
     split at h'
     ·rename_i c _
      split at h'
      ·rename_i hc; simp only [hc, if_true]; exact key h'
      ·rename_i hc; simp only [hc, if_false]; exact xx_sound h'
     ·exact xx_sound h'
     ·exact h'
def RX (fs : FuncId -> Option VFunc) (pairs : Prs) (ops : Ops) (env : Env) (s : Store) (K : Kt) : Prop := match pairs with
 | [] => XQ fs [] ops env s K
 | p :: ps => XX fs (p :: ps) [] ops env s K
def thenF (k : Env -> Store -> Prop) (Q : VExit -> Env -> Store -> Prop) : VExit -> Env -> Store -> Prop
 | .normal, env, s => k env s
 | e, env, s => Q e env s
def YW (fs : FuncId -> Option VFunc) (vars : List Nat) : VCode -> (VExit -> Env -> Store -> Prop) -> Env -> Store -> Prop
 | .skip, Q, env, s => End Q .normal env s
 | .region r, Q, env, s => RX fs r.pairs r.ops env s (RgK vars Q)
 | .seq a b, Q, env, s => YW fs vars a (thenF (YW fs vars b Q) Q) env s
 | .cond c x y, Q, env, s => WayC (env.ev c) (YW fs vars x Q env s) (YW fs vars y Q env s)
 | .block id b, Q, env, s => YW fs vars b (Out' id Q) env s
 | .loop b, Q, env, s => WP fs vars (.loop b) env s Q
 | .exit id, Q, env, s => End Q (.exit id) env s
 | .ret, Q, env, s => End Q .ret env s
def ThenY (fs : FuncId -> Option VFunc) (vars : List Nat) (b : VCode) (Q : VExit -> Env -> Store -> Prop) : VExit -> Env -> Store -> Prop
 | .normal, env, s => YW fs vars b Q env s
 | e, env, s => Q e env s
theorem xq_sound : ∀ {pairs : Prs} {ops : Ops} {env : Env} {s : Store} {K : Kt}, XQ fs pairs ops env s K -> WQ fs pairs ops env s K
 | pairs, [], env, s, K, h => vq_nil h
 | pairs, (i, ⟨dst, op, g⟩) :: rest, env, s, K, h => by
   have key : ∀ (h : XQ fs pairs ((i, ⟨dst, op, none⟩) :: rest) env s K), WQ fs pairs ((i, ⟨dst, op, none⟩) :: rest) env s K := by
    intro h
    unfold XQ at h
    simp only at h
    split at h
    ·split at h
     ·rename_i d e; exact vq_p e (xq_sound h)
     ·exact h.elim
    ·split at h
     ·rename_i d e; exact vq_r e (xq_sound h)
     ·exact h.elim
    ·split at h
     ·split at h
      ·rename_i ob m e; exact vq_a e (xq_sound h)
      ·exact h.elim
     ·split at h
      ·rename_i hf
       refine vq_free' hf ?_
       split at h
       ·rename_i ob m e; exact vq_a e (xq_sound h)
       ·exact h.elim
      ·exact h
    ·split at h
     ·split at h
      ·rename_i ob m e; exact vq_w e (xq_sound h)
      ·exact h.elim
     ·split at h
      ·rename_i hf
       refine vq_free' hf ?_
       split at h
       ·rename_i ob m e; exact vq_w e (xq_sound h)
       ·exact h.elim
      ·exact h
    ·split at h
     ·split at h
      ·rename_i l hl
       obtain ⟨d, ⟨r, s1, h1, h2⟩, h3, h4⟩ := h
       exact vq_iso hl h1 h2 h3 (xq_sound h4)
      ·exact h.elim
     ·split at h
      ·rename_i d s' e; exact vq_append e (xq_sound h)
      ·exact h.elim
     ·split at h
      ·rename_i hf
       refine vq_free' hf ?_
       split at h
       ·rename_i d s' e; exact vq_append e (xq_sound h)
       ·exact h.elim
      ·exact h
     ·exact h
    ·exact h
   cases g with
   | none => exact key h
   | some rb =>
     obtain ⟨r, b⟩ := rb
     refine vq_g (d := env.get r) rfl ?_
     have h' : Way (env.get r) b (XQ fs pairs ((i, ⟨dst, op, none⟩) :: rest) env s K) (XQ fs pairs rest (env.put dst (.tup [])) s K) := h
     unfold Way at h' ⊢
     split at h'
     ·rename_i c _
      split at h'
      ·rename_i hc; simp only [hc, if_true]; exact key h'
      ·rename_i hc; simp only [hc, if_false]; exact xq_sound h'
     ·exact xq_sound h'
     ·exact h'
theorem yw_sound {vars : List Nat} : ∀ {c : VCode} {Q : VExit -> Env -> Store -> Prop} {env : Env} {s : Store}, YW fs vars c Q env s -> WP fs vars c env s Q
 | .skip, _, _, _, h => vw_skip h
 | .region ⟨ops, [], dr⟩, Q, _, _, h => vw_rg (xq_sound h)
 | .region ⟨ops, p :: ps, dr⟩, Q, _, _, h => vw_rgx (xx_sound h)
 | .seq a b, Q, env, s, h => by
   refine vw_seq ((yw_sound (c := a) h).mono fun e env s h => ?_)
   cases e with
   | normal => exact yw_sound (c := b) h
   | exit id => exact h
   | ret => exact h
 | .cond c x y, Q, env, s, h => by
   refine vw_condm (d := env.ev c) rfl ?_
   have h' : WayC (env.ev c) (YW fs vars x Q env s) (YW fs vars y Q env s) := h
   unfold WayC at h' ⊢
   split at h'
   ·split at h'
    ·rename_i hc; simp only [hc, if_true]; exact yw_sound h'
    ·rename_i hc; simp only [hc]; exact yw_sound h'
   ·exact h'
 | .block id b, Q, env, s, h => vw_block (yw_sound (c := b) h)
 | .loop b, Q, env, s, h => h
 | .exit id, _, _, _, h => vw_exit h
 | .ret, _, _, _, h => vw_ret h
theorem then_eq {vars b Q} : thenF (YW fs vars b Q) Q = ThenY fs vars b Q := by
 funext e env s
 cases e <;> rfl
theorem yw_skip {vars Q env s} : YW fs vars .skip Q env s = End Q .normal env s := Eq.trans rfl rfl
theorem yw_seq {vars a b Q env s} : YW fs vars (.seq a b) Q env s = YW fs vars a (ThenY fs vars b Q) env s := by rw [<- then_eq]; rfl
def CW (d : D) (fs : FuncId -> Option VFunc) (vars : List Nat) (x y : VCode) (Q : VExit -> Env -> Store -> Prop) (env : Env) (s : Store) : Prop := WayC d (YW fs vars x Q env s) (YW fs vars y Q env s)
theorem yw_cond {vars c x y Q env s} : YW fs vars (.cond c x y) Q env s = CW (env.ev c) fs vars x y Q env s := Eq.trans rfl rfl
theorem yw_block {vars id b Q env s} : YW fs vars (.block id b) Q env s = YW fs vars b (Out' id Q) env s := Eq.trans rfl rfl
theorem yw_exit {vars id Q env s} : YW fs vars (.exit id) Q env s = End Q (.exit id) env s := Eq.trans rfl rfl
theorem yw_loop {vars b Q env s} : YW fs vars (.loop b) Q env s = WP fs vars (.loop b) env s Q := Eq.trans rfl rfl
theorem yw_ret {vars Q env s} : YW fs vars .ret Q env s = End Q .ret env s := Eq.trans rfl rfl
theorem xq_nil {pairs vars Q env s} : XQ fs pairs [] env s (RgK vars Q) = End Q .normal (env.keep vars) s := Eq.trans rfl rfl
theorem xq_i {pairs i t f args rest env s K} : XQ fs pairs ((i, ⟨some t, .m (.call .iso (.cst (.fn f [])) args), none⟩) :: rest) env s K = BL (mapO (ice s.get 20) (env.evL args)) (pureL (env.evL args)) fs f pairs t rest env s K := by
 unfold XQ BL BC; cases pairs <;> rfl
theorem xq_c {pairs i t f args rest env s K} : XQ fs pairs ((i, ⟨some t, .m (.call .raw f args), none⟩) :: rest) env s K = WQ fs pairs ((i, ⟨some t, .m (.call .raw f args), none⟩) :: rest) env s K := by cases pairs <;> rfl
theorem xq_ap {i t sz bytes a x rest env s K} : XQ fs [] ((i, ⟨some t, .m (.append sz bytes a x), none⟩) :: rest) env s K = BM (appendV sz bytes (env.ev a) (env.ev x) s) fs t rest env K := Eq.trans rfl rfl
theorem bp_s {d pairs t rest env s K} : BP (some d) fs pairs t rest env s K = XQ fs pairs rest ((t, d) :: env) s K := Eq.trans rfl rfl
theorem ba_p {ob t rest env s K} : BA (some (ob, .ptr)) fs t rest env s K = XQ fs [] rest ((t, .ptr s.next 0) :: env) (s.push ob) K := Eq.trans rfl rfl
theorem ba_r {ob t rest env s K l sz} : BA (some (ob, .arr l sz)) fs t rest env s K = XQ fs [] rest ((t, .arr s.next 0 l sz) :: env) (s.push ob) K := Eq.trans rfl rfl
theorem bw_s {id ob rest env s K} : BW (some (id, ob)) fs rest env s K = XQ fs [] rest env (s.set id (some ob)) K := Eq.trans rfl rfl
theorem bl_s {l p f pairs t rest env s K} : BL (some l) p fs f pairs t rest env s K = BC fs f l p pairs t rest env s K := Eq.trans rfl rfl
theorem bf_t {d pairs t rest env s K} : BF true d fs pairs t rest env s K = XQ fs pairs rest ((t, d) :: env) s K := Eq.trans rfl rfl
theorem cw_t {vars x y Q env s} : CW (.bool true) fs vars x y Q env s = YW fs vars x Q env s := by simp [CW, WayC]
theorem cw_f {vars x y Q env s} : CW (.bool false) fs vars x y Q env s = YW fs vars y Q env s := by simp [CW, WayC]
theorem gw_tt {pairs x t rest env s K} : GW (.bool true) true fs pairs x t rest env s K = XQ fs pairs (x :: rest) env s K := by simp [GW, Way]
theorem gw_ff {pairs x t rest env s K} : GW (.bool false) false fs pairs x t rest env s K = XQ fs pairs (x :: rest) env s K := by simp [GW, Way]
theorem gw_tf {pairs x t rest env s K} : GW (.bool true) false fs pairs x t rest env s K = XQ fs pairs rest (env.put t (.tup [])) s K := by simp [GW, Way]
theorem gw_ft {pairs x t rest env s K} : GW (.bool false) true fs pairs x t rest env s K = XQ fs pairs rest (env.put t (.tup [])) s K := by simp [GW, Way]
theorem gw_u {b pairs x t rest env s K} : GW (.tup []) b fs pairs x t rest env s K = XQ fs pairs rest (env.put t (.tup [])) s K := Eq.trans rfl rfl
theorem put_s {env : Env} {t d} : env.put (some t) d = (t, d) :: env := Eq.trans rfl rfl
theorem en_tn {vars b Q env s} : End (ThenY fs vars b Q) .normal env s = YW fs vars b Q env s := Eq.trans rfl rfl
theorem en_te {vars b Q id env s} : End (ThenY fs vars b Q) (.exit id) env s = End Q (.exit id) env s := Eq.trans rfl rfl
theorem en_tr {vars b Q env s} : End (ThenY fs vars b Q) .ret env s = End Q .ret env s := Eq.trans rfl rfl
theorem en_on {id Q env s} : End (Out' id Q) .normal env s = End Q .normal env s := Eq.trans rfl rfl
theorem en_or {id Q env s} : End (Out' id Q) .ret env s = End Q .ret env s := Eq.trans rfl rfl
theorem en_oe {id id' Q env s} : End (Out' id Q) (.exit id') env s = if id' = id then End Q .normal env s else End Q (.exit id') env s := Eq.trans rfl rfl
theorem cw_sp {b : Bool} {vars x y Q env s} (h1 : b = true -> YW fs vars x Q env s) (h2 : b = false -> YW fs vars y Q env s) : CW (.bool b) fs vars x y Q env s := by
 cases b
 ·rw [cw_f]; exact h2 rfl
 ·rw [cw_t]; exact h1 rfl
theorem gw_sp {c b : Bool} {pairs x t rest env s K} (h1 : c = true -> GW (.bool true) b fs pairs x t rest env s K) (h2 : c = false -> GW (.bool false) b fs pairs x t rest env s K) : GW (.bool c) b fs pairs x t rest env s K := by
 cases c
 ·exact h2 rfl
 ·exact h1 rfl
theorem ic_nil {g : Look} {n : Nat} : mapO (ice g (n + 1)) [] = some [] := Eq.trans rfl rfl
theorem ic_int {g : Look} {n : Nat} {k : IntKind} {x : Int} {l : List D} : mapO (ice g (n + 1)) (.int k x :: l) = (mapO (ice g (n + 1)) l).map (.int k x :: ·) := by
 simp only [mapO, ice]; cases mapO (ice g (n + 1)) l <;> rfl
theorem ic_bool {g : Look} {n : Nat} {x : Bool} {l : List D} : mapO (ice g (n + 1)) (.bool x :: l) = (mapO (ice g (n + 1)) l).map (.bool x :: ·) := by
 simp only [mapO, ice]; cases mapO (ice g (n + 1)) l <;> rfl
theorem ic_str {g : Look} {n : Nat} {x : ByteArray} {l : List D} : mapO (ice g (n + 1)) (.str x :: l) = (mapO (ice g (n + 1)) l).map (.str x :: ·) := by
 simp only [mapO, ice]; cases mapO (ice g (n + 1)) l <;> rfl
theorem ic_pz {g : Look} {n : Nat} {d : D} {l : List D} (h : PZ d) : mapO (ice g (n + 3)) (d :: l) = (mapO (ice g (n + 3)) l).map (d :: ·) := by
 simp only [mapO, h.2 g n]; cases mapO (ice g (n + 3)) l <;> rfl
theorem pd_pz {d : D} (h : PZ d) : pureD d = true := h.1
theorem pl_nil : pureL [] = true := Eq.trans rfl rfl
theorem pl_cons {d : D} {l : List D} : pureL (d :: l) = (pureD d && pureL l) := Eq.trans rfl rfl
theorem pd_int {k : IntKind} {n : Int} : pureD (.int k n) = true := Eq.trans rfl rfl
theorem pd_bool {b : Bool} : pureD (.bool b) = true := Eq.trans rfl rfl
theorem pd_str {b : ByteArray} : pureD (.str b) = true := Eq.trans rfl rfl
theorem sd_int {k : IntKind} {n : Int} : scalarD (.int k n) = true := Eq.trans rfl rfl
theorem sd_bool {b : Bool} : scalarD (.bool b) = true := Eq.trans rfl rfl
theorem sd_agg {l : List D} : scalarD (.agg l) = scalarL l := Eq.trans rfl rfl
theorem sd_tup {l : List D} : scalarD (.tup l) = scalarL l := Eq.trans rfl rfl
theorem sl_nil : scalarL [] = true := Eq.trans rfl rfl
theorem sl_cons {d : D} {l : List D} : scalarL (d :: l) = (scalarD d && scalarL l) := Eq.trans rfl rfl
theorem ice_int {g : Look} {n : Nat} {k : IntKind} {x : Int} : ice g (n + 1) (.int k x) = some (.int k x) := Eq.trans rfl rfl
theorem ice_bool {g : Look} {n : Nat} {x : Bool} : ice g (n + 1) (.bool x) = some (.bool x) := Eq.trans rfl rfl
theorem ice_tup {g : Look} {n : Nat} {l : List D} : ice g (n + 1) (.tup l) = (mapO (ice g n) l).map .tup := Eq.trans rfl rfl
theorem res_1 {env : Env} {s : Store} {x} : resOf env s [x] = resOne env s x := by
 unfold resOf resAll
 cases resOne env s x <;> rfl
theorem res_2 {env : Env} {s : Store} {x y l} : resOf env s (x :: y :: l) = (resAll env s (x :: y :: l)).map .tup := by
 unfold resOf
 simp only [resAll]
 cases resOne env s x <;> cases resOne env s y <;> cases resAll env s l <;> rfl
theorem res_n {env : Env} {s : Store} : resAll env s [] = some [] := Eq.trans rfl rfl
theorem res_c {env : Env} {s : Store} {x l} : resAll env s (x :: l) = (resOne env s x).bind fun d => (resAll env s l).map (d :: ·) := by
 simp only [resAll]
 cases resOne env s x <;> cases resAll env s l <;> rfl
theorem res_o {env : Env} {s : Store} {t} : resOne env s (t, none) = some (env.get t) := Eq.trans rfl rfl
def resPl (s : Store) (n : Option Nat) : D -> Option D
 | .ptr id off => ldV s.get n (.ptr id off)
 | _ => none
theorem res_s {env : Env} {s : Store} {t n} : resOne env s (t, some n) = resPl s n (env.get t) := by
 simp only [resOne, resPl]
 cases h : env.get t <;> rfl
theorem res_l {s : Store} {n id off} : resPl s n (.ptr id off) = ldV s.get n (.ptr id off) := Eq.trans rfl rfl
def RetQ (res : List (Nat × Option (Option Nat))) (P : D -> Store -> Prop) : VExit -> Env -> Store -> Prop := fun e env s => (e = .normal ∨ e = .ret) /\ ∃ d, resOf env s res = some d /\ P d s
def RB (r : Option D) (s : Store) (P : D -> Store -> Prop) : Prop := match r with
 | some d => P d s
 | none => False
theorem rq_r {res P env s} : End (RetQ res P) .ret env s = RB (resOf env s res) s P := by
 unfold End RetQ RB
 apply propext
 cases resOf env s res <;> simp
theorem rq_n {res P env s} : End (RetQ res P) .normal env s = RB (resOf env s res) s P := by
 unfold End RetQ RB
 apply propext
 cases resOf env s res <;> simp
theorem rb_of {d s} {P : D -> Store -> Prop} (h : P d s) : RB (some d) s P := h
def IceQ (x : D) : D -> Store -> Prop := fun r s => ice s.get 20 r = some x
theorem rb_i {d s x} : RB (some d) s (IceQ x) = (ice s.get 20 d = some x) := Eq.trans rfl rfl
def IceP (P : D -> Prop) : D -> Store -> Prop := fun r s => ∃ d, ice s.get 20 r = some d /\ P d
theorem rb_p {d s P} : RB (some d) s (IceP P) = ∃ x, ice s.get 20 d = some x /\ P x := Eq.trans rfl rfl
theorem yevp {f : FuncId} {vf : VFunc} {args : List D} {s : Store} {P : D -> Store -> Prop} (hf : fs f = some vf) (h : YW fs vf.vars vf.code (RetQ vf.res P) (vf.vars.map fun t => (t, args.getD t .undef)) s) : EvP fs f args s P := evp_of hf (yw_sound h)
theorem yiso {f : FuncId} {vf : VFunc} {args : List D} {d : D} (hf : fs f = some vf) (h : YW fs vf.vars vf.code (RetQ vf.res (IceQ d)) (vf.vars.map fun t => (t, args.getD t .undef)) Store.empty) : IsoC fs f args d := by
 obtain ⟨r, s1, h1, h2⟩ := yevp hf h
 exact ⟨r, s1, h1, h2⟩
def IsoP (fs : FuncId -> Option VFunc) (f : FuncId) (args : List D) (P : D -> Prop) : Prop := ∃ d, IsoC fs f args d /\ P d
theorem yisop {f : FuncId} {vf : VFunc} {args : List D} {P : D -> Prop} (hf : fs f = some vf) (h : YW fs vf.vars vf.code (RetQ vf.res (IceP P)) (vf.vars.map fun t => (t, args.getD t .undef)) Store.empty) : IsoP fs f args P := by
 obtain ⟨r, s1, h1, d, h2, h3⟩ := yevp hf h
 exact ⟨d, ⟨r, s1, h1, h2⟩, h3⟩
theorem xq_evp {i t f args rest s K} {env : Env} {l : List D} {P : D -> Store -> Prop} (hr : EvP fs f l s P) (ha : env.evL args = l)
 (h : ∀ d s', P d s' -> XQ fs [] rest ((t, d) :: env) s' K) : WQ fs [] ((i, ⟨some t, .m (.call .raw (.cst (.fn f [])) args), none⟩) :: rest) env s K := vq_evpf hr ha fun d s' hp => xq_sound (h d s' hp)
inductive Rf {α : Type} (a b : α) : Prop where
 | mk (h : a = b)
def getO : Env -> Nat -> Option D
 | [], _ => none
 | (s, d) :: r, t => match Nat.beq s t with
   | true => some d
   | false => getO r t
theorem getO_get : ∀ {env : Env} {t : Nat} {d : D}, getO env t = some d -> env.get t = d
 | [], _, _, h => by simp [getO] at h
 | (s, d) :: r, t, d', h => by
   simp only [getO] at h
   split at h
   ·rename_i e
    have := Nat.eq_of_beq_eq_true e
    cases h
    simp only [Env.get, this, if_true]
   ·rename_i e
    have : s ≠ t := fun he => by subst he; simp at e
    simp only [Env.get, this, if_false]
    exact getO_get h
theorem get_is {env : Env} {t : Nat} {d : D} (h : Rf (getO env t) (some d)) : Env.get env t = d := getO_get h.1
def keepO : List Nat -> Env -> Option Env
 | [], _ => some []
 | t :: r, env => match getO env t with
   | some d => match keepO r env with
     | some l => some ((t, d) :: l)
     | none => none
   | none => none
theorem keepO_keep : ∀ {vars : List Nat} {env e : Env}, keepO vars env = some e -> env.keep vars = e
 | [], _, _, h => by simp [keepO] at h; exact h.symm
 | t :: r, env, e, h => by
   simp only [keepO] at h
   split at h
   ·rename_i d hd
    split at h
    ·rename_i l hl
     cases h
     show (t, env.get t) :: env.keep r = _
     rw [getO_get hd, keepO_keep hl]
    ·cases h
   ·cases h
theorem keep_is {vars : List Nat} {env e : Env} (h : Rf (keepO vars env) (some e)) : env.keep vars = e := keepO_keep h.1
def formE (vars l : List Nat) (e0 : Env) (f : Nat -> D) : Env := vars.map fun t => (t, if l.contains t then e0.get t else f t)
def hasB : List Nat -> Nat -> Bool
 | [], _ => false
 | s :: r, t => match Nat.beq s t with
   | true => true
   | false => hasB r t
theorem hasB_eq : ∀ {l : List Nat} {t : Nat}, hasB l t = l.contains t
 | [], _ => rfl
 | s :: r, t => by
   simp only [hasB, List.contains_cons]
   split
   ·rename_i e
    have := Nat.eq_of_beq_eq_true e
    simp [this]
   ·rename_i e
    have : (t == s) = false := by
     rw [beq_eq_false_iff_ne]; intro he; subst he; simp at e
    rw [this, Bool.false_or]; exact hasB_eq
def formO : List Nat -> List Nat -> Env -> (Nat -> D) -> Option Env
 | [], _, _, _ => some []
 | t :: r, l, e0, f => match hasB l t with
   | true => match getO e0 t with
     | some d => match formO r l e0 f with
       | some e => some ((t, d) :: e)
       | none => none
     | none => none
   | false => match formO r l e0 f with
     | some e => some ((t, f t) :: e)
     | none => none
theorem formO_form : ∀ {vars l : List Nat} {e0 e : Env} {f : Nat -> D}, formO vars l e0 f = some e -> formE vars l e0 f = e
 | [], _, _, _, _, h => by simp [formO] at h; exact h.symm
 | t :: r, l, e0, e, f, h => by
   simp only [formO] at h
   show (t, if l.contains t then e0.get t else f t) :: formE r l e0 f = e
   rw [<- hasB_eq]
   split at h
   ·rename_i hb
    split at h
    ·rename_i d hd
     split at h
     ·rename_i e' he
      cases h
      rw [hb, if_pos rfl, getO_get hd, formO_form he]
     ·cases h
    ·cases h
   ·rename_i hb
    split at h
    ·rename_i e' he
     cases h
     rw [hb, if_neg (by simp), formO_form he]
    ·cases h
theorem form_is {vars l : List Nat} {e0 e : Env} {f : Nat -> D} (h : Rf (formO vars l e0 f) (some e)) : formE vars l e0 f = e := formO_form h.1
def KeepE (vars l : List Nat) (e0 e : Env) : Prop := e.keep vars = e /\ e.keep l = e0.keep l
theorem keepE_is {vars l : List Nat} {e0 e x : Env} (h1 : Rf (keepO vars e) (some e)) (h2 : Rf (keepO l e0) (some x)) (h3 : Rf (keepO l e) (some x)) : KeepE vars l e0 e = True := eq_true ⟨keepO_keep h1.1, by rw [keepO_keep h2.1, keepO_keep h3.1]⟩
theorem keep_mem {l : List Nat} {e e0 : Env} (h : e.keep l = e0.keep l) {t : Nat} (ht : t ∈ l) : e.get t = e0.get t := by
 unfold Env.keep at h
 have := List.map_inj_left.1 h t ht
 simpa using this
theorem form_of {vars l : List Nat} {e0 e : Env} (h : KeepE vars l e0 e) : e = formE vars l e0 fun t => e.get t := by
 conv => lhs; rw [<- h.1]
 unfold Env.keep formE
 refine List.map_congr_left fun t _ => ?_
 by_cases ht : t ∈ l
 ·rw [if_pos (List.contains_iff_mem.2 ht), keep_mem h.2 ht]
 ·rw [if_neg (by simpa using ht)]
abbrev It := Nat -> (Nat -> D) -> Store -> Prop
def UpQ (vars l : List Nat) (e0 : Env) (n i : Nat) (I : It) (Q : VExit -> Env -> Store -> Prop) : VExit -> Env -> Store -> Prop
 | .normal, env, s => KeepE vars l e0 env /\ i < n /\ I (i + 1) (fun t => env.get t) s
 | e, env, s => Q e env s
theorem uq_n {vars l e0 n i I Q env s} : End (UpQ vars l e0 n i I Q) .normal env s = (KeepE vars l e0 env /\ i < n /\ I (i + 1) (fun t => env.get t) s) := Eq.trans rfl rfl
theorem uq_e {vars l e0 n i I Q id env s} : End (UpQ vars l e0 n i I Q) (.exit id) env s = End Q (.exit id) env s := Eq.trans rfl rfl
theorem uq_r {vars l e0 n i I Q env s} : End (UpQ vars l e0 n i I Q) .ret env s = End Q .ret env s := Eq.trans rfl rfl
theorem keepE_refl {vars l : List Nat} {e : Env} (h : Rf (keepO vars e) (some e)) : KeepE vars l e e := ⟨keepO_keep h.1, rfl⟩
theorem yw_up {vars b Q env0 s0} (l : List Nat) (a n : Nat) (I : It) (h1 : Rf (keepO vars env0) (some env0)) (ha : a <= n) (h0 : I a (fun t => env0.get t) s0) (hs : ∀ i f s, i <= n -> I i f s -> YW fs vars b (UpQ vars l env0 n i I Q) (formE vars l env0 f) s) : WP fs vars (.loop b) env0 s0 Q := by
 refine vw_loop_inv (fun k env s => ∃ i, i <= n /\ k = n - i /\ KeepE vars l env0 env /\ I i (fun t => env.get t) s) ?_ (n - a) _ _ ⟨a, ha, rfl, keepE_refl h1, h0⟩
 rintro k env s ⟨i, hi, rfl, hk, hI⟩
 have := hs i _ s hi hI
 rw [<- form_of hk] at this
 refine (yw_sound this).mono fun e env' s' h => ?_
 cases e with
 | normal =>
   obtain ⟨h1, h2, h3⟩ := h
   exact ⟨n - (i + 1), by omega, i + 1, by omega, rfl, h1, h3⟩
 | exit id => exact h
 | ret => exact h
def CutQ (vars l : List Nat) (e0 : Env) (P : (Nat -> D) -> Store -> Prop) (Q : VExit -> Env -> Store -> Prop) : VExit -> Env -> Store -> Prop
 | .normal, env, s => KeepE vars l e0 env /\ P (fun t => env.get t) s
 | e, env, s => Q e env s
theorem cq_n {vars l e0 P Q env s} : End (CutQ vars l e0 P Q) .normal env s = (KeepE vars l e0 env /\ P (fun t => env.get t) s) := Eq.trans rfl rfl
theorem WQ.mono {pairs ops env s} {K K' : Env -> Store -> Prop} (h : WQ fs pairs ops env s K) (hk : ∀ env s, K env s -> K' env s) : WQ fs pairs ops env s K' := fun tr ht => by
 obtain ⟨n, env', s', h1, h2⟩ := h tr ht
 exact ⟨n, env', s', h1, hk _ _ h2⟩
theorem Way.mono {d : D} {b : Bool} {A B A' B' : Prop} (h : Way d b A B) (h1 : A -> A') (h2 : B -> B') : Way d b A' B' := by
 unfold Way at *; split at h
 ·split at h
  ·rename_i hc; rw [if_pos hc]; exact h1 h
  ·rename_i hc; rw [if_neg hc]; exact h2 h
 ·exact h2 h
 ·exact h
theorem WayC.mono {d : D} {A B A' B' : Prop} (h : WayC d A B) (h1 : A -> A') (h2 : B -> B') : WayC d A' B' := by
 unfold WayC at *; split at h
 ·split at h
  ·rename_i hc; rw [if_pos hc]; exact h1 h
  ·rename_i hc; rw [if_neg hc]; exact h2 h
 ·exact h
theorem xq_mono : ∀ {pairs : Prs} {ops : Ops} {env : Env} {s : Store} {K K' : Kt}, (∀ env s, K env s -> K' env s) -> XQ fs pairs ops env s K -> XQ fs pairs ops env s K'
 | pairs, [], env, s, K, K', hk, h => hk _ _ h
 | pairs, (i, ⟨dst, op, g⟩) :: rest, env, s, K, K', hk, h => by
   have key : ∀ (h : XQ fs pairs ((i, ⟨dst, op, none⟩) :: rest) env s K), XQ fs pairs ((i, ⟨dst, op, none⟩) :: rest) env s K' := by
    intro h
    unfold XQ at h ⊢
    simp only at h ⊢
    split at h
    ·split at h
     ·rename_i d e; (try simp only [e]); exact xq_mono hk h
     ·exact h.elim
    ·split at h
     ·rename_i d e; (try simp only [e]); exact xq_mono hk h
     ·exact h.elim
    ·split at h
     ·split at h
      ·rename_i d m e; (try simp only [e]); exact xq_mono hk h
      ·exact h.elim
     ·split at h
      ·rename_i hf
       rw [if_pos hf]
       split at h
       ·rename_i d m e; (try simp only [e]); exact xq_mono hk h
       ·exact h.elim
      ·rename_i hf
       rw [if_neg hf]; exact WQ.mono h hk
    ·split at h
     ·split at h
      ·rename_i d m e; (try simp only [e]); exact xq_mono hk h
      ·exact h.elim
     ·split at h
      ·rename_i hf
       rw [if_pos hf]
       split at h
       ·rename_i d m e; (try simp only [e]); exact xq_mono hk h
       ·exact h.elim
      ·rename_i hf
       rw [if_neg hf]; exact WQ.mono h hk
    ·split at h
     ·split at h
      ·rename_i l hl
       obtain ⟨d, h1, h3, h4⟩ := h
       try simp only [hl]
       exact ⟨d, h1, h3, xq_mono hk h4⟩
      ·exact h.elim
     ·split at h
      ·rename_i d m e; (try simp only [e]); exact xq_mono hk h
      ·exact h.elim
     ·split at h
      ·rename_i hf
       rw [if_pos hf]
       split at h
       ·rename_i d m e; (try simp only [e]); exact xq_mono hk h
       ·exact h.elim
      ·rename_i hf
       rw [if_neg hf]; exact WQ.mono h hk
     ·exact WQ.mono h hk
    ·exact WQ.mono h hk
   cases g with
   | none => exact key h
   | some rb =>
     obtain ⟨r, b⟩ := rb
     have h' : Way (env.get r) b (XQ fs pairs ((i, ⟨dst, op, none⟩) :: rest) env s K) (XQ fs pairs rest (env.put dst (.tup [])) s K) := h
     exact (Way.mono h' key fun h => xq_mono hk h)
theorem WX.mono {pairs T ops env s} {K K' : Kt} (h : WX fs pairs T ops env s K) (hk : ∀ env s, K env s -> K' env s) : WX fs pairs T ops env s K' := fun tr ht => by
 obtain ⟨n, env', s', h1, h2⟩ := h tr ht
 exact ⟨n, env', s', h1, hk _ _ h2⟩
theorem xx_mono {pairs : Prs} : ∀ {T : List Ent} {ops : Ops} {env : Env} {s : Store} {K K' : Kt}, (∀ env s, K env s -> K' env s) -> XX fs pairs T ops env s K -> XX fs pairs T ops env s K'
 | T, [], env, s, K, K', hk, h => hk _ _ h
 | T, (i, ⟨dst, op, g⟩) :: rest, env, s, K, K', hk, h => by
   have key : ∀ (h : XX fs pairs T ((i, ⟨dst, op, none⟩) :: rest) env s K), XX fs pairs T ((i, ⟨dst, op, none⟩) :: rest) env s K' := by
    intro h
    unfold XX at h ⊢
    simp only at h ⊢
    split at h
    ·split at h
     ·rename_i d e; (try simp only [e]); exact xx_mono hk h
     ·exact h.elim
    ·split at h
     ·rename_i e
      split at h
      ·rename_i d e2; (try simp only [e2]); exact xx_mono hk h
      ·exact h.elim
     ·rename_i e
      split at h
      ·rename_i d e2; (try simp only [e2]); exact ⟨h.1, xx_mono hk h.2⟩
      ·exact h.elim
     ·exact h.elim
    ·split at h
     ·rename_i d m e; (try simp only [e]); exact xx_mono hk h
     ·exact h.elim
    ·split at h
     ·rename_i e
      split at h
      ·rename_i id' ob e2
       (try simp only [e2])
       exact ⟨h.1, h.2.1, xx_mono hk h.2.2⟩
      ·exact h.elim
     ·exact h.elim
    ·split at h
     ·rename_i l hl
      obtain ⟨d, h1, h3, h4⟩ := h
      try simp only [hl]
      exact ⟨d, h1, h3, xx_mono hk h4⟩
     ·exact h.elim
    ·obtain ⟨d, s', E, h1, h2, h3, h4, h5⟩ := h
     exact ⟨d, s', E, h1, h2, h3, h4, xx_mono hk h5⟩
    ·exact WX.mono h hk
   cases g with
   | none => exact key h
   | some rb =>
     obtain ⟨r, b⟩ := rb
     have h' : Way (env.get r) b (XX fs pairs T ((i, ⟨dst, op, none⟩) :: rest) env s K) (XX fs pairs T rest (env.put dst (.tup [])) s K) := h
     exact (Way.mono h' key fun h => xx_mono hk h)
theorem yw_mono {vars : List Nat} : ∀ {c : VCode} {Q Q' : VExit -> Env -> Store -> Prop} {env : Env} {s : Store}, (∀ e env s, Q e env s -> Q' e env s) -> YW fs vars c Q env s -> YW fs vars c Q' env s
 | .skip, _, _, _, _, hq, h => hq _ _ _ h
 | .region ⟨ops, [], dr⟩, Q, Q', _, _, hq, h => xq_mono (fun env s h => hq _ _ _ h) h
 | .region ⟨ops, p :: ps, dr⟩, Q, Q', _, _, hq, h => xx_mono (fun env s h => hq _ _ _ h) h
 | .seq a b, Q, Q', env, s, hq, h => by
   rw [yw_seq] at h ⊢
   refine yw_mono (c := a) (fun e env s h => ?_) h
   cases e with
   | normal => exact yw_mono (c := b) hq h
   | exit id => exact hq _ _ _ h
   | ret => exact hq _ _ _ h
 | .cond c x y, Q, Q', env, s, hq, h => WayC.mono h (fun h => yw_mono hq h) fun h => yw_mono hq h
 | .block id b, Q, Q', env, s, hq, h => yw_mono (c := b) (fun e env s h => by
  cases e with
  | normal => exact hq _ _ _ h
  | exit id' =>
    simp only [Out'] at h ⊢
    by_cases hc : id' = id
    ·rw [if_pos hc] at h ⊢; exact hq _ _ _ h
    ·rw [if_neg hc] at h ⊢; exact hq _ _ _ h
  | ret => exact hq _ _ _ h) h
 | .loop b, Q, Q', env, s, hq, h => WP.mono (h : WP fs vars (.loop b) env s Q) hq
 | .exit id, _, _, _, _, hq, h => hq _ _ _ h
 | .ret, _, _, _, _, hq, h => hq _ _ _ h
theorem wp_cut {vars c Q env s id} (l : List Nat) (P : (Nat -> D) -> Store -> Prop) (h : WP fs vars c env s (Out' id (CutQ vars l env P Q))) (k : ∀ f s, P f s -> End Q .normal (formE vars l env f) s) : WP fs vars c env s (Out' id Q) := by
 have key : ∀ env' s, CutQ vars l env P Q .normal env' s -> Q .normal env' s := fun env' s h => by
  have := k _ s h.2
  rw [<- form_of h.1] at this
  exact this
 refine WP.mono h fun e env' s h => ?_
 cases e with
 | normal => exact key _ _ h
 | exit id' =>
   simp only [Out'] at h ⊢
   by_cases hc : id' = id
   ·rw [if_pos hc] at h ⊢; exact key _ _ h
   ·rw [if_neg hc] at h ⊢; exact h
 | ret => exact h
theorem ev_tmp {env : Env} {t : Nat} : env.ev (.tmp t) = env.get t := Eq.trans rfl rfl
theorem ev_cst {env : Env} {d : D} : env.ev (.cst d) = d := Eq.trans rfl rfl
theorem ww_q {pairs i t o rest env s K} : XQ fs pairs (xq i t o :: rest) env s K = BP (evP env o) fs pairs t rest env s K := Eq.trans rfl rfl
theorem ww_g {pairs i t o g b rest env s K} : XQ fs pairs (xg i t o g b :: rest) env s K = GW (env.get g) b fs pairs (xq i t o) (some t) rest env s K := Eq.trans rfl rfl
theorem ww_m {pairs i t x rest env s K} : XQ fs pairs (xm i t x :: rest) env s K = BP (some (env.get x)) fs pairs t rest env s K := Eq.trans rfl rfl
theorem ww_mg {pairs i t x g b rest env s K} : XQ fs pairs (xmg i t x g b :: rest) env s K = GW (env.get g) b fs pairs (xm i t x) (some t) rest env s K := Eq.trans rfl rfl
theorem ww_c {pairs i t d rest env s K} : XQ fs pairs (xc i t d :: rest) env s K = XQ fs pairs rest ((t, d) :: env) s K := Eq.trans rfl rfl
theorem ww_l {pairs i t n x rest env s K} : XQ fs pairs (xl i t n x :: rest) env s K = BP (ldV s.get n (env.get x)) fs pairs t rest env s K := by
 rw [<- show env.ev (.tmp x) = env.get x from rfl, <- evR_load]; rfl
theorem ww_lg {pairs i t n x g b rest env s K} : XQ fs pairs (xlg i t n x g b :: rest) env s K = GW (env.get g) b fs pairs (xl i t n x) (some t) rest env s K := Eq.trans rfl rfl
theorem ww_f {pairs i t off x rest env s K} : XQ fs pairs (xf i t off x :: rest) env s K = BP (evP env (.fieldA off (.tmp x))) fs pairs t rest env s K := Eq.trans rfl rfl
theorem ww_fg {pairs i t off x g b rest env s K} : XQ fs pairs (xfg i t off x g b :: rest) env s K = GW (env.get g) b fs pairs (xf i t off x) (some t) rest env s K := Eq.trans rfl rfl
theorem ww_a0 {i t o rest env s K} : XQ fs [] (xa i t o :: rest) env s K = BA (evA env o) fs t rest env s K := Eq.trans rfl rfl
theorem ww_w0 {i n a v rest env s K} : XQ fs [] (xw i n a v :: rest) env s K = BW (evW env s.get n (.tmp a) v) fs rest env s K := Eq.trans rfl rfl
theorem ww_i {pairs i t f args rest env s K} : XQ fs pairs (xi i t f args :: rest) env s K = BL (mapO (ice s.get 20) (env.evL args)) (pureL (env.evL args)) fs f pairs t rest env s K := xq_i
theorem ww_ig {pairs i t f args g b rest env s K} : XQ fs pairs (xig i t f args g b :: rest) env s K = GW (env.get g) b fs pairs (xi i t f args) (some t) rest env s K := Eq.trans rfl rfl
theorem ww_k {pairs i t f args rest env s K} : XQ fs pairs (xk i t f args :: rest) env s K = WQ fs pairs (xk i t f args :: rest) env s K := xq_c
theorem ww_o {pairs i t o g rest env s K} : XQ fs pairs (xo i t o g :: rest) env s K = XQ fs pairs ((i, ⟨t, o, g⟩) :: rest) env s K := Eq.trans rfl rfl
theorem wy_r {vars l Q env s} : YW fs vars (xr l) Q env s = XQ fs [] l env s (RgK vars Q) := Eq.trans rfl rfl
theorem wy_rp {vars l b Q env s} : YW fs vars (xrp l [] b) Q env s = XQ fs [] l env s (RgK vars Q) := Eq.trans rfl rfl
theorem wy_rx {vars l p ps b Q env s} : YW fs vars (xrp l (p :: ps) b) Q env s = XX fs (p :: ps) [] l env s (RgK vars Q) := Eq.trans rfl rfl
theorem nx_empty : Store.empty.next = 0 := Eq.trans rfl rfl
def BX (r : Option D) (fs : FuncId -> Option VFunc) (pairs : Prs) (T : List Ent) (t : Nat) (rest : Ops) (env : Env) (s : Store) (K : Kt) : Prop := match r with
 | some d => XX fs pairs T rest ((t, d) :: env) s K
 | none => False
def BD (d : D) (n : Option Nat) (i : Nat) (fs : FuncId -> Option VFunc) (pairs : Prs) (T : List Ent) (t : Nat) (rest : Ops) (env : Env) (s : Store) (K : Kt) : Prop := match d with
 | .fp cs off => match ldV s.get n (.fp cs off) with
   | some d => XX fs pairs T rest ((t, d) :: env) s K
   | none => False
 | .ptr id off => match ldV s.get n (.ptr id off) with
   | some d => LdOk pairs i id T /\ XX fs pairs (⟨i, some id, []⟩ :: T) rest ((t, d) :: env) s K
   | none => False
 | _ => False
def BE (C : Prop) (r : Option D) (fs : FuncId -> Option VFunc) (pairs : Prs) (T : List Ent) (t : Nat) (rest : Ops) (env : Env) (s : Store) (K : Kt) : Prop := C /\ BX r fs pairs T t rest env s K
def AX (r : Option (VObj × Made)) (i : Nat) (fs : FuncId -> Option VFunc) (pairs : Prs) (T : List Ent) (t : Nat) (rest : Ops) (env : Env) (s : Store) (K : Kt) : Prop := match r with
 | some (ob, m) => XX fs pairs (⟨i, none, [s.next]⟩ :: T) rest ((t, m.at s.next) :: env) (s.push ob) K
 | none => False
def UX (d : D) (r : Option (Nat × VObj)) (i : Nat) (fs : FuncId -> Option VFunc) (pairs : Prs) (T : List Ent) (rest : Ops) (env : Env) (s : Store) (K : Kt) : Prop := match d with
 | .ptr id _ => match r with
   | some (id', ob) => id' = id /\ WrOk pairs i id T /\ XX fs pairs (⟨i, some id, [id]⟩ :: T) rest env (s.set id (some ob)) K
   | none => False
 | _ => False
def VX (C : Prop) (fs : FuncId -> Option VFunc) (pairs : Prs) (T : List Ent) (rest : Ops) (env : Env) (s : Store) (K : Kt) : Prop := C /\ XX fs pairs T rest env s K
def MX (d x : D) (sz bytes i : Nat) (fs : FuncId -> Option VFunc) (pairs : Prs) (T : List Ent) (t : Nat) (rest : Ops) (env : Env) (s : Store) (K : Kt) : Prop := ∃ d' s' E, appendV sz bytes d x s = some (d', s') /\ s.next <= s'.next /\ (∀ id, id ∉ E -> s.get id = s'.get id) /\ EfOk pairs i E T /\ XX fs pairs (⟨i, none, E⟩ :: T) rest ((t, d') :: env) s' K
def CX (fs : FuncId -> Option VFunc) (f : FuncId) (l : List D) (p : Bool) (pairs : Prs) (T : List Ent) (t : Nat) (rest : Ops) (env : Env) (s : Store) (K : Kt) : Prop := ∃ d, IsoC fs f l d /\ (scalarD d || p) = true /\ XX fs pairs T rest ((t, d) :: env) s K
def LX (r : Option (List D)) (p : Bool) (fs : FuncId -> Option VFunc) (f : FuncId) (pairs : Prs) (T : List Ent) (t : Nat) (rest : Ops) (env : Env) (s : Store) (K : Kt) : Prop := match r with
 | some l => CX fs f l p pairs T t rest env s K
 | none => False
def GX (d : D) (b : Bool) (fs : FuncId -> Option VFunc) (pairs : Prs) (T : List Ent) (x : Nat × VOper) (t : Option Nat) (rest : Ops) (env : Env) (s : Store) (K : Kt) : Prop := Way d b (XX fs pairs T (x :: rest) env s K) (XX fs pairs T rest (env.put t (.tup [])) s K)
def FX (b : Bool) (d : D) (fs : FuncId -> Option VFunc) (pairs : Prs) (T : List Ent) (t : Nat) (rest : Ops) (env : Env) (s : Store) (K : Kt) : Prop := match b with
 | true => XX fs pairs T rest ((t, d) :: env) s K
 | false => False
abbrev Eqc (fs : FuncId -> Option VFunc) (f : FuncId) (l : List D) (d : D) : Prop := (∀ p pairs t rest env s K, BC fs f l p pairs t rest env s K = BF (scalarD d || p) d fs pairs t rest env s K) /\ ∀ p pairs T t rest env s K, CX fs f l p pairs T t rest env s K = FX (scalarD d || p) d fs pairs T t rest env s K
theorem bc_of {f : FuncId} {args : List D} {d : D} (h : IsoC fs f args d) : Eqc fs f args d := by
 refine ⟨fun p pairs t rest env s K => propext ⟨?_, fun hk => ?_⟩, fun p pairs T t rest env s K => propext ⟨?_, fun hk => ?_⟩⟩
 ·rintro ⟨d', h1, h2, h3⟩
  obtain rfl := h.det h1
  unfold BF; rw [h2]; exact h3
 ·unfold BF at hk
  split at hk
  ·rename_i hs; exact ⟨d, h, hs, hk⟩
  ·exact hk.elim
 ·rintro ⟨d', h1, h2, h3⟩
  obtain rfl := h.det h1
  unfold FX; rw [h2]; exact h3
 ·unfold FX at hk
  split at hk
  ·rename_i hs; exact ⟨d, h, hs, hk⟩
  ·exact hk.elim
theorem fx_t {d pairs T t rest env s K} : FX true d fs pairs T t rest env s K = XX fs pairs T rest ((t, d) :: env) s K := Eq.trans rfl rfl
theorem xx_nil {pairs T vars Q env s} : XX fs pairs T [] env s (RgK vars Q) = End Q .normal (env.keep vars) s := Eq.trans rfl rfl
theorem xx_i {pairs T i t f args rest env s K} : XX fs pairs T ((i, ⟨some t, .m (.call .iso (.cst (.fn f [])) args), none⟩) :: rest) env s K = LX (mapO (ice s.get 20) (env.evL args)) (pureL (env.evL args)) fs f pairs T t rest env s K := by
 unfold XX LX CX; rfl
theorem xx_m {pairs T i t sz bytes a x rest env s K} : XX fs pairs T ((i, ⟨some t, .m (.append sz bytes a x), none⟩) :: rest) env s K = MX (env.ev a) (env.ev x) sz bytes i fs pairs T t rest env s K := Eq.trans rfl rfl
theorem xx_c {pairs T i t f args rest env s K} : XX fs pairs T ((i, ⟨some t, .m (.call .raw f args), none⟩) :: rest) env s K = WX fs pairs T ((i, ⟨some t, .m (.call .raw f args), none⟩) :: rest) env s K := Eq.trans rfl rfl
theorem bx_s {d pairs T t rest env s K} : BX (some d) fs pairs T t rest env s K = XX fs pairs T rest ((t, d) :: env) s K := Eq.trans rfl rfl
theorem bd_f {cs off n i pairs T t rest env s K} : BD (.fp cs off) n i fs pairs T t rest env s K = BX (ldV s.get n (.fp cs off)) fs pairs T t rest env s K := by
 unfold BD BX; rfl
theorem bd_p {id off n i pairs T t rest env s K} : BD (.ptr id off) n i fs pairs T t rest env s K = BE (LdOk pairs i id T) (ldV s.get n (.ptr id off)) fs pairs (⟨i, some id, []⟩ :: T) t rest env s K := by
 unfold BD BE BX
 simp only
 cases ldV s.get n (.ptr id off) with
 | some d => rfl
 | none => simp
theorem be_t {r pairs T t rest env s K} : BE True r fs pairs T t rest env s K = BX r fs pairs T t rest env s K := by simp [BE]
theorem ax_p {ob i pairs T t rest env s K} : AX (some (ob, .ptr)) i fs pairs T t rest env s K = XX fs pairs (⟨i, none, [s.next]⟩ :: T) rest ((t, .ptr s.next 0) :: env) (s.push ob) K := Eq.trans rfl rfl
theorem ax_r {ob l sz i pairs T t rest env s K} : AX (some (ob, .arr l sz)) i fs pairs T t rest env s K = XX fs pairs (⟨i, none, [s.next]⟩ :: T) rest ((t, .arr s.next 0 l sz) :: env) (s.push ob) K := Eq.trans rfl rfl
theorem ux_s {id off ob i pairs T rest env s K} : UX (.ptr id off) (some (id, ob)) i fs pairs T rest env s K = VX (WrOk pairs i id T) fs pairs (⟨i, some id, [id]⟩ :: T) rest env (s.set id (some ob)) K := by
 unfold UX VX; simp
theorem vx_t {pairs T rest env s K} : VX True fs pairs T rest env s K = XX fs pairs T rest env s K := by simp [VX]
theorem lx_s {l p f pairs T t rest env s K} : LX (some l) p fs f pairs T t rest env s K = CX fs f l p pairs T t rest env s K := Eq.trans rfl rfl
theorem gx_tt {pairs T x t rest env s K} : GX (.bool true) true fs pairs T x t rest env s K = XX fs pairs T (x :: rest) env s K := by simp [GX, Way]
theorem gx_ff {pairs T x t rest env s K} : GX (.bool false) false fs pairs T x t rest env s K = XX fs pairs T (x :: rest) env s K := by simp [GX, Way]
theorem gx_ft {pairs T x t rest env s K} : GX (.bool false) true fs pairs T x t rest env s K = XX fs pairs T rest (env.put t (.tup [])) s K := by simp [GX, Way]
theorem wz_q {pairs T i t o rest env s K} : XX fs pairs T (xq i t o :: rest) env s K = BX (evP env o) fs pairs T t rest env s K := Eq.trans rfl rfl
theorem wz_g {pairs T i t o g b rest env s K} : XX fs pairs T (xg i t o g b :: rest) env s K = GX (env.get g) b fs pairs T (xq i t o) (some t) rest env s K := Eq.trans rfl rfl
theorem wz_m {pairs T i t x rest env s K} : XX fs pairs T (xm i t x :: rest) env s K = BX (some (env.get x)) fs pairs T t rest env s K := Eq.trans rfl rfl
theorem wz_mg {pairs T i t x g b rest env s K} : XX fs pairs T (xmg i t x g b :: rest) env s K = GX (env.get g) b fs pairs T (xm i t x) (some t) rest env s K := Eq.trans rfl rfl
theorem wz_l {pairs T i t n x rest env s K} : XX fs pairs T (xl i t n x :: rest) env s K = BD (env.get x) n i fs pairs T t rest env s K := Eq.trans rfl rfl
theorem wz_lg {pairs T i t n x g b rest env s K} : XX fs pairs T (xlg i t n x g b :: rest) env s K = GX (env.get g) b fs pairs T (xl i t n x) (some t) rest env s K := Eq.trans rfl rfl
theorem wz_f {pairs T i t off x rest env s K} : XX fs pairs T (xf i t off x :: rest) env s K = BX (evP env (.fieldA off (.tmp x))) fs pairs T t rest env s K := Eq.trans rfl rfl
theorem wz_fg {pairs T i t off x g b rest env s K} : XX fs pairs T (xfg i t off x g b :: rest) env s K = GX (env.get g) b fs pairs T (xf i t off x) (some t) rest env s K := Eq.trans rfl rfl
theorem wz_a {pairs T i t o rest env s K} : XX fs pairs T (xa i t o :: rest) env s K = AX (evA env o) i fs pairs T t rest env s K := Eq.trans rfl rfl
theorem wz_w {pairs T i n a v rest env s K} : XX fs pairs T (xw i n a v :: rest) env s K = UX (env.get a) (evW env s.get n (.tmp a) v) i fs pairs T rest env s K := Eq.trans rfl rfl
theorem wz_i {pairs T i t f args rest env s K} : XX fs pairs T (xi i t f args :: rest) env s K = LX (mapO (ice s.get 20) (env.evL args)) (pureL (env.evL args)) fs f pairs T t rest env s K := xx_i
theorem wz_ig {pairs T i t f args g b rest env s K} : XX fs pairs T (xig i t f args g b :: rest) env s K = GX (env.get g) b fs pairs T (xi i t f args) (some t) rest env s K := Eq.trans rfl rfl
theorem wz_o {pairs T i t o g rest env s K} : XX fs pairs T (xo i t o g :: rest) env s K = XX fs pairs T ((i, ⟨t, o, g⟩) :: rest) env s K := Eq.trans rfl rfl
theorem ni_nil {id} : NotIn id [] = True := Eq.trans rfl rfl
theorem ni_c {id x r} : NotIn id (x :: r) = (NeId id x /\ NotIn id r) := Eq.trans rfl rfl
theorem ne_t {a b : Nat} (h : a ≠ b) : NeId a b = True := eq_true h
theorem lo_n {pairs i id} : LdOk pairs i id [] = True := Eq.trans rfl rfl
theorem lo_0 {pairs i id a r E T} (h : Rf (hasP pairs a i) false) : LdOk pairs i id (⟨a, r, E⟩ :: T) = LdOk pairs i id T := by simp [LdOk, h.1]
theorem lo_1 {pairs i id a r E T} (h : Rf (hasP pairs a i) true) : LdOk pairs i id (⟨a, r, E⟩ :: T) = (NotIn id E /\ LdOk pairs i id T) := by simp [LdOk, h.1]
theorem wo_n {pairs i id} : WrOk pairs i id [] = True := Eq.trans rfl rfl
theorem wo_0 {pairs i id a r E T} (h : Rf (hasP pairs a i) false) : WrOk pairs i id (⟨a, r, E⟩ :: T) = WrOk pairs i id T := by simp [WrOk, h.1]
theorem eo_n {pairs i E} : EfOk pairs i E [] = True := Eq.trans rfl rfl
theorem eo_0 {pairs i E a r F T} (h : Rf (hasP pairs a i) false) : EfOk pairs i E (⟨a, r, F⟩ :: T) = EfOk pairs i E T := by simp [EfOk, h.1]
theorem eo_1 {pairs i E a F x T} (h : Rf (hasP pairs a i) true) : EfOk pairs i E (⟨a, some x, F⟩ :: T) = (NotIn x E /\ EfOk pairs i E T) := by simp [EfOk, h.1]
attribute [go_sem] fx_t wy_rx xx_nil xx_i xx_m xx_c bx_s bd_f bd_p be_t ax_p ax_r ux_s vx_t lx_s gx_tt gx_ff gx_ft wz_q wz_g wz_m wz_mg wz_l wz_lg wz_f wz_fg wz_a wz_w wz_i wz_ig wz_o ni_nil ni_c ne_t lo_n lo_0 lo_1 wo_n wo_0 eo_n eo_0 eo_1
attribute [go_sem] Nat.reduceLT nx_empty ww_q ww_g ww_m ww_mg ww_c ww_l ww_lg ww_f ww_fg ww_a0 ww_w0 ww_i ww_ig ww_k ww_o wy_r wy_rp
attribute [go_sem] yw_skip yw_seq yw_cond yw_block yw_loop yw_exit yw_ret xq_nil xq_i xq_c xq_ap bp_s bl_s ba_p ba_r bw_s bf_t cw_t cw_f gw_tt gw_ff gw_tf gw_ft gw_u en_tn en_te en_tr en_on en_or en_oe keep_is get_is form_is keepE_is ev_tmp ev_cst put_s
attribute [go_sem] ic_nil ic_int ic_bool ic_str ic_pz pd_pz pl_nil pl_cons pd_int pd_bool pd_str sd_int sd_bool sd_agg sd_tup sl_nil sl_cons ice_int ice_bool ice_tup res_1 res_2 res_n res_c res_o res_s res_l rq_r rq_n rb_i rb_p Option.some.injEq D.tup.injEq D.int.injEq D.bool.injEq D.agg.injEq D.str.injEq List.cons.injEq uq_n uq_e uq_r cq_n Option.bind Bool.or_true Bool.true_or
theorem yw_congr {vars c Q env env' s s'} (h : env = env') (h' : s = s') : YW fs vars c Q env s = YW fs vars c Q env' s' := by rw [h, h']
theorem xq_congr {pairs ops K env env' s s'} (h : env = env') (h' : s = s') : XQ fs pairs ops env s K = XQ fs pairs ops env' s' K := by rw [h, h']
theorem end_congr {Q e env env' s s'} (h : env = env') (h' : s = s') : End Q e env s = End Q e env' s' := by rw [h, h']
theorem bp_congr {r r' pairs t rest env s K} (h : r = r') : BP r fs pairs t rest env s K = BP r' fs pairs t rest env s K := by rw [h]
theorem bl_congr {r r' p p' f pairs t rest env s K} (h : r = r') (h' : p = p') : BL r p fs f pairs t rest env s K = BL r' p' fs f pairs t rest env s K := by rw [h, h']
theorem bm_congr {r r' t rest env K} (h : r = r') : BM r fs t rest env K = BM r' fs t rest env K := by rw [h]
theorem bf_congr {r r' d pairs t rest env s K} (h : r = r') : BF r d fs pairs t rest env s K = BF r' d fs pairs t rest env s K := by rw [h]
theorem cw_congr {d d' vars x y Q env s} (h : d = d') : CW d fs vars x y Q env s = CW d' fs vars x y Q env s := by rw [h]
theorem gw_congr {d d' b pairs x t rest env s K} (h : d = d') : GW d b fs pairs x t rest env s K = GW d' b fs pairs x t rest env s K := by rw [h]
theorem fx_congr {b b' d pairs T t rest env s K} (h : b = b') : FX b d fs pairs T t rest env s K = FX b' d fs pairs T t rest env s K := by rw [h]
theorem xx_congr {pairs T ops K env env' s s'} (h : env = env') (h' : s = s') : XX fs pairs T ops env s K = XX fs pairs T ops env' s' K := by rw [h, h']
theorem bx_congr {r r' pairs T t rest env s K} (h : r = r') : BX r fs pairs T t rest env s K = BX r' fs pairs T t rest env s K := by rw [h]
theorem bd_congr {r r' n i pairs T t rest env s K} (h : r = r') : BD r n i fs pairs T t rest env s K = BD r' n i fs pairs T t rest env s K := by rw [h]
theorem vx_congr {C C' pairs T rest env s K} (hc : C = C') : VX C fs pairs T rest env s K = VX C' fs pairs T rest env s K := by rw [hc]
theorem mx_congr {d d' x x' sz bytes i pairs T t rest env s s' K} (h : d = d') (h2 : x = x') (h3 : s = s') : MX d x sz bytes i fs pairs T t rest env s K = MX d' x' sz bytes i fs pairs T t rest env s' K := by rw [h, h2, h3]
theorem lx_congr {f l l' p p' pairs T t rest env s K} (h : l = l') (h2 : p = p') : LX l p fs f pairs T t rest env s K = LX l' p' fs f pairs T t rest env s K := by rw [h, h2]
theorem gx_congr {d d' b pairs T x t rest env s K} (h : d = d') : GX d b fs pairs T x t rest env s K = GX d' b fs pairs T x t rest env s K := by rw [h]
attribute [congr] fx_congr xx_congr bx_congr bd_congr vx_congr mx_congr lx_congr gx_congr
attribute [congr] yw_congr xq_congr end_congr bp_congr bl_congr bm_congr bf_congr cw_congr gw_congr
theorem zF {P Q : Prop} (k : Q) (h : P = Q := by
 simp only [xn, List.map, List.getD, List.getElem?_cons_zero, List.getElem?_cons_succ, List.getElem?_nil, Option.getD]
 exact rfl) : P := h.mpr k
theorem zY0 {P Q : Prop} (k : Q) (h : P = Q := by
 simp (maxSteps := 1000000) (disch := (first|exact Rf.mk rfl|with_reducible assumption|omega|((repeat (first|rw [nP]|rw [nS]|rw [nx_empty]))<;>omega)|decide)) only [go_sem, ↓reduceIte]
 exact rfl) : P := h.mpr k
theorem zY {F P Q : Prop} (f : F) (k : Q) (h : F -> P = Q := by
 intro f
 simp (maxSteps := 1000000) (disch := (first|exact Rf.mk rfl|with_reducible assumption|omega|((repeat (first|rw [nP]|rw [nS]|rw [nx_empty]))<;>omega)|decide)) only [go_sem, ↓reduceIte, f]
 exact rfl) : P := (h f).mpr k
theorem zZ0 {P : Prop} (h : P := by simp (maxSteps := 1000000) (disch := (first|exact Rf.mk rfl|with_reducible assumption|omega|((repeat (first|rw [nP]|rw [nS]|rw [nx_empty]))<;>omega)|decide)) only [go_sem, ↓reduceIte]) : P := h
theorem zZ {F P : Prop} (f : F) (h : F -> P := by
 intro f
 simp (maxSteps := 1000000) (disch := (first|exact Rf.mk rfl|with_reducible assumption|omega|((repeat (first|rw [nP]|rw [nS]|rw [nx_empty]))<;>omega)|decide)) only [go_sem, ↓reduceIte, f]) : P := h f
end Go.V
namespace Go.V
def eAt (l : List Ed) (i : Nat) : Ed := l.getD i default
def vAt (l : List Vr) (i : Nat) : Vr := l.getD i default
def pAt (l : List Pr) (i : Nat) : Pr := l.getD i default
def prX (l : List (Pr × PrD)) (i : Nat) : PrD := (l.getD i ⟨default, ⟨.nils, .nils, .nils, .nils, .nils⟩⟩).2
theorem eAt_get {l : List Ed} {i : Nat} (h : i < l.length) : eAt l i = l[i] := by simp [eAt, List.getD, h]
theorem vAt_get {l : List Vr} {i : Nat} (h : i < l.length) : vAt l i = l[i] := by simp [vAt, List.getD, h]
theorem pAt_get {l : List Pr} {i : Nat} (h : i < l.length) : pAt l i = l[i] := by simp [pAt, List.getD, h]
theorem pAt_mem {l : List Pr} {i : Nat} (h : i < l.length) : pAt l i ∈ l := by rw [pAt_get h]; exact List.getElem_mem h
theorem eAt_mem {l : List Ed} {i : Nat} (h : i < l.length) : eAt l i ∈ l := by rw [eAt_get h]; exact List.getElem_mem h
theorem chAt_mem {l : List Ch} {i : Nat} (h : i < l.length) : chAt l i ∈ l := by rw [chAt_get h]; exact List.getElem_mem h
theorem vAt_mem {l : List Vr} {i : Nat} (h : i < l.length) : vAt l i ∈ l := by rw [vAt_get h]; exact List.getElem_mem h
theorem zAt_mem {l : List Int} {i : Nat} (h : i < l.length) : zAt l i ∈ l := by rw [zAt_get h]; exact List.getElem_mem h
theorem nAt_mem {l : List Nat} {i : Nat} (h : i < l.length) : nAt l i ∈ l := by rw [nAt_get h]; exact List.getElem_mem h
theorem cAt_mem {l : List (List Int)} {i : Nat} (h : i < l.length) : cAt l i ∈ l := by rw [cAt_get h]; exact List.getElem_mem h
variable {k : IntKind} {i j : Nat} {d : D}
theorem ix_i {l : List Int} (h : FI d l) (hi : i < l.length) : idxAV 1 d (.int k (i : Int)) = some (.fp [.int .i64 (zAt l i)] 0) := by rw [FI.idx h hi, zAt_get hi]
theorem ix_n {l : List Nat} (h : FL 1 d (rowsN l)) (hi : i < l.length) : idxAV 1 d (.int k (i : Int)) = some (.fp [.int .i64 (nAt l i : Int)] 0) := by rw [FLN.idx h hi, nAt_get hi]
theorem ix_e {l : List Ed} (h : FL 8 d (rowsE l)) (hi : i < l.length) : idxAV 8 d (.int k (i : Int)) = some (.fp [.int .i64 ((eAt l i).frm : Int), .int .i64 ((eAt l i).to : Int), .int .i64 ((eAt l i).act : Int), .int .i64 (eAt l i).expr, .int .i64 (eAt l i).var, .int .i64 (eAt l i).chan, .bool (eAt l i).keep, .int .i64 ((eAt l i).node : Int)] 0) := by rw [FLE.idx h hi, eAt_get hi]; rfl
theorem ix_c {l : List Ch} (h : FL 5 d (rowsC l)) (hi : i < l.length) : idxAV 5 d (.int k (i : Int)) = some (.fp [.str (chAt l i).name, .int .i64 (chAt l i).room, .int .i64 (chAt l i).width, .bool (chAt l i).lossy, .bool (chAt l i).copying] 0) := by rw [FLC.idx h hi, chAt_get hi]; rfl
theorem ix_v {l : List Vr} (h : FL 3 d (rowsV l)) (hi : i < l.length) : idxAV 3 d (.int k (i : Int)) = some (.fp [.str (vAt l i).name, .int .i64 (vAt l i).width, .int .i64 (vAt l i).value] 0) := by rw [FLV.idx h hi, vAt_get hi]; rfl
theorem ix_t {t : List Nd} (h : TreeAt d t) (hi : i < t.length) : idxAV 5 d (.int k (i : Int)) = some (.fp [.int .i64 (nd t i).kind, (nd t i).dw, (nd t i).dn, (nd t i).dk, .int .i64 (nd t i).pos] 0) := by
 have := h.at (z := (i : Int)) (by omega) (by omega) (k := k)
 rwa [Int.toNat_natCast] at this
theorem ln_i {l : List Int} (h : FI d l) : lenV false d = some (.int .i64 (l.length : Int)) := FI.len h
theorem ln_n {l : List Nat} (h : FL 1 d (rowsN l)) : lenV false d = some (.int .i64 (l.length : Int)) := by rw [h.len, rowsN_length]
theorem ln_c {l : List Ch} (h : FL 5 d (rowsC l)) : lenV false d = some (.int .i64 (l.length : Int)) := by rw [h.len, rowsC_length]
theorem ln_v {l : List Vr} (h : FL 3 d (rowsV l)) : lenV false d = some (.int .i64 (l.length : Int)) := by rw [h.len, rowsV_length]
theorem on_i {l : List Int} (h : FI d l) : oneCell d = true := FL.one h
theorem pz_i {l : List Int} (h : FI d l) : PZ d := FL.pz h
variable {m : MdX} {mo : Mo} {ps : List (Pr × PrD)}
theorem mp_ok (h : MoF m mo ps) (hi : i < mo.procs.length) : PrF (pAt mo.procs i) (prX ps i) := by
 have hi' : i < ps.length := by rw [h.plen]; exact hi
 have e : pAt mo.procs i = ps[i].1 := by rw [pAt_get hi]; simp [<- h.eq]
 have e2 : prX ps i = ps[i].2 := by simp [prX, List.getD, hi']
 rw [e, e2]
 exact h.at' _ (List.getElem_mem hi')
theorem ix_p (h : MoF m mo ps) (hi : i < mo.procs.length) : idxAV 8 m.dp (.int k (i : Int)) = some (.fp [.str (pAt mo.procs i).name, .int .i64 ((pAt mo.procs i).copy : Int), (prX ps i).dl, .int .i64 ((pAt mo.procs i).places : Int), (prX ps i).dr, (prX ps i).de, (prX ps i).dn, (prX ps i).dv] 0) := by
 have hi' : i < ps.length := by rw [h.plen]; exact hi
 have e : pAt mo.procs i = ps[i].1 := by rw [pAt_get hi]; simp [<- h.eq]
 have e2 : prX ps i = ps[i].2 := by simp [prX, List.getD, hi']
 rw [h.p.idx (by simpa using hi'), e, e2]
 simp [rowsP, prRow]
theorem ln_p (h : MoF m mo ps) : lenV false m.dp = some (.int .i64 (mo.procs.length : Int)) := h.lenP
theorem pr_oe (h : MoF m mo ps) (hi : i < mo.procs.length) : oneCell (prX ps i).de = true := (mp_ok h hi).e.one
theorem pr_le (h : MoF m mo ps) (hi : i < mo.procs.length) : lenV false (prX ps i).de = some (.int .i64 ((pAt mo.procs i).edges.length : Int)) := (mp_ok h hi).lenE
theorem pr_ix (h : MoF m mo ps) (hi : i < mo.procs.length) (hj : j < (pAt mo.procs i).edges.length) : idxAV 8 (prX ps i).de (.int k (j : Int)) = some (.fp [.int .i64 ((eAt (pAt mo.procs i).edges j).frm : Int), .int .i64 ((eAt (pAt mo.procs i).edges j).to : Int), .int .i64 ((eAt (pAt mo.procs i).edges j).act : Int), .int .i64 (eAt (pAt mo.procs i).edges j).expr, .int .i64 (eAt (pAt mo.procs i).edges j).var, .int .i64 (eAt (pAt mo.procs i).edges j).chan, .bool (eAt (pAt mo.procs i).edges j).keep, .int .i64 ((eAt (pAt mo.procs i).edges j).node : Int)] 0) := ix_e (mp_ok h hi).e hj
theorem pz_mo (h : MoF m mo ps) : PZ (.agg [m.dt, .int .i64 m.g, m.dc, m.dv, m.dp, m.ds, .bool m.b]) := pz_agg fun d hd => by
 simp only [List.mem_cons, List.not_mem_nil, or_false] at hd
 rcases hd with rfl | rfl | rfl | rfl | rfl | rfl | rfl
 ·exact ⟨FL.pure h.tr.fl, FL.ic h.tr.fl⟩
 ·exact ⟨rfl, fun _ _ => rfl⟩
 ·exact ⟨h.c.pure, FL.ic h.c⟩
 ·exact ⟨h.v.pure, FL.ic h.v⟩
 ·exact ⟨h.p.pure, FL.ic h.p⟩
 ·exact ⟨h.sf.pure, FL.ic h.sf⟩
 ·exact ⟨rfl, fun _ _ => rfl⟩
theorem pz_ed {e : Ed} : PZ (.agg [.int .i64 (e.frm : Int), .int .i64 (e.to : Int), .int .i64 (e.act : Int), .int .i64 e.expr, .int .i64 e.var, .int .i64 e.chan, .bool e.keep, .int .i64 (e.node : Int)]) := pz_agg fun d hd => by
 simp only [List.mem_cons, List.not_mem_nil, or_false] at hd
 rcases hd with rfl | rfl | rfl | rfl | rfl | rfl | rfl | rfl <;> exact ⟨rfl, fun _ _ => rfl⟩
theorem pz_mv {a b c d : Int} : PZ (.agg [.int .i64 a, .int .i64 b, .int .i64 c, .int .i64 d]) := pz_agg fun d hd => by
 simp only [List.mem_cons, List.not_mem_nil, or_false] at hd
 rcases hd with rfl | rfl | rfl | rfl <;> exact ⟨rfl, fun _ _ => rfl⟩
theorem pz_st {x : StD} {st : Stt} (h : StF x st) : PZ (.agg [x.da, x.dv, x.dc, .int .i64 st.hold]) := pz_agg fun d hd => by
 obtain ⟨ds, h1, _⟩ := h.c
 simp only [List.mem_cons, List.not_mem_nil, or_false] at hd
 rcases hd with rfl | rfl | rfl | rfl
 ·exact ⟨h.a.pure, FL.ic h.a⟩
 ·exact ⟨FL.pure h.v, FL.ic h.v⟩
 ·exact ⟨h1.pure, FL.ic h1⟩
 ·exact ⟨rfl, fun _ _ => rfl⟩
def chX : D -> Nat -> D
 | .lst _ xs, i => (xs.getD i []).getD 0 .nils
 | _, _ => .nils
theorem st_ch {x : StD} {st : Stt} (h : StF x st) (hi : i < st.chans.length) : FI (chX x.dc i) (cAt st.chans i) /\ idxAV 1 x.dc (.int k (i : Int)) = some (.fp [chX x.dc i] 0) := by
 obtain ⟨ds, h1, h2, h3⟩ := h.c
 have hi' : i < ds.length := by omega
 have e : chX x.dc i = ds[i] := by
  rcases h1 with ⟨_, e⟩ | e
  ·simp at e; subst e; simp at hi'
  ·rw [e]; simp [chX, List.getD, hi']
 rw [e, cAt_get hi]
 refine ⟨h3 i hi' hi, ?_⟩
 rw [h1.idx (by simpa using hi')]
 simp
theorem st_cf {x : StD} {st : Stt} (h : StF x st) (hi : i < st.chans.length) : FI (chX x.dc i) (cAt st.chans i) := (st_ch (k := .i64) h hi).1
theorem st_ci {x : StD} {st : Stt} (h : StF x st) (hi : i < st.chans.length) : idxAV 1 x.dc (.int k (i : Int)) = some (.fp [chX x.dc i] 0) := (st_ch h hi).2
theorem st_co {x : StD} {st : Stt} (h : StF x st) (hi : i < st.chans.length) : oneCell (chX x.dc i) = true := FL.one (st_cf h hi)
theorem st_cl {x : StD} {st : Stt} (h : StF x st) (hi : i < st.chans.length) : lenV false (chX x.dc i) = some (.int .i64 ((cAt st.chans i).length : Int)) := FI.len (st_cf h hi)
theorem st_lc {x : StD} {st : Stt} (h : StF x st) : lenV false x.dc = some (.int .i64 (st.chans.length : Int)) := by
 obtain ⟨ds, h1, h2, _⟩ := h.c
 rw [h1.len, List.length_map, h2]
theorem nat_succ {n : Nat} : (n : Int) + 1 = ((n + 1 : Nat) : Int) := by omega
theorem lt_nat {a b : Nat} : ((a : Int) < (b : Int)) = (a < b) := by apply propext; omega
theorem nc_0 : ((0 : Nat) : Int) = 0 := rfl
theorem nc_1 : ((1 : Nat) : Int) = 1 := rfl
theorem nc_2 : ((2 : Nat) : Int) = 2 := rfl
theorem nc_3 : ((3 : Nat) : Int) = 3 := rfl
theorem nc_4 : ((4 : Nat) : Int) = 4 := rfl
theorem nc_5 : ((5 : Nat) : Int) = 5 := rfl
theorem nc_6 : ((6 : Nat) : Int) = 6 := rfl
theorem nc_7 : ((7 : Nat) : Int) = 7 := rfl
theorem nc_8 : ((8 : Nat) : Int) = 8 := rfl
theorem nc_9 : ((9 : Nat) : Int) = 9 := rfl
theorem nc_10 : ((10 : Nat) : Int) = 10 := rfl
theorem nc_11 : ((11 : Nat) : Int) = 11 := rfl
theorem nc_12 : ((12 : Nat) : Int) = 12 := rfl
theorem nc_13 : ((13 : Nat) : Int) = 13 := rfl
theorem nc_14 : ((14 : Nat) : Int) = 14 := rfl
theorem nc_15 : ((15 : Nat) : Int) = 15 := rfl
theorem nc_16 : ((16 : Nat) : Int) = 16 := rfl
theorem beq_int {a b : Int} : (a == b) = decide (a = b) := by rw [Bool.eq_iff_iff]; simp
theorem bne_int {a b : Int} : (a != b) = !decide (a = b) := by rw [bne, beq_int]
theorem eq_nat {a b : Nat} : ((a : Int) = (b : Int)) = (a = b) := by apply propext; omega
theorem nat_pos {a : Nat} : ((0 : Int) < (a : Int)) = (0 < a) := by apply propext; omega
theorem nat_nn {a : Nat} : ((0 : Int) <= (a : Int)) = True := eq_true (by omega)
attribute [go_sem] nc_0 nc_1 nc_2 nc_3 nc_4 nc_5 nc_6 nc_7 nc_8 nc_9 nc_10 nc_11 nc_12 nc_13 nc_14 nc_15 nc_16 beq_int bne_int eq_nat nat_pos nat_nn ix_i ix_n ix_e ix_c ix_v ix_t ln_i ln_n ln_c ln_v on_i ix_p ln_p pr_oe pr_le pr_ix st_ci st_co st_cl st_lc nat_succ lt_nat
theorem z_ext {a b : List Int} (h : a.length = b.length) (hz : ∀ j, j < a.length -> zAt a j = zAt b j) : a = b := List.ext_getElem h fun j h1 h2 => by
 have := hz j h1
 rwa [zAt_get h1, zAt_get h2] at this
theorem safeS_iff {st : Stt} : mo.safeS st = true ↔ ∀ j, j < mo.safe.length -> (mo.val (lookG mo) st (nAt mo.safe j)).2 = true /\ (mo.val (lookG mo) st (nAt mo.safe j)).1 ≠ 0 := by
 unfold Mo.safeS
 rw [List.all_eq_true]
 constructor
 ·intro h j hj
  have := h _ (nAt_mem hj)
  simpa using this
 ·intro h k hk
  obtain ⟨j, hj, rfl⟩ := List.getElem_of_mem hk
  have := h j hj
  rw [nAt_get hj] at this
  simpa using this
theorem safeS_f {st : Stt} {j : Nat} (hj : j < mo.safe.length) (h : (mo.val (lookG mo) st (nAt mo.safe j)).2 = false ∨ (mo.val (lookG mo) st (nAt mo.safe j)).1 = 0) : mo.safeS st = false := by
 rw [Bool.eq_false_iff]
 intro hs
 have := safeS_iff.1 hs j hj
 rcases h with h | h
 ·rw [h] at this; simp at this
 ·exact this.2 h
theorem someS_t {st : Stt} {i j : Nat} {p : Pr} (hj : j < p.edges.length) (h : mo.can st i p (eAt p.edges j) = true) : mo.someS st i p = true := by
 unfold Mo.someS
 rw [List.any_eq_true]
 exact ⟨_, eAt_mem hj, h⟩
theorem someS_f {st : Stt} {i : Nat} {p : Pr} (h : ∀ j, j < p.edges.length -> mo.can st i p (eAt p.edges j) = false) : mo.someS st i p = false := by
 unfold Mo.someS
 rw [List.any_eq_false]
 intro e he
 obtain ⟨j, hj, rfl⟩ := List.getElem_of_mem he
 have := h j hj
 rw [eAt_get hj] at this
 rw [this]; simp
theorem cnd_1 {p : Prop} [Decidable p] : (decide p = true) = p := by simp
theorem cnd_2 {p : Prop} [Decidable p] : (decide p = false) = ¬ p := by simp
theorem cnd_3 {b : Bool} : ((!b) = true) = (b = false) := by simp
theorem cnd_4 {b : Bool} : ((!b) = false) = (b = true) := by simp
end Go.V
namespace Go.V
variable {fs : FuncId -> Option VFunc}
theorem bm_app {t rest env K s d sz bytes rows row A B E R} (h : Rp d sz rows E) (hp : Hp s (A ++ E ++ B) R) (hr : row.length = sz) (hrs : ∀ r ∈ rows, r.length = sz) (hb : bytes <= 1000) (hl : rows.length <= 1000000000)
 (k : ∀ d' s' E', Rp d' sz (rows ++ [row]) E' -> Hp s' (A ++ E' ++ B) R -> s.next <= s'.next -> XQ fs [] rest ((t, d') :: env) s' K) : BM (appendV sz bytes d (.arr s.next 0 1 sz) (s.push (.cells row))) fs t rest env K := by
 obtain ⟨d', s', h1, E', h2, h3, h4⟩ := h.app (hp.push (.cells row)) (get_push_new rfl) hr hrs hb hl
 rw [h1]
 exact k d' s' E' h2 h3 (by rw [Store.next_push] at h4; omega)
theorem rp_frz {s : Store} {d : D} {sz : Nat} {rows : List (List D)} {E W R : Hs} (h : Rp d sz rows E) (hp : Hp s W R) (he : ∀ e ∈ E, e ∈ W) (hr : ∀ r ∈ rows, r.length = sz) (hs : ∀ r ∈ rows, r.all scal1 = true) : ∃ d', ice s.get 20 d = some d' /\ FL sz d' rows :=
 (h.sn fun e hm => hp.w e (he e hm)).frz1 (n := 18) hr hs
theorem rowsM_len (l : List Mv) : ∀ r ∈ rowsM l, r.length = 4 := by intro r h; obtain ⟨b, _, rfl⟩ := List.mem_map.1 h; rfl
theorem rowsM_scal (l : List Mv) : ∀ r ∈ rowsM l, r.all scal1 = true := by intro r h; obtain ⟨b, _, rfl⟩ := List.mem_map.1 h; rfl
@[simp] theorem rowsM_length (l : List Mv) : (rowsM l).length = l.length := by simp [rowsM]
theorem bm_appT {α : Type} {f : α -> List D} {t rest env K s d sz bytes row E R} {l : List α} (v : α) (hv : f v = row) (h : Rp d sz (l.map f) E) (hp : Hp s E R) (hf : ∀ v, (f v).length = sz) (hb : bytes <= 1000) (hl : l.length <= 1000000000)
 (k : ∀ d' s' E', Rp d' sz ((l ++ [v]).map f) E' -> Hp s' E' R -> XQ fs [] rest ((t, d') :: env) s' K) : BM (appendV sz bytes d (.arr s.next 0 1 sz) (s.push (.cells row))) fs t rest env K := by
 subst hv
 refine bm_app (A := []) (B := []) h (by simpa using hp) (hf v) (fun r hr => ?_) hb (by simpa using hl) fun d' s' E' h1 h2 _ => k d' s' E' (by simpa using h1) (by simpa using h2)
 obtain ⟨x, _, rfl⟩ := List.mem_map.1 hr
 exact hf x
theorem bm_appM {t rest env K s d bytes row E R} {l : List Mv} (v : Mv) (hv : v.row = row) (h : Rp d 4 (rowsM l) E) (hp : Hp s E R) (hb : bytes <= 1000) (hl : l.length <= 1000000000)
 (k : ∀ d' s' E', Rp d' 4 (rowsM (l ++ [v])) E' -> Hp s' E' R -> XQ fs [] rest ((t, d') :: env) s' K) : BM (appendV 4 bytes d (.arr s.next 0 1 4) (s.push (.cells row))) fs t rest env K := bm_appT (f := Mv.row) v hv h hp (fun _ => rfl) hb hl k
def mvAt (l : List Mv) (i : Nat) : Mv := l.getD i default
theorem mvAt_get {l : List Mv} {i : Nat} (h : i < l.length) : mvAt l i = l[i] := by simp [mvAt, List.getD, h]
theorem mvAt_mem {l : List Mv} {i : Nat} (h : i < l.length) : mvAt l i ∈ l := by rw [mvAt_get h]; exact List.getElem_mem h
theorem ix_m {l : List Mv} {d : D} {i : Nat} {k : IntKind} (h : FL 4 d (rowsM l)) (hi : i < l.length) : idxAV 4 d (.int k (i : Int)) = some (.fp [.int .i64 ((mvAt l i).kind : Int), .int .i64 ((mvAt l i).proc : Int), .int .i64 ((mvAt l i).edge : Int), .int .i64 ((mvAt l i).chan : Int)] 0) := by
 rw [h.idx (by simpa using hi), mvAt_get hi]; simp [rowsM, Mv.row]
theorem ln_m {l : List Mv} {d : D} (h : FL 4 d (rowsM l)) : lenV false d = some (.int .i64 (l.length : Int)) := by rw [h.len, rowsM_length]
theorem rp_one {d : D} {sz : Nat} {rows : List (List D)} {E : Hs} (h : Rp d sz rows E) : oneCell d = true := h.one
attribute [go_sem] ix_m ln_m rp_one
def Mo.mvE (mo : Mo) (st : Stt) (i j : Nat) : List Mv := ((List.range j).filter fun j => mo.can st i (pAt mo.procs i) (eAt (pAt mo.procs i).edges j)).map fun j => ⟨0, i, j, 0⟩
theorem Mo.mvE_succ {mo : Mo} {st : Stt} {i j : Nat} : mo.mvE st i (j + 1) = mo.mvE st i j ++ if mo.can st i (pAt mo.procs i) (eAt (pAt mo.procs i).edges j) then [⟨0, i, j, 0⟩] else [] := by
 unfold Mo.mvE
 rw [List.range_succ, List.filter_append, List.map_append]
 congr 1
 simp only [List.filter_cons, List.filter_nil]
 split <;> rfl
theorem Mo.movesP_eq {mo : Mo} {st : Stt} {i : Nat} : mo.movesP st i = if 0 <= st.hold /\ st.hold ≠ (i : Int) then [] else mo.mvE st i (pAt mo.procs i).edges.length := rfl
def Mo.mvP (mo : Mo) (st : Stt) (i : Nat) : List Mv := (List.range i).flatMap (mo.movesP st)
def Mo.mvC (mo : Mo) (st : Stt) (i : Nat) : List Mv := (List.range i).flatMap (mo.movesC st)
theorem Mo.mvP_succ {mo : Mo} {st : Stt} {i : Nat} : mo.mvP st (i + 1) = mo.mvP st i ++ mo.movesP st i := by simp [Mo.mvP, List.range_succ]
theorem Mo.mvC_succ {mo : Mo} {st : Stt} {i : Nat} : mo.mvC st (i + 1) = mo.mvC st i ++ mo.movesC st i := by simp [Mo.mvC, List.range_succ]
theorem Mo.moves_eq {mo : Mo} {st : Stt} : mo.moves st = mo.mvP st mo.procs.length ++ if st.hold < 0 then mo.mvC st mo.chans.length else [] := rfl
theorem Mo.mvE_len {mo : Mo} {st : Stt} {i j : Nat} : (mo.mvE st i j).length <= j := by
 unfold Mo.mvE
 rw [List.length_map]
 exact Nat.le_trans (List.length_filter_le _ _) (by simp)
theorem Mo.movesP_len {mo : Mo} (ho : MoOk mo) {st : Stt} {i : Nat} (hi : i < mo.procs.length) : (mo.movesP st i).length <= 4000 := by
 rw [Mo.movesP_eq]
 split
 ·simp
 ·exact Nat.le_trans Mo.mvE_len (ho.pr _ (pAt_mem hi)).el
theorem Mo.mvP_len {mo : Mo} (ho : MoOk mo) {st : Stt} : ∀ {i : Nat}, i <= mo.procs.length -> (mo.mvP st i).length <= 4000 * i
 | 0, _ => by simp [Mo.mvP]
 | i + 1, hi => by
   rw [Mo.mvP_succ, List.length_append]
   have h1 := Mo.mvP_len ho (st := st) (i := i) (by omega)
   have h2 := Mo.movesP_len ho (st := st) (i := i) (by omega)
   omega
theorem Mo.movesC_len {mo : Mo} {st : Stt} {i : Nat} : (mo.movesC st i).length <= 2 := by
 unfold Mo.movesC
 rw [List.length_append]
 split <;> split <;> simp
theorem Mo.mvC_len {mo : Mo} {st : Stt} : ∀ {i : Nat}, (mo.mvC st i).length <= 2 * i
 | 0 => by simp [Mo.mvC]
 | i + 1 => by
   rw [Mo.mvC_succ, List.length_append]
   have h1 := Mo.mvC_len (mo := mo) (st := st) (i := i)
   have h2 := Mo.movesC_len (mo := mo) (st := st) (i := i)
   omega
theorem Fr.thenS {a b c : Store} (h : Fr [] a b) (hl : b.next <= c.next) (u : ∀ j, j < b.next -> c.get j = b.get j) : Fr [] a c :=
 ⟨Nat.le_trans h.1 hl, fun j hj hn => by rw [u j (Nat.lt_of_lt_of_le hj h.1), h.2 j hj hn]⟩
theorem Hp.hd {s : Store} {id : Nat} {cs : List D} {W R : Hs} (h : Hp s ((id, cs) :: W) R) : s.get id = some (.cells cs) := h.w (id, cs) (by simp)
theorem Hp.tl {s : Store} {w : Nat × List D} {W R : Hs} (h : Hp s (w :: W) R) : Hp s W R := h.sub (List.sublist_cons_self _ _) fun _ h => h
theorem Hp.rh {s : Store} {id : Nat} {cs : List D} {W R : Hs} (h : Hp s W ((id, cs) :: R)) : s.get id = some (.cells cs) := h.r (id, cs) (by simp)
theorem Hp.rt {s : Store} {w : Nat × List D} {W R : Hs} (h : Hp s W (w :: R)) : Hp s W R := h.sub (List.Sublist.refl _) fun _ h => by simp [h]
def cellsZ (l : List Int) : List D := l.map fun n => .int .i64 n
def rowsZ (l : List Int) : List (List D) := l.map fun n => [.int .i64 n]
@[simp] theorem cellsZ_length (l : List Int) : (cellsZ l).length = l.length := by simp [cellsZ]
@[simp] theorem rowsZ_length (l : List Int) : (rowsZ l).length = l.length := by simp [rowsZ]
theorem rowsZ_flat (l : List Int) : (rowsZ l).flatten = cellsZ l := by induction l with
 | nil => rfl
 | cons a l ih => simp only [rowsZ, cellsZ, List.map_cons, List.flatten_cons, List.singleton_append] at *; rw [ih]
theorem rowsN_flat (l : List Nat) : (rowsN l).flatten = cellsI l := by induction l with
 | nil => rfl
 | cons a l ih => simp only [rowsN, cellsI, List.map_cons, List.flatten_cons, List.singleton_append] at *; rw [ih]
theorem rowsZ_len (l : List Int) : ∀ r ∈ rowsZ l, r.length = 1 := by intro r h; obtain ⟨b, _, rfl⟩ := List.mem_map.1 h; rfl
theorem rowsZ_scal (l : List Int) : ∀ r ∈ rowsZ l, r.all scal1 = true := by intro r h; obtain ⟨b, _, rfl⟩ := List.mem_map.1 h; rfl
theorem fl_row {d : D} {rows : List (List D)} (h : FL 1 d rows) {g : Look} : rowOf g d = some rows.flatten /\ srcLen d = some rows.length /\ srcSz 1 d = true := by
 rcases h with ⟨rfl, rfl⟩ | rfl <;> exact ⟨rfl, rfl, rfl⟩
theorem Hp.notIn {x : Nat} {E : Hs} (h : ∀ e ∈ E, e.1 ≠ x) : NotIn x (E.map Prod.fst) := by
 induction E with
 | nil => trivial
 | cons a E ih => exact ⟨fun e => h a (by simp) e.symm, ih fun e he => h e (by simp [he])⟩
theorem Hp.ltW {s : Store} {W R : Hs} (h : Hp s W R) {w : Nat × List D} (hw : w ∈ W) : w.1 < s.next := get_lts (h.w w hw)
theorem Hp.ltR {s : Store} {W R : Hs} (h : Hp s W R) {w : Nat × List D} (hw : w ∈ R) : w.1 < s.next := get_lts (h.r w hw)
theorem mx_new {pairs T i t rest env K s d bytes rows W R} (hd : FL 1 d rows) (hr : ∀ r ∈ rows, r.length = 1) (hp : Hp s W R) (hb : bytes <= 1000) (hl : rows.length <= 1000000000) (he : EfOk pairs i [s.next, s.next + 1] T)
 (k : ∀ id s', Hp s' ((id, rows.flatten) :: W) R -> s.next < s'.next -> s.next <= id -> (∀ j, j < s.next -> s'.get j = s.get j) -> XX fs pairs (⟨i, none, [s.next, s.next + 1]⟩ :: T) rest ((t, .arr id 0 rows.length 1) :: env) s' K) : MX (.arr s.next 0 0 1) d 1 bytes i fs pairs T t rest env (s.push (.cells [])) K := by
 obtain ⟨r1, r2, r3⟩ := fl_row hd (g := (s.push (.cells [])).get)
 have b3 : bytes <= 2 ^ 20 := Nat.le_trans hb (by decide)
 have hg : (s.push (.cells [])).get s.next = some (.cells []) := get_push_new rfl
 by_cases h0 : rows.length = 0
 ·have e : rows = [] := List.length_eq_zero_iff.1 h0
  subst e
  refine ⟨.arr s.next 0 0 1, s.push (.cells []), [s.next, s.next + 1], ?_, Nat.le_refl _, fun _ _ => rfl, he, ?_⟩
  ·unfold appendV
   simp only [r1, r2, r3, b3, decide_true, Bool.and_self, if_true, hg, List.length_nil, Nat.zero_mul, Nat.add_zero, and_self]
  ·exact k s.next _ (hp.pushW []) (by simp) (Nat.le_refl _) fun j hj => by rw [get_push_old hj]
 ·have hf := flat_len hr
  have b1 : (0 + rows.length) * bytes <= 2 ^ 45 := Nat.le_trans (Nat.mul_le_mul (show 0 + rows.length <= 1000000000 by omega) hb) (by decide)
  have b2 : 0 + rows.length <= 2 ^ 45 := by omega
  refine ⟨.arr (s.next + 1) 0 rows.length 1, ((s.push (.cells [])).set s.next none).push (.cells rows.flatten), [s.next, s.next + 1], ?_, by simp, fun j hj => ?_, he, ?_⟩
  ·unfold appendV
   simp only [r1, r2, r3, b3, decide_true, Bool.and_self, if_true, hg, List.length_nil, Nat.zero_mul, Nat.add_zero, and_self]
   rw [if_neg h0, if_pos ⟨b1, b2⟩]
   simp
  ·simp only [List.mem_cons, List.not_mem_nil, or_false, not_or] at hj
   have e1 : (s.push (.cells [])).get j = s.get j := by rw [Store.get_push, if_neg hj.1]
   have e2 : (((s.push (.cells [])).set s.next none).push (.cells rows.flatten)).get j = (s.push (.cells [])).get j := by rw [Store.get_push, if_neg (by simpa using hj.2), get_set_ne hj.1]
   rw [e2]
  ·refine k (s.next + 1) _ ?_ (by simp; omega) (by omega) fun j hj => ?_
   ·have h1 := (hp.pushW []).kill (A := []) (B := W) (cs := []) (id := s.next)
    have h2 := h1.pushW rows.flatten
    simpa using h2
   ·rw [get_push_old (by simp; omega), get_set_ne (by omega), get_push_old hj]
theorem Rp.exp {s : Store} {d : D} {sz bytes idt : Nat} {rows : List (List D)} {row : List D} {E : Hs} (h : Rp d sz rows E) (he : Has s E) (ht : s.get idt = some (.cells row)) (hr : row.length = sz) (hrs : ∀ r ∈ rows, r.length = sz) (hb : bytes <= 1000) (hl : rows.length <= 1000000000) :
 ∃ s', appendV sz bytes d (.arr idt 0 1 sz) s = some (.arr s.next 0 (rows.length + 1) sz, s') /\ s'.next = s.next + 1 /\ s'.get s.next = some (.cells (rows.flatten ++ row)) /\ ∀ id, id ≠ s.next -> (∀ e ∈ E, e.1 ≠ id) -> s'.get id = s.get id := by
 have b3 : bytes <= 2 ^ 20 := Nat.le_trans hb (by decide)
 have r1 : rowOf s.get (.arr idt 0 1 sz) = some row := by
  simp only [rowOf, ht, Nat.zero_add, Nat.one_mul, List.drop_zero]
  rw [if_pos (by omega), List.take_of_length_le (by omega)]
 have r2 : srcLen (.arr idt 0 1 sz) = some 1 := rfl
 have r3 : srcSz sz (.arr idt 0 1 sz) = true := by simp [srcSz]
 rcases h with ⟨rfl, rfl, rfl⟩ | ⟨id, rfl, rfl, hne⟩
 ·refine ⟨s.push (.cells row), ?_, by simp, by rw [get_push_new rfl]; simp, fun j hj _ => by rw [Store.get_push, if_neg hj]⟩
  unfold appendV
  simp only [r1, r2, r3, b3, decide_true, Bool.and_self, if_true]
  rw [if_neg (by omega), if_pos ⟨by omega, by omega⟩]
  rfl
 ·have hf := flat_len hrs
  have hg : s.get id = some (.cells rows.flatten) := he (id, rows.flatten) (by simp)
  have b1 : (rows.length + 1) * bytes <= 2 ^ 45 := Nat.le_trans (Nat.mul_le_mul (show rows.length + 1 <= 1000000001 by omega) hb) (by decide)
  have b2 : rows.length + 1 <= 2 ^ 45 := by omega
  refine ⟨(s.set id none).push (.cells (rows.flatten ++ row)), ?_, by simp, get_push_new (by simp), fun j hj hn => ?_⟩
  ·unfold appendV
   simp only [r1, r2, r3, b3, decide_true, Bool.and_self, if_true, hg, Nat.zero_add, hf, and_self, List.drop_zero]
   rw [if_neg (by omega), if_pos ⟨b1, b2⟩]
  ·have : id ≠ j := hn (id, rows.flatten) (by simp)
   rw [Store.get_push, if_neg (by simpa using hj), get_set_ne this.symm]
theorem Rp.app2 {s : Store} {d : D} {sz bytes : Nat} {rows : List (List D)} {row : List D} {A B E R : Hs} (h : Rp d sz rows E) (hp : Hp s (A ++ E ++ B) R) (hr : row.length = sz) (hrs : ∀ r ∈ rows, r.length = sz) (hb : bytes <= 1000) (hl : rows.length <= 1000000000) :
 ∃ s', appendV sz bytes d (.arr s.next 0 1 sz) (s.push (.cells row)) = some (.arr (s.next + 1) 0 (rows.length + 1) sz, s') /\ Rp (.arr (s.next + 1) 0 (rows.length + 1) sz) sz (rows ++ [row]) [(s.next + 1, (rows ++ [row]).flatten)] /\ Hp s' (A ++ (s.next + 1, (rows ++ [row]).flatten) :: B) R /\ s'.next = s.next + 2 /\ (∀ j, j < s.next -> (∀ e ∈ E, e.1 ≠ j) -> s'.get j = s.get j) /\ ∀ j, j ∉ (s.next + 1) :: E.map Prod.fst -> (s.push (.cells row)).get j = s'.get j := by
 have hp1 := hp.push (.cells row)
 have heE : Has (s.push (.cells row)) E := fun x hx => hp1.w x (by simp [hx])
 obtain ⟨s', h1, h2, h3, h4⟩ := h.exp heE (get_push_new rfl) hr hrs hb hl
 rw [Store.next_push] at h1 h2 h3 h4
 refine ⟨s', h1, .inr ⟨s.next + 1, by simp, by simp, by simp⟩, ?_, h2, fun j hj hn => ?_, fun j hj => ?_⟩
 ·have hn := hp1.nd
  have hE : ∀ w ∈ A ++ B, ∀ e ∈ E, e.1 ≠ w.1 := by
   intro w hw e hee hc
   rw [List.append_assoc, List.map_append, List.map_append, List.nodup_append, List.nodup_append] at hn
   obtain ⟨_, ⟨_, _, n2⟩, n3⟩ := hn
   rcases List.mem_append.1 hw with hw | hw
   ·exact n3 w.1 (List.mem_map_of_mem hw) e.1 (List.mem_append_left _ (List.mem_map_of_mem hee)) hc.symm
   ·exact n2 e.1 (List.mem_map_of_mem hee) w.1 (List.mem_map_of_mem hw) hc
  have hsub : Hp (s.push (.cells row)) (A ++ B) R := hp1.sub (by
   rw [List.append_assoc]
   exact List.Sublist.append (List.Sublist.refl _) (List.sublist_append_right _ _)) fun x h => h
  have key : ∀ w ∈ A ++ B, s'.get w.1 = some (.cells w.2) := fun w hw => by
   have hl := hp.ltW (w := w) (by rcases List.mem_append.1 hw with h | h <;> simp [h])
   rw [h4 w.1 (by omega) (hE w hw)]
   exact hsub.w w hw
  refine Hp.perm (W := (s.next + 1, (rows ++ [row]).flatten) :: (A ++ B)) ⟨?_, ?_, ?_, ?_⟩ List.perm_middle
  ·rw [List.map_cons, List.nodup_cons]
   refine ⟨fun hm => ?_, hsub.nd⟩
   obtain ⟨w, hw, e⟩ := List.mem_map.1 hm
   have := hp.ltW (w := w) (by rcases List.mem_append.1 hw with h | h <;> simp [h])
   simp only at e; omega
  ·intro w hw r hrr
   rcases List.mem_cons.1 hw with rfl | hw
   ·have := hp.ltR hrr
    simp only; omega
   ·exact hsub.ap w hw r hrr
  ·intro w hw
   rcases List.mem_cons.1 hw with rfl | hw
   ·rw [h3]; simp
   ·exact key w hw
  ·intro r hrr
   have hl := hp.ltR hrr
   rw [h4 r.1 (by omega) fun e hee => hp.ap e (by simp [hee]) r hrr]
   exact hsub.r r hrr
 ·rw [h4 j (by omega) hn, get_push_old hj]
 ·simp only [List.mem_cons, not_or, List.mem_map, not_exists, not_and] at hj
  exact (h4 j hj.1 fun e he hc => hj.2 e he hc).symm
theorem mx_app {pairs T i t rest env K s d sz bytes rows row A B E R} (h : Rp d sz rows E) (hp : Hp s (A ++ E ++ B) R) (hr : row.length = sz) (hrs : ∀ r ∈ rows, r.length = sz) (hb : bytes <= 1000) (hl : rows.length <= 1000000000) (he : EfOk pairs i ((s.next + 1) :: E.map Prod.fst) T)
 (k : ∀ s', Rp (.arr (s.next + 1) 0 (rows.length + 1) sz) sz (rows ++ [row]) [(s.next + 1, (rows ++ [row]).flatten)] -> Hp s' (A ++ (s.next + 1, (rows ++ [row]).flatten) :: B) R -> s'.next = s.next + 2 -> (∀ j, j < s.next -> (∀ e ∈ E, e.1 ≠ j) -> s'.get j = s.get j) -> XX fs pairs (⟨i, none, (s.next + 1) :: E.map Prod.fst⟩ :: T) rest ((t, .arr (s.next + 1) 0 (rows.length + 1) sz) :: env) s' K) : MX d (.arr s.next 0 1 sz) sz bytes i fs pairs T t rest env (s.push (.cells row)) K := by
 obtain ⟨s', h1, h2, h3, h4, h5, h6⟩ := h.app2 hp hr hrs hb hl
 exact ⟨_, s', (s.next + 1) :: E.map Prod.fst, h1, by rw [h4, Store.next_push]; omega, h6, he, k s' h2 h3 h4 h5⟩
theorem bm_app2 {t rest env K s d sz bytes rows row A B E R} (h : Rp d sz rows E) (hp : Hp s (A ++ E ++ B) R) (hr : row.length = sz) (hrs : ∀ r ∈ rows, r.length = sz) (hb : bytes <= 1000) (hl : rows.length <= 1000000000)
 (k : ∀ s', Rp (.arr (s.next + 1) 0 (rows.length + 1) sz) sz (rows ++ [row]) [(s.next + 1, (rows ++ [row]).flatten)] -> Hp s' (A ++ (s.next + 1, (rows ++ [row]).flatten) :: B) R -> s'.next = s.next + 2 -> (∀ j, j < s.next -> (∀ e ∈ E, e.1 ≠ j) -> s'.get j = s.get j) -> XQ fs [] rest ((t, .arr (s.next + 1) 0 (rows.length + 1) sz) :: env) s' K) : BM (appendV sz bytes d (.arr s.next 0 1 sz) (s.push (.cells row))) fs t rest env K := by
 obtain ⟨s', h1, h2, h3, h4, h5, _⟩ := h.app2 hp hr hrs hb hl
 rw [h1]
 exact k s' h2 h3 h4 h5
theorem zip_snoc {β : Type} {f : Nat -> List Int -> β} {q : Nat} : ∀ {ids : List Nat} {l : List (List Int)}, ids.length < l.length -> List.zipWith f (ids ++ [q]) l = List.zipWith f ids l ++ [f q (cAt l ids.length)]
 | [], [], h => by simp at h
 | [], a :: l, _ => by simp [cAt]
 | i :: ids, [], h => by simp at h
 | i :: ids, a :: l, h => by
   have ih := zip_snoc (f := f) (q := q) (ids := ids) (l := l) (by simpa using h)
   simp only [List.cons_append, List.zipWith_cons_cons, ih, List.length_cons]
   rfl
def qrows (ids : List Nat) (l : List (List Int)) : List (List D) := List.zipWith (fun id q => [.arr id 0 q.length 1]) ids l
def qparts (ids : List Nat) (l : List (List Int)) : Hs := List.zipWith (fun id q => (id, cellsZ q)) ids l
theorem qrows_len : ∀ {ids : List Nat} {l : List (List Int)}, ∀ r ∈ qrows ids l, r.length = 1
 | [], _, r, h => by simp [qrows] at h
 | _ :: _, [], r, h => by simp [qrows] at h
 | i :: ids, a :: l, r, h => by
   simp only [qrows, List.zipWith_cons_cons, List.mem_cons] at h
   rcases h with rfl | h
   ·rfl
   ·exact qrows_len (ids := ids) (l := l) r h
theorem qrows_length {ids : List Nat} {l : List (List Int)} (h : ids.length <= l.length) : (qrows ids l).length = ids.length := by simp [qrows]; omega
theorem qrows_snoc {ids : List Nat} {l : List (List Int)} {q : Nat} (h : ids.length < l.length) : qrows (ids ++ [q]) l = qrows ids l ++ [[.arr q 0 (cAt l ids.length).length 1]] := zip_snoc h
theorem qparts_snoc {ids : List Nat} {l : List (List Int)} {q : Nat} (h : ids.length < l.length) : qparts (ids ++ [q]) l = qparts ids l ++ [(q, cellsZ (cAt l ids.length))] := zip_snoc h
end Go.V
namespace Go.V
variable {fs : FuncId -> Option VFunc}
theorem wx_evp {pairs T i t fo args rest s Q} {env : Env} {f : FuncId} {caps : List D} {l : List D} {P : D -> Store -> Prop} (hf : env.ev fo = .fn f caps) (hr : EvP fs f l s fun d s' => P d s' /\ Fr [] s s') (ha : env.evL args ++ caps = l)
 (he : ∀ e ∈ T, (e.i, i) ∈ pairs -> ∀ id, e.rd = some id -> id < s.next)
 (h : ∀ d s', P d s' -> Fr [] s s' -> XX fs pairs (⟨i, none, (List.range s'.next).filter fun x => s.next <= x⟩ :: T) rest ((t, d) :: env) s' Q) : WX fs pairs T ((i, ⟨some t, .m (.call .raw fo args), none⟩) :: rest) env s Q := by
 subst ha
 obtain ⟨d, s', ⟨n, hn⟩, h1, h2⟩ := hr
 refine wx_m ⟨n, by simp only [evM, callV, hf]; exact hn⟩ (E := (List.range s'.next).filter fun x => s.next <= x) ?_ h2.1 ?_ (xx_sound (h d s' h1 h2))
 ·intro id hid
  by_cases c : id < s.next
  ·exact (h2.2 id c (by simp)).symm
  ·by_cases c2 : id < s'.next
   ·exact (hid (by simp; omega)).elim
   ·rw [Store.get_none _ _ (by omega), Store.get_none _ _ (by omega)]
 ·intro e he1 he2 id hid
  have := he e he1 he2 id hid
  simp; omega
theorem cw_cut {d : D} {vars x y Q env s id} (l : List Nat) (P : (Nat -> D) -> Store -> Prop) (h : CW d fs vars x y (Out' id (CutQ vars l env P Q)) env s) (k : ∀ f s, P f s -> End Q .normal (formE vars l env f) s) : CW d fs vars x y (Out' id Q) env s := by
 have key : ∀ env' s, CutQ vars l env P Q .normal env' s -> Q .normal env' s := fun env' s h => by
  have := k _ s h.2
  rw [<- form_of h.1] at this
  exact this
 have mo : ∀ e env' s', Out' id (CutQ vars l env P Q) e env' s' -> Out' id Q e env' s' := fun e env' s' h => by
  cases e with
  | normal => exact key _ _ h
  | exit id' =>
    simp only [Out'] at h ⊢
    by_cases hc : id' = id
    ·rw [if_pos hc] at h ⊢; exact key _ _ h
    ·rw [if_neg hc] at h ⊢; exact h
  | ret => exact h
 exact WayC.mono h (fun h => yw_mono mo h) fun h => yw_mono mo h
end Go.V
namespace Go.Proofs.Ytlaeblilmppodaa
open Go.V
set_option maxRecDepth 100000
theorem iso_c {f : Nat} {l : List D} {r : D} (h : Iso f l r) (hs : scal1 r = true) : IsoC vfs f l r := by
 obtain ⟨s1, h⟩ := h
 exact ⟨r, s1, h, ice_scal hs 19⟩
theorem iso_bc {f : Nat} {l : List D} {r : D} (h : Iso f l r) (hs : scal1 r = true) : Eqc vfs f l r := bc_of (iso_c h hs)
theorem trim8_bc {x : Int} (h1 : -4294967296 <= x) (h2 : x <= 4294967296) : Eqc vfs 45 [.int .i64 x, .int .i64 8] (.int .i64 (trimZ x 8)) := iso_bc (trim_iso (x := x) (n := 8) (w := 8) (by decide) ⟨by omega, by omega⟩) rfl
theorem one_bc {b : Bool} : Eqc vfs 68 [.bool b] (.int .i64 (oneZ b)) := iso_bc one_ok rfl
theorem pzm {m : MdX} {mo : Mo} {ps : List (Pr × PrD)} (h : MoF m mo ps) : PZ (.agg (mdRow m)) := pz_agg fun d hd => by
 simp only [mdRow, List.mem_cons, List.not_mem_nil, or_false] at hd
 rcases hd with rfl | rfl | rfl | rfl | rfl | rfl | rfl
 ·exact ⟨FL.pure h.tr.fl, FL.ic h.tr.fl⟩
 ·exact ⟨rfl, fun _ _ => rfl⟩
 ·exact ⟨h.c.pure, FL.ic h.c⟩
 ·exact ⟨h.v.pure, FL.ic h.v⟩
 ·exact ⟨h.p.pure, FL.ic h.p⟩
 ·exact ⟨h.sf.pure, FL.ic h.sf⟩
 ·exact ⟨rfl, fun _ _ => rfl⟩
theorem pzs {x : StD} {st : Stt} (h : StF x st) : PZ (.agg (stRow x st)) := pz_agg fun d hd => by
 obtain ⟨ds, h1, _⟩ := h.c
 simp only [stRow, List.mem_cons, List.not_mem_nil, or_false] at hd
 rcases hd with rfl | rfl | rfl | rfl
 ·exact ⟨h.a.pure, FL.ic h.a⟩
 ·exact ⟨FL.pure h.v, FL.ic h.v⟩
 ·exact ⟨h1.pure, FL.ic h1⟩
 ·exact ⟨rfl, fun _ _ => rfl⟩
theorem do8_bc {op : Nat} (hop : op < 5) {a b : Int} (ha : I8 a) (hb : I8 b) : Eqc vfs 69 [.int .i64 (op : Int), .int .i64 a, .int .i64 b, .int .i64 8] (.int .i64 (doZ op a b 8)) := iso_bc (do8 hop ha hb) rfl
end Go.Proofs.Ytlaeblilmppodaa
namespace Go.Proofs.Ytlaeblilmppodaa
open Go.V
set_option maxRecDepth 100000
set_option maxHeartbeats 4000000
variable {m : MdX} {mo : Mo} {ps : List (Pr × PrD)}
theorem bit_bc {n : Int} (h : n < 32) : Eqc vfs 40 [.int .i64 n] (.int .u32 (bitN n : Int)) := iso_bc (bit_ok h) rfl
theorem read_okg (hm : MoF m mo ps) (ho : MoOk mo) {vb : ByteArray -> Nat} (hvb : ∀ w, vb w < 4294967296) {fid idf : Nat} {caps : List D} : ∀ (n k : Nat), k < mo.tree.length -> mo.tree.length - k < n -> exprK (nd mo.tree k).kind ->
 ∀ (s : Store) (f : Ft), s.get idf = some (.cells f.row) -> f.Ok -> (∀ s', Fr [idf] s s' -> ∀ w, EvP vfs fid (.str w :: caps) s' fun r s'' => r = .int .u32 (vb w : Int) /\ Fr [] s' s'') ->
 EvP vfs 38 [.agg [m.dt, .int .i64 m.g, m.dc, m.dv, m.dp, m.ds, .bool m.b], .int .i64 (k : Int), .ptr idf 0, .fn fid caps] s fun r s' => r = .tup [] /\ s'.get idf = some (.cells (readF mo.tree (mo.chans.map Ch.name) vb n k f).row) /\ Fr [idf] s s' /\ (readF mo.tree (mo.chans.map Ch.name) vb n k f).Ok
 | 0, k, _, h, _ => by omega
 | n + 1, k, hk, hn, hex => by
   intro s f hf hfo hv
   have om := hm.ones
   have ht := hm.tr
   have hle := ho.tree.le
   have hno := ho.tree.node k hk
   have on := nd_one hm.tr hk
   have hfl := get_lts hf
   have hw := word_idx hm.tr hk (i := 0)
   have n0 := ndnum_idx hm.tr hk (i := 0)
   have z0 : ((0 : Nat) : Int) = 0 := rfl
   rw [hno.wl, z0] at hw
   rw [hno.nl, z0] at n0
   have hkk := FI.len (hm.tr.nd hk).k
   have hr1 := read1_ok (x := nd mo.tree k) hfo (ch := mo.chans.map Ch.name) (by simpa using ho.nc) hvb
   show EvP _ _ _ _ fun r s' => r = .tup [] /\ s'.get idf = some (.cells ((nd mo.tree k).ks.foldl (fun f c => readF mo.tree (mo.chans.map Ch.name) vb n c f) (read1 (mo.chans.map Ch.name) vb (nd mo.tree k) f)).row) /\ Fr [idf] s s' /\ ((nd mo.tree k).ks.foldl (fun f c => readF mo.tree (mo.chans.map Ch.name) vb n c f) (read1 (mo.chans.map Ch.name) vb (nd mo.tree k) f)).Ok
   refine yevp (vf := vf38) rfl ?_
   unfold vf38; refine zF ?_
   refine zY (aN om (aN ht (aN hk on))) ?_
   have fr2 : Fr [] s (((s.push (.cells [m.dt, .int .i64 m.g, m.dc, m.dv, m.dp, m.ds, .bool m.b])).push (.cells [.int .i64 0, .nils, .nils, .nils, .int .i64 0])).set (s.next + 1) (some (.cells [.int .i64 (nd mo.tree k).kind, (nd mo.tree k).dw, (nd mo.tree k).dn, (nd mo.tree k).dk, .int .i64 (nd mo.tree k).pos]))) := ((Fr.push _).thenPush _).thenSet _ (.inr (by omega))
   have b2 : (((s.push (.cells [m.dt, .int .i64 m.g, m.dc, m.dv, m.dp, m.ds, .bool m.b])).push (.cells [.int .i64 0, .nils, .nils, .nils, .int .i64 0])).set (s.next + 1) (some (.cells [.int .i64 (nd mo.tree k).kind, (nd mo.tree k).dw, (nd mo.tree k).dn, (nd mo.tree k).dk, .int .i64 (nd mo.tree k).pos]))).get s.next = some (.cells [m.dt, .int .i64 m.g, m.dc, m.dv, m.dp, m.ds, .bool m.b]) := by (simp (disch := (first|with_reducible assumption|omega|((repeat (first|rw [nP]|rw [nS]))<;>omega)|fail)) only [get_push_old, get_push_new, get_set_ne, get_set_eq, Store.next_push, Store.next_set])
   have c2 : (((s.push (.cells [m.dt, .int .i64 m.g, m.dc, m.dv, m.dp, m.ds, .bool m.b])).push (.cells [.int .i64 0, .nils, .nils, .nils, .int .i64 0])).set (s.next + 1) (some (.cells [.int .i64 (nd mo.tree k).kind, (nd mo.tree k).dw, (nd mo.tree k).dn, (nd mo.tree k).dk, .int .i64 (nd mo.tree k).pos]))).get (s.next + 1) = some (.cells [.int .i64 (nd mo.tree k).kind, (nd mo.tree k).dw, (nd mo.tree k).dn, (nd mo.tree k).dk, .int .i64 (nd mo.tree k).pos]) := by (simp (disch := (first|with_reducible assumption|omega|((repeat (first|rw [nP]|rw [nS]))<;>omega)|fail)) only [get_push_old, get_push_new, get_set_ne, get_set_eq, Store.next_push, Store.next_set])
   have f2 := (fr2.2 idf hfl (by simp)).trans hf
   unfold Ft.row at f2
   generalize (((s.push (.cells [m.dt, .int .i64 m.g, m.dc, m.dv, m.dp, m.ds, .bool m.b])).push (.cells [.int .i64 0, .nils, .nils, .nils, .int .i64 0])).set (s.next + 1) (some (.cells [.int .i64 (nd mo.tree k).kind, (nd mo.tree k).dw, (nd mo.tree k).dn, (nd mo.tree k).dk, .int .i64 (nd mo.tree k).pos]))) = s2 at *
   have l2 := get_lts c2
   have l2' := get_lts f2
   have hv2 := hv s2 (fr2.weaken (by simp))
   refine cw_cut [2, 3, 4, 8] (fun f' s' => s'.get idf = some (.cells (read1 (mo.chans.map Ch.name) vb (nd mo.tree k) f).row) /\ Fr [idf] s s' /\ s'.get s.next = some (.cells [m.dt, .int .i64 m.g, m.dc, m.dv, m.dp, m.ds, .bool m.b]) /\ s'.get (s.next + 1) = some (.cells [.int .i64 (nd mo.tree k).kind, (nd mo.tree k).dw, (nd mo.tree k).dn, (nd mo.tree k).dk, .int .i64 (nd mo.tree k).pos])) ?_ ?_
   ·by_cases q18 : (nd mo.tree k).kind = 18
    ·rw [q18] at hw
     have hw := hw (by decide)
     have hcl := hv2 ((nd mo.tree k).word 0)
     have hor := s32_or hfo.r (hvb ((nd mo.tree k).word 0))
     have e : read1 (mo.chans.map Ch.name) vb (nd mo.tree k) f = { f with reads := f.reads ||| vb ((nd mo.tree k).word 0) } := by unfold read1; rw [if_pos q18]
     rw [e]
     refine zY (aN f2 (aN c2 (aN on (aN q18 hw)))) ?_
     refine wx_evp rfl hcl rfl ?_ ?_
     ·intro e he _ id hid
      simp only [List.mem_cons, List.not_mem_nil, or_false] at he
      rcases he with rfl | rfl
      ·simp only [Option.some.injEq] at hid; omega
      ·simp only [Option.some.injEq] at hid; omega
     ·intro d s3 hd fr3
      subst hd
      have f3 := (fr3.2 idf l2' (by simp)).trans f2
      have b3 := (fr3.2 s.next (by omega) (by simp)).trans b2
      have c3 := (fr3.2 (s.next + 1) l2 (by simp)).trans c2
      have l3 := get_lts f3
      refine zY (aN f3 hor) ?_
      exact ⟨rfl, ((fr2.trans fr3 (by simp)).weaken (by simp)).thenSet _ (.inl (by simp)), b3, by rw [c3, q18]⟩
    by_cases q19 : (nd mo.tree k).kind = 19
    ·rw [q19] at hw
     have hw := hw (by decide)
     have e : read1 (mo.chans.map Ch.name) vb (nd mo.tree k) f = { f with sizes := f.sizes ||| chB (mo.chans.map Ch.name) ((nd mo.tree k).word 0) } := by unfold read1; rw [if_neg q18, if_pos q19]
     have hmc := hm.c
     have hnc := ho.nc
     refine zY (aN f2 (aN b2 (aN c2 (aN on (aN om (aN q18 (aN q19 hmc))))))) ?_
     refine yw_up [0, 1, 2, 3, 4, 8, 12, 19, 20, 35, 38, 39, 62, 75, 80, 81, 82, 83] 0 mo.chans.length (fun i f' s' => f' 40 = .int .i64 (i : Int) /\ Fr [] s2 s' /\ ∀ j, j < i -> (chAt mo.chans j).name ≠ (nd mo.tree k).word 0) (.mk rfl) (by omega) ⟨rfl, Fr.refl _ _, fun j h => by omega⟩ ?_
     rintro i f' s' hi ⟨hE, fr3, hall⟩
     have f3 := (fr3.2 idf l2' (by simp)).trans f2
     have b3 := (fr3.2 s.next (by omega) (by simp)).trans b2
     have c3 := (fr3.2 (s.next + 1) l2 (by simp)).trans c2
     have l3 := get_lts c3
     have l3' := get_lts f3
     have fr4 : ∀ z o, Fr [] s' ((s'.push z).set s'.next (some o)) := fun z o => (Fr.push _).thenSet _ (.inr (Nat.le_refl _))
     by_cases ci : i < mo.chans.length
     ·have hb := bit_bc (n := (i : Int)) (by omega)
      have hor := s32_or hfo.z (bitN_lt (n := (i : Int)) (by omega))
      by_cases ce : (chAt mo.chans i).name = (nd mo.tree k).word 0
      ·have eb : chB (mo.chans.map Ch.name) ((nd mo.tree k).word 0) = bitN (i : Int) := by
        unfold chB
        have hil : i < (mo.chans.map Ch.name).length := by simpa using ci
        rw [idxB_at hil (by rw [<- ce, chAt_get ci]; simp) (fun j hj hji => by rw [List.length_map] at hj; have := hall j hji; rw [chAt_get hj] at this; simpa using this), if_pos hil, bitN_nat]
       rw [e, eb]
       refine zY (aN hE (aN f3 (aN c3 (aN on (aN ci (aN hmc (aN ce (aN hw (aN hor hb))))))))) ?_
       exact ⟨rfl, (((fr2.trans fr3 (by simp)).trans (fr4 _ _) (by simp)).weaken (by simp)).thenSet _ (.inl (by simp)), b3, by rw [q19]⟩
      ·refine zY (aN hE (aN f3 (aN c3 (aN on (aN ci (aN hmc (aN ce hw))))))) ?_
       refine ⟨fr3.trans (fr4 _ _) (by simp), fun j hj => ?_⟩
       by_cases ej : j = i
       ·subst ej; exact ce
       ·exact hall j (by omega)
     ·have eb : chB (mo.chans.map Ch.name) ((nd mo.tree k).word 0) = 0 := by
       unfold chB
       rw [if_neg (idxB_none fun j hj => by rw [List.length_map] at hj; have := hall j (by omega); rw [chAt_get hj] at this; simpa using this)]
      rw [e, eb, Nat.or_zero]
      refine zY (aN hE ci) ?_
      exact ⟨f3, (fr2.trans fr3 (by simp)).weaken (by simp), b3, by rw [c3, q19]⟩
    have n0 : (nd mo.tree k).kind = 22 -> _ := fun h => by rw [h] at n0; exact n0 (by decide)
    by_cases q22 : (nd mo.tree k).kind = 22
    ·have n0 := n0 q22
     by_cases q7 : (nd mo.tree k).num 0 = 7
     ·have e : read1 (mo.chans.map Ch.name) vb (nd mo.tree k) f = { f with part := true } := by unfold read1; rw [if_neg q18, if_neg q19, if_pos ⟨q22, .inl q7⟩]
      rw [e]
      refine zY (aN f2 (aN c2 (aN on (aN q18 (aN q19 (aN q22 (aN n0 q7))))))) ?_
      exact ⟨rfl, (fr2.weaken (by simp)).thenSet _ (.inl (by simp)), b2⟩
     by_cases q8 : (nd mo.tree k).num 0 = 8
     ·have e : read1 (mo.chans.map Ch.name) vb (nd mo.tree k) f = { f with part := true } := by unfold read1; rw [if_neg q18, if_neg q19, if_pos ⟨q22, .inr q8⟩]
      rw [e]
      refine zY (aN f2 (aN c2 (aN on (aN q18 (aN q19 (aN q22 (aN n0 (aN q7 q8)))))))) ?_
      exact ⟨rfl, (fr2.weaken (by simp)).thenSet _ (.inl (by simp)), b2⟩
     have e : read1 (mo.chans.map Ch.name) vb (nd mo.tree k) f = f := by unfold read1; rw [if_neg q18, if_neg q19, if_neg (by omega)]
     rw [e]
     refine zY (aN f2 (aN c2 (aN on (aN q18 (aN q19 (aN q22 (aN n0 (aN q7 q8)))))))) ?_
     exact ⟨rfl, fr2.weaken (by simp), b2⟩
    have e : read1 (mo.chans.map Ch.name) vb (nd mo.tree k) f = f := by unfold read1; rw [if_neg q18, if_neg q19, if_neg (by omega)]
    rw [e]
    refine zY (aN f2 (aN c2 (aN on (aN q18 (aN q19 q22))))) ?_
    exact ⟨rfl, fr2.weaken (by simp), b2⟩
   clear f2 c2 b2 l2 l2' fr2 hv2
   clear s2
   rintro f' s2 ⟨f2, fr2, b2, c2⟩
   obtain ⟨hkl, hkx⟩ := expr_kids hno hex
   refine zY (aN c2 (aN on hkk)) ?_
   generalize read1 (mo.chans.map Ch.name) vb (nd mo.tree k) f = f1 at *
   refine yw_up [0, 1, 2, 3, 4, 8, 9, 10, 19, 20, 35, 38, 39, 40, 41, 51, 62, 75, 80, 81] 0 (nd mo.tree k).kids.length (fun i f' s' => f' 82 = .int .i64 (i : Int) /\ s'.get idf = some (.cells (((nd mo.tree k).ks.take i).foldl (fun f c => readF mo.tree (mo.chans.map Ch.name) vb n c f) f1).row) /\ Fr [idf] s s' /\ (((nd mo.tree k).ks.take i).foldl (fun f c => readF mo.tree (mo.chans.map Ch.name) vb n c f) f1).Ok /\ s'.get s.next = some (.cells [m.dt, .int .i64 m.g, m.dc, m.dv, m.dp, m.ds, .bool m.b])) (.mk rfl) (by omega) ⟨rfl, f2, fr2, hr1, b2⟩ ?_
   have hne : s.next ≠ idf := by omega
   clear b2 c2 f2 fr2
   rintro i f' s' hi ⟨hE, f2, fr2, ho2, b2⟩
   have lb := get_lts b2
   by_cases c1 : i < (nd mo.tree k).kids.length
   ·have hki := kid_idx hm.tr ho.tree hk c1
    have hkm := kid_mem c1
    have hkt := ks_snoc c1
    have hck := ho.tree.ks hk _ hkm
    have hcx := hkx i c1
    generalize (nd mo.tree k).kid i = K at *
    have hcal := read_okg hm ho hvb n K hck.2 (by omega) hcx s' _ f2 ho2 (fun s3 h3 => hv s3 (fr2.trans h3 (by simp)))
    refine zY (aN hE (aN c1 (aN hki (aN b2 om)))) ?_
    refine xq_evp hcal rfl ?_
    rintro r s3 ⟨rfl, f3, fr3, o3⟩
    have b3 := (fr3.2 s.next lb (by simpa using hne)).trans b2
    refine zY (aN hE c1) ?_
    refine ⟨?_, fr2.trans fr3 (by simp), ?_, b3⟩
    ·rw [hkt, List.foldl_append]; exact f3
    ·rw [hkt, List.foldl_append]; exact o3
   ·obtain rfl : i = (nd mo.tree k).kids.length := by omega
    have hall : (nd mo.tree k).ks.take (nd mo.tree k).kids.length = (nd mo.tree k).ks := by rw [<- ks_len, List.take_length]
    rw [hall] at f2 ho2
    refine zY (aN hE c1) ?_
    exact ⟨rfl, f2, fr2, ho2⟩
end Go.Proofs.Ytlaeblilmppodaa
namespace Go.V
theorem rowsV_take (l : List Vr) (n : Nat) : rowsV (l.take n) = (rowsV l).take n := by simp [rowsV, List.map_take]
theorem vAt_take {l : List Vr} {n i : Nat} (h : i < n) : vAt (l.take n) i = vAt l i := by
 unfold vAt List.getD
 rw [List.getElem?_take]
 simp [h]
def Mo.varG (mo : Mo) (w : ByteArray) : Nat := if idxB ((mo.vars.take mo.globals).map Vr.name) w < mo.globals then 2 ^ idxB ((mo.vars.take mo.globals).map Vr.name) w else 0
theorem varG_lt {mo : Mo} (ho : MoOk mo) {w : ByteArray} : mo.varG w < 4294967296 := by
 have := ho.gl
 have := ho.nv
 unfold Mo.varG
 split
 ·exact pow32 (by omega)
 ·decide
theorem varG_at {mo : Mo} {w : ByteArray} {i : Nat} (hg : mo.globals <= mo.vars.length) (hi : i < mo.globals) (h : (vAt mo.vars i).name = w) (hall : ∀ j, j < i -> (vAt mo.vars j).name ≠ w) : mo.varG w = bitN (i : Int) := by
 unfold Mo.varG
 have hl : i < ((mo.vars.take mo.globals).map Vr.name).length := by simp; omega
 rw [idxB_at hl (by rw [<- h, vAt_get (by omega)]; simp) (fun j hj hji => by
  have := hall j hji
  rw [vAt_get (by omega)] at this
  simpa using this), if_pos hi, bitN_nat]
theorem varG_no {mo : Mo} {w : ByteArray} (hg : mo.globals <= mo.vars.length) (hall : ∀ j, j < mo.globals -> (vAt mo.vars j).name ≠ w) : mo.varG w = 0 := by
 unfold Mo.varG
 have hl : ((mo.vars.take mo.globals).map Vr.name).length = mo.globals := by simp; omega
 have := idxB_none (l := (mo.vars.take mo.globals).map Vr.name) (w := w) fun j hj => by
  rw [hl] at hj
  have := hall j hj
  rw [vAt_get (by omega)] at this
  simpa using this
 rw [hl] at this
 rw [if_neg this]
def Mo.askN (mo : Mo) (n : Nat) : Ft := (mo.safe.take n).foldl (fun f k => readF mo.tree (mo.chans.map Ch.name) mo.varG (mo.tree.length + 1) k f) ⟨0, 0, 0, 0, 0, false⟩
def Mo.askF (mo : Mo) : Ft := mo.safe.foldl (fun f k => readF mo.tree (mo.chans.map Ch.name) mo.varG (mo.tree.length + 1) k f) ⟨0, 0, 0, 0, 0, false⟩
theorem askN_succ {mo : Mo} {i : Nat} (h : i < mo.safe.length) : mo.askN (i + 1) = readF mo.tree (mo.chans.map Ch.name) mo.varG (mo.tree.length + 1) (nAt mo.safe i) (mo.askN i) := by
 unfold Mo.askN
 rw [List.take_succ_eq_append_getElem h, List.foldl_append, nAt_get h]
 rfl
theorem askN_all {mo : Mo} : mo.askN mo.safe.length = mo.askF := by unfold Mo.askN Mo.askF; rw [List.take_length]
theorem ice_row {g : Look} {f : Ft} : ice g 20 (.agg f.row) = some (.agg f.row) := rfl
def Mo.visF (mo : Mo) (p : Pr) (e : Ed) : Bool := decide ((edgeF mo p e).writes &&& mo.askF.reads ≠ 0) || decide (((edgeF mo p e).sends ||| (edgeF mo p e).recvs) &&& mo.askF.sizes ≠ 0)
end Go.V
namespace Go.Proofs.Ytlaeblilmppodaa
open Go.V
set_option maxRecDepth 100000
set_option maxHeartbeats 4000000
variable {m : MdX} {mo : Mo} {ps : List (Pr × PrD)}
theorem asked1_ok (hm : MoF m mo ps) (ho : MoOk mo) {s : Store} {idm : Nat} (hg : s.get idm = some (.cells [m.dt, .int .i64 m.g, m.dc, m.dv, m.dp, m.ds, .bool m.b])) {w : ByteArray} : EvP vfs 64 [.str w, .ptr idm 0] s fun r s' => r = .int .u32 (mo.varG w : Int) /\ Fr [] s s' := by
 have om := hm.ones
 have hgl := ho.gl
 have hnv := ho.nv
 have lg := get_lts hg
 obtain ⟨d', h1, h2⟩ := FL.take hm.v (n := mo.globals) (by rw [rowsV_length]; exact hgl) (k := .i64)
 have hmg := hm.g
 have h2' : FL 3 d' (rowsV (mo.vars.take mo.globals)) := by rw [rowsV_take]; exact h2
 have hl := ln_v h2'
 rw [List.length_take, Nat.min_eq_left hgl] at hl
 have od := h2'.one
 simp (disch := (first|exact Rf.mk rfl|with_reducible assumption|omega|((repeat (first|rw [nP]|rw [nS]|rw [nx_empty]))<;>omega)|decide)) only [go_sem, ↓reduceIte] at h1
 refine yevp (vf := vf64) rfl ?_
 unfold vf64; refine zF ?_
 refine zY (aN hg (aN om (aN hmg (aN h1 (aN hl od))))) ?_
 refine yw_up [0, 1, 10, 11] 0 mo.globals (fun i f s' => f 12 = .int .i64 (i : Int) /\ Fr [] s s' /\ ∀ j, j < i -> (vAt mo.vars j).name ≠ w) (.mk rfl) (by omega) ⟨rfl, Fr.refl _ _, fun j h => by omega⟩ ?_
 rintro i f s' hi ⟨hE, fr, hall⟩
 have fr4 : ∀ z o, Fr [] s' ((s'.push z).set s'.next (some o)) := fun z o => (Fr.push _).thenSet _ (.inr (Nat.le_refl _))
 by_cases ci : i < mo.globals
 ·have hix := ix_v (k := .i64) h2' (i := i) (by simp; omega)
  rw [vAt_take ci] at hix
  have hb := bit_bc (n := (i : Int)) (by omega)
  by_cases ce : (vAt mo.vars i).name = w
  ·rw [varG_at hgl ci ce hall]
   refine zY (aN hE (aN ci (aN hix (aN od (aN ce hb))))) ?_
   exact ⟨by rw [bitN_nat], fr.trans (fr4 _ _) (by simp)⟩
  ·refine zY (aN hE (aN ci (aN hix (aN od ce)))) ?_
   refine ⟨fr.trans (fr4 _ _) (by simp), fun j hj => ?_⟩
   by_cases ej : j = i
   ·subst ej; exact ce
   ·exact hall j (by omega)
 ·rw [varG_no hgl fun j hj => hall j (by omega)]
  refine zY (aN hE ci) ?_
  exact ⟨rfl, fr⟩
theorem asked_ok (hm : MoF m mo ps) (ho : MoOk mo) : Eqc vfs 35 [.agg [m.dt, .int .i64 m.g, m.dc, m.dv, m.dp, m.ds, .bool m.b]] (.agg (mo.askF).row) /\ mo.askF.Ok := by
 suffices h : EvP vfs 35 [.agg [m.dt, .int .i64 m.g, m.dc, m.dv, m.dp, m.ds, .bool m.b]] Store.empty fun r s => r = .agg (mo.askF).row /\ mo.askF.Ok by
  obtain ⟨r, s, h1, rfl, h2⟩ := h
  exact ⟨bc_of ⟨_, _, h1, ice_row⟩, h2⟩
 have om := hm.ones
 have hms := hm.sf
 have hsl := ho.sl
 refine yevp (vf := vf35) rfl ?_
 unfold vf35; refine zF ?_
 refine zY om ?_
 refine yw_up [0, 1, 2, 3, 7, 8] 0 mo.safe.length (fun i f s' => f 9 = .int .i64 (i : Int) /\ s'.get 0 = some (.cells [m.dt, .int .i64 m.g, m.dc, m.dv, m.dp, m.ds, .bool m.b]) /\ s'.get 1 = some (.cells [.int .u32 0, .int .u32 0, .int .u32 0, .int .u32 0, .int .u32 0, .bool false]) /\ s'.get 2 = some (.cells (mo.askN i).row) /\ (mo.askN i).Ok) (.mk rfl) (by omega) ⟨rfl, ?_, ?_, ?_, ft0_ok⟩ ?_
 ·exact zZ0
 ·exact zZ0
 ·refine zY0 ?_
  rfl
 rintro i f s' hi ⟨hE, g0, g1, g2, hok⟩
 have l0 := get_lts g0
 have l1 := get_lts g1
 have l2 := get_lts g2
 by_cases ci : i < mo.safe.length
 ·have hsf := ho.sf _ (nAt_mem ci)
  have hcl := read_okg hm ho (vb := mo.varG) (fun w => varG_lt ho) (fid := 64) (idf := 2) (caps := [.ptr 0 0]) (mo.tree.length + 1) (nAt mo.safe i) hsf.1 (by omega) hsf.2 s' _ g2 hok (fun s3 f3 w => asked1_ok hm ho (by rw [f3.2 0 l0 (by simp), g0]))
  refine zY (aN hE (aN ci (aN hms (aN g0 om)))) ?_
  refine xq_evp hcl rfl ?_
  rintro r s3 ⟨rfl, f3, fr3, o3⟩
  have e0 := (fr3.2 0 l0 (by simp)).trans g0
  have e1 := (fr3.2 1 l1 (by simp)).trans g1
  refine zY (aN hE ci) ?_
  rw [askN_succ ci]
  exact ⟨e0, e1, f3, o3⟩
 ·obtain rfl : i = mo.safe.length := by omega
  rw [askN_all] at g2 hok
  unfold Ft.row at g2
  refine zY (aN hE (aN ci (aN g1 g2))) ?_
  exact ⟨rfl, hok⟩
theorem edge_bc (hm : MoF m mo ps) (ho : MoOk mo) {p i : Nat} (hp : p < mo.procs.length) (hi : i < (pAt mo.procs p).edges.length) :
 Eqc vfs 13 [.agg [m.dt, .int .i64 m.g, m.dc, m.dv, m.dp, m.ds, .bool m.b], .int .i64 (p : Int), .int .i64 (i : Int)] (.tup [.agg (edgeF mo (pAt mo.procs p) (eAt (pAt mo.procs p).edges i)).row, .bool true]) /\ (edgeF mo (pAt mo.procs p) (eAt (pAt mo.procs p).edges i)).Ok := by
 have e := pAt_get hp
 have hi' : i < mo.procs[p].edges.length := by rw [<- e]; exact hi
 obtain ⟨⟨s, h1⟩, h2⟩ := edge_ok hm ho hp hi'
 rw [eAt_get hi]
 simp only [e]
 exact ⟨bc_of ⟨_, _, h1, rfl⟩, h2⟩
theorem visible_bc (hm : MoF m mo ps) (ho : MoOk mo) {p i : Nat} (hp : p < mo.procs.length) (hi : i < (pAt mo.procs p).edges.length) :
 Eqc vfs 19 [.agg [m.dt, .int .i64 m.g, m.dc, m.dv, m.dp, m.ds, .bool m.b], .int .i64 (p : Int), .int .i64 (i : Int)] (.bool (mo.visF (pAt mo.procs p) (eAt (pAt mo.procs p).edges i))) := by
 obtain ⟨h1, h2⟩ := edge_bc hm ho hp hi
 obtain ⟨h3, h4⟩ := asked_ok hm ho
 unfold Mo.visF
 generalize edgeF mo (pAt mo.procs p) (eAt (pAt mo.procs p).edges i) = a at *
 generalize mo.askF = b at *
 have om := hm.ones
 have pm := pz_mo hm
 have bne0' : ∀ n : Nat, ((n : Int) != 0) = !decide (n = 0) := fun n => by rw [Bool.eq_iff_iff]; simp
 have o1 := s32_and h2.w h4.r
 have o2 := s32_or h2.s h2.v
 have o3 := s32_and (or_lt h2.s h2.v) h4.z
 unfold Ft.row at h1 h3
 refine bc_of ?_
 refine yiso (vf := vf19) rfl ?_
 unfold vf19; refine zF ?_
 refine zY (aN om (aN pm (aN h1 (aN h3 (aN o1 (aN o2 (aN o3 bne0'))))))) ?_
 repeat' (first|(refine cw_sp (fun c => ?_) (fun c => ?_) <;> (try simp only [cnd_1, cnd_2, cnd_3, cnd_4] at c) <;> simp (disch := (first|exact Rf.mk rfl|with_reducible assumption|omega|((repeat (first|rw [nP]|rw [nS]|rw [nx_empty]))<;>omega)|decide)) only [go_sem, ↓reduceIte, om, pm, h1, h3, o1, o2, o3, bne0', c])|(refine gw_sp (fun c => ?_) (fun c => ?_) <;> (try simp only [cnd_1, cnd_2, cnd_3, cnd_4] at c) <;> simp (disch := (first|exact Rf.mk rfl|with_reducible assumption|omega|((repeat (first|rw [nP]|rw [nS]|rw [nx_empty]))<;>omega)|decide)) only [go_sem, ↓reduceIte, om, pm, h1, h3, o1, o2, o3, bne0', c]))
 ·simp [c]
 ·simp [c]
end Go.Proofs.Ytlaeblilmppodaa
