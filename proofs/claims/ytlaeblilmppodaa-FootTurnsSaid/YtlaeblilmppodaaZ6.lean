/- Texts one behind the other. -/
import Derived.Test.YtlaeblilmppodaaZ5
set_option linter.unusedSimpArgs false
set_option linter.unusedVariables false
namespace Go.Proofs.Ytlaeblilmppodaa
open Go.V
set_option maxRecDepth 100000
set_option maxHeartbeats 4000000
theorem value_ok {m : MdX} {mo : Mo} {ps : List (Pr × PrD)} (hm : MoF m mo ps) (ho : MoOk mo) {x : StD} {st : Stt} (hx : StF x st) (h8 : St8 st) (hcl : st.chans.length = mo.chans.length) {pr : Int} {look : ByteArray -> Option Nat}
 (hlk : ∀ w, Iso 67 [.agg (mdRow m), .int .i64 pr, .str w] (.int .i64 (lookZ (look w)))) (hin : ∀ w v, look w = some v -> v < st.vars.length) : ∀ (n k : Nat), k < mo.tree.length -> mo.tree.length - k < n -> exprK (nd mo.tree k).kind ->
 IsoC vfs 47 [.agg (mdRow m), .int .i64 pr, .agg (stRow x st), .int .i64 (k : Int)] (.tup [.int .i64 (valF mo.tree mo.ch look st n k).1, .bool (valF mo.tree mo.ch look st n k).2])
 | 0, k, _, h, _ => by omega
 | n + 1, k, hk, hn, hex => by
   have om := hm.ones
   have ox := hx.ones
   have fm := pzm hm
   have fx := pzs hx
   have hno := ho.tree.node k hk
   have hidx := hm.tr.at (z := (k : Int)) (by omega) (by omega) (k := .i64)
   rw [Int.toNat_natCast] at hidx
   have on := nd_one hm.tr hk
   have hw := word_idx hm.tr hk (i := 0)
   have n0 := ndnum_idx hm.tr hk (i := 0)
   have z0 : ((0 : Nat) : Int) = 0 := rfl
   have z1 : ((1 : Nat) : Int) = 1 := rfl
   rw [hno.wl, z0] at hw
   rw [hno.nl, z0] at n0
   obtain ⟨hkl, hkx⟩ := expr_kids hno hex
   have ih : ∀ i, i < (nd mo.tree k).kids.length -> IsoC vfs 47 [.agg (mdRow m), .int .i64 pr, .agg (stRow x st), .int .i64 (((nd mo.tree k).kid i : Nat) : Int)] (.tup [.int .i64 (valF mo.tree mo.ch look st n ((nd mo.tree k).kid i)).1, .bool (valF mo.tree mo.ch look st n ((nd mo.tree k).kid i)).2]) := fun i hi => by
    have h1 := ho.tree.ks hk _ (kid_mem hi)
    exact value_ok hm ho hx h8 hcl hlk hin n _ h1.2 (by omega) (hkx i hi)
   have i8 : ∀ i, I8 (valF mo.tree mo.ch look st n ((nd mo.tree k).kid i)).1 := fun i => val8 h8 n _
   have k0 := kid_idx hm.tr ho.tree hk (i := 0)
   have k1 := kid_idx hm.tr ho.tree hk (i := 1)
   rw [z0] at k0
   rw [z1] at k1
   unfold valF
   simp only
   unfold mdRow at ih fm hlk ⊢
   unfold stRow at ih fx ⊢
   by_cases q17 : (nd mo.tree k).kind = 17
   ·rw [if_pos q17]
    rw [q17] at n0
    have n0 := n0 (by decide)
    have hl := hno.lit q17
    refine yiso (vf := vf47) rfl ?_
    unfold vf47; refine zF ?_
    simp (disch := (first|exact Rf.mk rfl|with_reducible assumption|omega|((repeat (first|rw [nP]|rw [nS]|rw [nx_empty]))<;>omega)|decide)) only [go_sem, ↓reduceIte, om, ox, hidx, on, q17, n0, trim8_bc]
   rw [if_neg q17]
   by_cases q18 : (nd mo.tree k).kind = 18
   ·rw [if_pos q18]
    rw [q18] at hw
    have hw := hw (by decide)
    have hv := hlk ((nd mo.tree k).word 0)
    cases hlo : look ((nd mo.tree k).word 0) with
    | none =>
      rw [hlo] at hv
      refine yiso (vf := vf47) rfl ?_
      unfold vf47; refine zF ?_
      simp (disch := (first|exact Rf.mk rfl|with_reducible assumption|omega|((repeat (first|rw [nP]|rw [nS]|rw [nx_empty]))<;>omega)|decide)) only [go_sem, ↓reduceIte, om, ox, hidx, on, q18, hw, lookZ, iso_bc hv rfl]
    | some v =>
      rw [hlo] at hv
      have hvl := hin _ _ hlo
      have hvi := FI.idx hx.v hvl (k := .i64)
      have c0 : ((v : Int) < 0) = False := eq_false (by omega)
      have e := zAt_get hvl
      simp only [e]
      refine yiso (vf := vf47) rfl ?_
      unfold vf47; refine zF ?_
      simp (disch := (first|exact Rf.mk rfl|with_reducible assumption|omega|((repeat (first|rw [nP]|rw [nS]|rw [nx_empty]))<;>omega)|decide)) only [go_sem, ↓reduceIte, om, ox, hidx, on, q18, hw, lookZ, c0, hvi, iso_bc hv rfl]
   rw [if_neg q18]
   by_cases q19 : (nd mo.tree k).kind = 19
   ·rw [if_pos q19]
    rw [q19] at hw
    have hw := hw (by decide)
    have hlc := hm.lenC
    have hnc := ho.nc
    have hch : mo.ch.length = mo.chans.length := by simp [Mo.ch]
    refine yiso (vf := vf47) rfl ?_
    unfold vf47; refine zF ?_
    refine zY (aN om (aN ox (aN hidx (aN on q19)))) ?_
    refine yw_up [0, 1, 2, 3, 4, 6, 10, 11, 13, 14, 15, 16, 17, 18, 19, 20, 27, 28, 35, 45, 51, 77, 94, 114, 154, 158, 159, 168, 177, 183] 0 mo.chans.length (fun i f s => s.get 0 = some (.cells [m.dt, .int .i64 m.g, m.dc, m.dv, m.dp, m.ds, .bool m.b]) /\ s.get 1 = some (.cells [x.da, x.dv, x.dc, .int .i64 st.hold]) /\ s.get 2 = some (.cells [.int .i64 19, (nd mo.tree k).dw, (nd mo.tree k).dn, (nd mo.tree k).dk, .int .i64 (nd mo.tree k).pos]) /\ (∀ j (hj : j < mo.chans.length), j < i -> mo.chans[j].name ≠ (nd mo.tree k).word 0) /\ f 12 = .int .i64 (i : Int)) (.mk rfl) (by omega) ⟨?_, ?_, ?_, fun j _ h => by omega, rfl⟩ ?_
    ·exact zZ0
    ·exact zZ0
    ·exact zZ0
    rintro i f s hi ⟨g0, g1, g2, hall, hE⟩
    by_cases ci : i < mo.chans.length
    ·have hs1 : IntKind.i64.wrap ((i : Int) + 1) = ((i + 1 : Nat) : Int) := by rw [i64_id (by omega) (by omega)]; omega
     have ci' : ((i : Int) < (mo.chans.length : Int)) = True := eq_true (by omega)
     have hci := FLC.idx hm.c ci (k := .i64)
     unfold Ch.row at hci
     by_cases ce : mo.chans[i].name = (nd mo.tree k).word 0
     ·have hil : i < mo.ch.length := by omega
      have eb := idxB_at (l := mo.ch) (w := (nd mo.tree k).word 0) hil (by simpa [Mo.ch] using ce) (fun j hj hji => by simpa [Mo.ch] using hall j (by omega) hji)
      have hsc : i < st.chans.length := by omega
      obtain ⟨dq, hq, hqi⟩ := hx.chan hsc
      have hqi := hqi .i64
      have oq := FL.one hq
      have hql := FI.len hq
      have e := cAt_get hsc
      simp only [eb, if_pos hil, e]
      exact zZ (aN hE (aN g0 (aN g1 (aN g2 (aN om (aN ox (aN on (aN hlc (aN ci' (aN hci (aN ce (aN hw (aN hqi (aN oq hql))))))))))))))
     ·have ce' : decide (mo.chans[i].name = (nd mo.tree k).word 0) = false := by simp [ce]
      refine zY (aN hE (aN g0 (aN g1 (aN g2 (aN om (aN on (aN hlc (aN ci' (aN hci (aN ce' (aN hw hs1))))))))))) ?_
      refine ⟨by omega, fun j hj hji => ?_⟩
      by_cases ej : j = i
      ·subst ej; exact ce
      ·exact hall j hj (by omega)
    ·have ci' : ((i : Int) < (mo.chans.length : Int)) = False := eq_false (by omega)
     have eb := idxB_none (l := mo.ch) (w := (nd mo.tree k).word 0) (fun j hj => by simpa [Mo.ch] using hall j (by omega) (by omega))
     simp only [if_neg eb]
     exact zZ (aN hE (aN g0 (aN om (aN hlc ci'))))
   rw [if_neg q19]
   by_cases q20 : (nd mo.tree k).kind = 20
   ·rw [if_pos q20]
    have h1 := hno.one (by omega)
    have k0 := k0 (by omega)
    have h0 := bc_of (ih 0 (by omega))
    obtain ⟨b1, b2⟩ := i8 0
    have e1 : IntKind.i64.wrap (0 - (valF mo.tree mo.ch look st n ((nd mo.tree k).kid 0)).1) = -(valF mo.tree mo.ch look st n ((nd mo.tree k).kid 0)).1 := by rw [i64_id (by omega) (by omega)]; omega
    refine yiso (vf := vf47) rfl ?_
    unfold vf47; refine zF ?_
    simp (disch := (first|exact Rf.mk rfl|with_reducible assumption|omega|((repeat (first|rw [nP]|rw [nS]|rw [nx_empty]))<;>omega)|decide)) only [go_sem, ↓reduceIte, om, ox, hidx, on, q20, k0, e1, h0, trim8_bc]
   rw [if_neg q20]
   by_cases q21 : (nd mo.tree k).kind = 21
   ·rw [if_pos q21]
    have h1 := hno.one (by omega)
    have k0 := k0 (by omega)
    have h0 := bc_of (ih 0 (by omega))
    generalize valF mo.tree mo.ch look st n ((nd mo.tree k).kid 0) = y0 at *
    obtain ⟨v0, b0⟩ := y0
    simp only at h0 ⊢
    have eb : (v0 == 0) = decide (v0 = 0) := rfl
    cases b0
    ·refine yiso (vf := vf47) rfl ?_
     unfold vf47; refine zF ?_
     simp (disch := (first|exact Rf.mk rfl|with_reducible assumption|omega|((repeat (first|rw [nP]|rw [nS]|rw [nx_empty]))<;>omega)|decide)) only [go_sem, ↓reduceIte, om, ox, hidx, on, q21, k0, h0, one_bc, Bool.false_and]
    ·refine yiso (vf := vf47) rfl ?_
     unfold vf47; refine zF ?_
     simp (disch := (first|exact Rf.mk rfl|with_reducible assumption|omega|((repeat (first|rw [nP]|rw [nS]|rw [nx_empty]))<;>omega)|decide)) only [go_sem, ↓reduceIte, om, ox, hidx, on, q21, k0, h0, one_bc, eb]
   rw [if_neg q21]
   have q22 : (nd mo.tree k).kind = 22 := by have := hex.1; have := hex.2; omega
   rw [if_pos q22]
   obtain ⟨l2, _, _, o0, o8⟩ := hno.bin q22
   have k0 := k0 (by omega)
   have k1 := k1 (by omega)
   rw [q22] at n0
   have n0 := n0 (by decide)
   have g0 := bc_of (ih 0 (by omega))
   have g1 := bc_of (ih 1 (by omega))
   have i0 := i8 0
   have i1 := i8 1
   generalize valF mo.tree mo.ch look st n ((nd mo.tree k).kid 0) = y0 at *
   generalize valF mo.tree mo.ch look st n ((nd mo.tree k).kid 1) = y1 at *
   obtain ⟨v0, b0⟩ := y0
   obtain ⟨v1, b1⟩ := y1
   simp only at g0 g1 i0 i1 ⊢
   have e0 : (v0 != 0) = decide (v0 ≠ 0) := by by_cases c : v0 = 0 <;> simp [c]
   have e1 : (v1 != 0) = decide (v1 ≠ 0) := by by_cases c : v1 = 0 <;> simp [c]
   have e2 : (v0 == v1) = decide (v0 = v1) := rfl
   have hcs : (nd mo.tree k).num 0 = 0 ∨ (nd mo.tree k).num 0 = 1 ∨ (nd mo.tree k).num 0 = 2 ∨ (nd mo.tree k).num 0 = 3 ∨ (nd mo.tree k).num 0 = 4 ∨ (nd mo.tree k).num 0 = 5 ∨ (nd mo.tree k).num 0 = 6 ∨ (nd mo.tree k).num 0 = 7 ∨ (nd mo.tree k).num 0 = 8 := by omega
   generalize (nd mo.tree k).num 0 = op at *
   refine yiso (vf := vf47) rfl ?_
   unfold vf47; refine zF ?_
   refine zY (aN om (aN ox (aN hidx (aN on (aN q22 (aN k0 (aN k1 (aN n0 (aN g0 g1))))))))) ?_
   cases b0
   ·simp (disch := (first|exact Rf.mk rfl|with_reducible assumption|omega|((repeat (first|rw [nP]|rw [nS]|rw [nx_empty]))<;>omega)|decide)) only [go_sem, ↓reduceIte, Bool.false_and, if_false]
   cases b1
   ·simp (disch := (first|exact Rf.mk rfl|with_reducible assumption|omega|((repeat (first|rw [nP]|rw [nS]|rw [nx_empty]))<;>omega)|decide)) only [go_sem, ↓reduceIte, Bool.and_false, if_false]
   simp only [Bool.and_self, if_true]
   have d0 : Eqc vfs 69 [.int .i64 0, .int .i64 v0, .int .i64 v1, .int .i64 8] _ := do8_bc (op := 0) (by decide) i0 i1
   have d1 : Eqc vfs 69 [.int .i64 1, .int .i64 v0, .int .i64 v1, .int .i64 8] _ := do8_bc (op := 1) (by decide) i0 i1
   have d2 : Eqc vfs 69 [.int .i64 2, .int .i64 v0, .int .i64 v1, .int .i64 8] _ := do8_bc (op := 2) (by decide) i0 i1
   have d3 : Eqc vfs 69 [.int .i64 3, .int .i64 v0, .int .i64 v1, .int .i64 8] _ := do8_bc (op := 3) (by decide) i0 i1
   have d4 : Eqc vfs 69 [.int .i64 4, .int .i64 v0, .int .i64 v1, .int .i64 8] _ := do8_bc (op := 4) (by decide) i0 i1
   rcases hcs with rfl | rfl | rfl | rfl | rfl | rfl | rfl | rfl | rfl
   ·by_cases a0 : v0 = 0
    ·have c0 : (v0 != 0) = false := by simp [a0]
     simp (disch := (first|exact Rf.mk rfl|with_reducible assumption|omega|((repeat (first|rw [nP]|rw [nS]|rw [nx_empty]))<;>omega)|decide)) only [go_sem, ↓reduceIte, om, ox, on, n0, c0, e1, one_bc]
     simp [binZ, a0]
    ·have c0 : (v0 != 0) = true := by simp [a0]
     simp (disch := (first|exact Rf.mk rfl|with_reducible assumption|omega|((repeat (first|rw [nP]|rw [nS]|rw [nx_empty]))<;>omega)|decide)) only [go_sem, ↓reduceIte, om, ox, on, n0, c0, one_bc]
     simp [binZ, a0]
   ·by_cases a0 : v0 = 0
    ·have c0 : (v0 != 0) = false := by simp [a0]
     simp (disch := (first|exact Rf.mk rfl|with_reducible assumption|omega|((repeat (first|rw [nP]|rw [nS]|rw [nx_empty]))<;>omega)|decide)) only [go_sem, ↓reduceIte, om, ox, on, n0, c0, e1, one_bc]
     simp [binZ, a0]
    ·have c0 : (v0 != 0) = true := by simp [a0]
     simp (disch := (first|exact Rf.mk rfl|with_reducible assumption|omega|((repeat (first|rw [nP]|rw [nS]|rw [nx_empty]))<;>omega)|decide)) only [go_sem, ↓reduceIte, om, ox, on, n0, c0, e1, one_bc]
     simp [binZ, a0]
   ·simp (disch := (first|exact Rf.mk rfl|with_reducible assumption|omega|((repeat (first|rw [nP]|rw [nS]|rw [nx_empty]))<;>omega)|decide)) only [go_sem, ↓reduceIte, om, ox, on, n0, e2, one_bc]
    simp [binZ]
   ·simp (disch := (first|exact Rf.mk rfl|with_reducible assumption|omega|((repeat (first|rw [nP]|rw [nS]|rw [nx_empty]))<;>omega)|decide)) only [go_sem, ↓reduceIte, om, ox, on, n0, one_bc]
    simp [binZ]
   ·simp (disch := (first|exact Rf.mk rfl|with_reducible assumption|omega|((repeat (first|rw [nP]|rw [nS]|rw [nx_empty]))<;>omega)|decide)) only [go_sem, ↓reduceIte, om, ox, on, n0, i64_id, d0]
    simp [binZ]
   ·simp (disch := (first|exact Rf.mk rfl|with_reducible assumption|omega|((repeat (first|rw [nP]|rw [nS]|rw [nx_empty]))<;>omega)|decide)) only [go_sem, ↓reduceIte, om, ox, on, n0, i64_id, d1]
    simp [binZ]
   ·simp (disch := (first|exact Rf.mk rfl|with_reducible assumption|omega|((repeat (first|rw [nP]|rw [nS]|rw [nx_empty]))<;>omega)|decide)) only [go_sem, ↓reduceIte, om, ox, on, n0, i64_id, d2]
    simp [binZ]
   ·by_cases a1 : v1 = 0
    ·refine zY (aN om (aN ox (aN on (aN n0 a1)))) ?_
     simp [binZ, a1]
    ·have c1 : (v1 == 0) = false := by simp [a1]
     simp (disch := (first|exact Rf.mk rfl|with_reducible assumption|omega|((repeat (first|rw [nP]|rw [nS]|rw [nx_empty]))<;>omega)|decide)) only [go_sem, ↓reduceIte, om, ox, on, n0, c1, i64_id, d3]
     simp [binZ, a1]
   ·by_cases a1 : v1 = 0
    ·refine zY (aN om (aN ox (aN on (aN n0 a1)))) ?_
     simp [binZ, a1]
    ·have c1 : (v1 == 0) = false := by simp [a1]
     simp (disch := (first|exact Rf.mk rfl|with_reducible assumption|omega|((repeat (first|rw [nP]|rw [nS]|rw [nx_empty]))<;>omega)|decide)) only [go_sem, ↓reduceIte, om, ox, on, n0, c1, i64_id, d4]
     simp [binZ, a1]
end Go.Proofs.Ytlaeblilmppodaa
namespace Go.Proofs.Ytlaeblilmppodaa
open Go.V
set_option maxRecDepth 100000
set_option maxHeartbeats 4000000
theorem ints_bc {da db : D} {a b : List Int} (ha : FI da a) (hb : FI db b) (hl : a.length <= 1000000) : Eqc vfs 49 [da, db] (.bool (decide (a = b))) := by
 refine bc_of ?_
 refine yiso (vf := vf49) rfl ?_
 unfold vf49; refine zF ?_
 refine zY0 ?_
 repeat' (first|(refine cw_sp (fun c => ?_) (fun c => ?_) <;> (try simp only [cnd_1, cnd_2, cnd_3, cnd_4] at c) <;> simp (disch := (first|exact Rf.mk rfl|with_reducible assumption|omega|((repeat (first|rw [nP]|rw [nS]|rw [nx_empty]))<;>omega)|decide)) only [go_sem, ↓reduceIte, c])|(refine gw_sp (fun c => ?_) (fun c => ?_) <;> (try simp only [cnd_1, cnd_2, cnd_3, cnd_4] at c) <;> simp (disch := (first|exact Rf.mk rfl|with_reducible assumption|omega|((repeat (first|rw [nP]|rw [nS]|rw [nx_empty]))<;>omega)|decide)) only [go_sem, ↓reduceIte, c]))
 ·simp; intro h; exact c (by rw [h])
 ·refine yw_up [0, 1, 10] 0 a.length (fun i f s => f 5 = .int .i64 (i : Int) /\ ∀ j, j < i -> zAt a j = zAt b j) (.mk rfl) (by omega) ⟨rfl, fun j h => by omega⟩ ?_
  rintro i f s hi ⟨hE, hall⟩
  by_cases ci : i < a.length
  ·have ci' : i < b.length := by omega
   refine zY (aN hE ci) ?_
   repeat' (first|(refine cw_sp (fun c => ?_) (fun c => ?_) <;> (try simp only [cnd_1, cnd_2, cnd_3, cnd_4] at c) <;> simp (disch := (first|exact Rf.mk rfl|with_reducible assumption|omega|((repeat (first|rw [nP]|rw [nS]|rw [nx_empty]))<;>omega)|decide)) only [go_sem, ↓reduceIte, hE, ci, c])|(refine gw_sp (fun c => ?_) (fun c => ?_) <;> (try simp only [cnd_1, cnd_2, cnd_3, cnd_4] at c) <;> simp (disch := (first|exact Rf.mk rfl|with_reducible assumption|omega|((repeat (first|rw [nP]|rw [nS]|rw [nx_empty]))<;>omega)|decide)) only [go_sem, ↓reduceIte, hE, ci, c]))
   ·simp; intro h; exact c (by rw [h])
   ·intro j hj
    by_cases ej : j = i
    ·subst ej; exact c
    ·exact hall j (by omega)
  ·refine zY (aN hE ci) ?_
   exact (decide_eq_true (z_ext c fun j hj => hall j (by omega))).symm
structure StGood (mo : Mo) (x : StD) (st : Stt) : Prop where
 f : StF x st
 e : St8 st
 fit : Fit mo st
variable {m : MdX} {mo : Mo} {ps : List (Pr × PrD)} {x : StD} {st : Stt}
theorem valP (hm : MoF m mo ps) (ho : MoOk mo) (hx : StGood mo x st) {p : Nat} (hp : p < mo.procs.length) {k : Nat} (hk : k < mo.tree.length) (he : exprK (nd mo.tree k).kind) :
 Eqc vfs 47 [.agg [m.dt, .int .i64 m.g, m.dc, m.dv, m.dp, m.ds, .bool m.b], .int .i64 (p : Int), .agg [x.da, x.dv, x.dc, .int .i64 st.hold], .int .i64 (k : Int)] (.tup [.int .i64 (mo.val (lookP (pAt mo.procs p)) st k).1, .bool (mo.val (lookP (pAt mo.procs p)) st k).2]) := by
 rw [pAt_get hp]
 exact bc_of (value_ok hm ho hx.f hx.e hx.fit.chans (fun w => varP_ok hm ho hp) (fun w v hv => by
  have hpo := ho.pr _ (List.getElem_mem hp)
  have := hpo.var v (lookP_some hpo.same hv)
  rw [hx.fit.vars]; exact this) _ k hk (by omega) he)
theorem valG (hm : MoF m mo ps) (ho : MoOk mo) (hx : StGood mo x st) {k : Nat} (hk : k < mo.tree.length) (he : exprK (nd mo.tree k).kind) :
 Eqc vfs 47 [.agg [m.dt, .int .i64 m.g, m.dc, m.dv, m.dp, m.ds, .bool m.b], .int .i64 (-1), .agg [x.da, x.dv, x.dc, .int .i64 st.hold], .int .i64 (k : Int)] (.tup [.int .i64 (mo.val (lookG mo) st k).1, .bool (mo.val (lookG mo) st k).2]) :=
 bc_of (value_ok hm ho hx.f hx.e hx.fit.chans (fun w => varG_ok hm ho) (fun w v hv => by
  have := lookG_some hv
  have := ho.gl
  rw [hx.fit.vars]; omega) _ k hk (by omega) he)
theorem safe_bc (hm : MoF m mo ps) (ho : MoOk mo) (hx : StGood mo x st) : Eqc vfs 20 [.agg [m.dt, .int .i64 m.g, m.dc, m.dv, m.dp, m.ds, .bool m.b], .agg [x.da, x.dv, x.dc, .int .i64 st.hold]] (.bool (mo.safeS st)) := by
 refine bc_of ?_
 have hs := hm.sf
 have sl := ho.sl
 have fm := pz_mo hm
 have fx := pz_st hx.f
 have om := hm.ones
 have ox := hx.f.ones
 refine yiso (vf := vf20) rfl ?_
 unfold vf20; refine zF ?_
 refine zY (aN om ox) ?_
 refine yw_up [0, 1, 2, 3] 0 mo.safe.length (fun i f s => f 5 = .int .i64 (i : Int) /\ s.get 0 = some (.cells [m.dt, .int .i64 m.g, m.dc, m.dv, m.dp, m.ds, .bool m.b]) /\ s.get 1 = some (.cells [x.da, x.dv, x.dc, .int .i64 st.hold]) /\ ∀ j, j < i -> (mo.val (lookG mo) st (nAt mo.safe j)).2 = true /\ (mo.val (lookG mo) st (nAt mo.safe j)).1 ≠ 0) (.mk rfl) (by omega) ⟨rfl, ?_, ?_, fun j h => by omega⟩ ?_
 ·exact zZ0
 ·exact zZ0
 rintro i f s hi ⟨hE, g0, g1, hall⟩
 by_cases ci : i < mo.safe.length
 ·have hk := ho.sf _ (nAt_mem ci)
  have hv := valG hm ho hx hk.1 hk.2
  refine zY (aN hE (aN ci (aN g0 (aN g1 (aN om (aN ox hv)))))) ?_
  repeat' (first|(refine cw_sp (fun c => ?_) (fun c => ?_) <;> (try simp only [cnd_1, cnd_2, cnd_3, cnd_4] at c) <;> simp (disch := (first|exact Rf.mk rfl|with_reducible assumption|omega|((repeat (first|rw [nP]|rw [nS]|rw [nx_empty]))<;>omega)|decide)) only [go_sem, ↓reduceIte, hE, ci, g0, g1, om, ox, hv, c])|(refine gw_sp (fun c => ?_) (fun c => ?_) <;> (try simp only [cnd_1, cnd_2, cnd_3, cnd_4] at c) <;> simp (disch := (first|exact Rf.mk rfl|with_reducible assumption|omega|((repeat (first|rw [nP]|rw [nS]|rw [nx_empty]))<;>omega)|decide)) only [go_sem, ↓reduceIte, hE, ci, g0, g1, om, ox, hv, c]))
  ·exact (safeS_f ci (.inl c)).symm
  ·exact (safeS_f ci (.inr c)).symm
  ·intro j hj
   by_cases ej : j = i
   ·subst ej; exact ⟨by simpa using ‹_ = true›, c⟩
   ·exact hall j (by omega)
 ·refine zY (aN hE (aN ci (aN g0 om))) ?_
  exact (safeS_iff.2 fun j hj => hall j (by omega)).symm
theorem can_ok (hm : MoF m mo ps) (ho : MoOk mo) (hx : StGood mo x st) {p : Nat} (hp : p < mo.procs.length) {e : Ed} (he : EdOk mo.tree mo.chans.length (pAt mo.procs p).places (pAt mo.procs p).vars e) :
 Eqc vfs 21 [.agg [m.dt, .int .i64 m.g, m.dc, m.dv, m.dp, m.ds, .bool m.b], .agg [x.da, x.dv, x.dc, .int .i64 st.hold], .int .i64 (p : Int), .agg [.int .i64 (e.frm : Int), .int .i64 (e.to : Int), .int .i64 (e.act : Int), .int .i64 e.expr, .int .i64 e.var, .int .i64 e.chan, .bool e.keep, .int .i64 (e.node : Int)]] (.bool (mo.can st p (pAt mo.procs p) e)) := by
 refine bc_of ?_
 have fm := pz_mo hm
 have fx := pz_st hx.f
 have om := hm.ones
 have ox := hx.f.ones
 have hxf := hx.f
 have hxa := hxf.a
 have hmc := hm.c
 have hpa : p < st.at'.length := by rw [hx.fit.at']; exact hp
 have hcl := hx.fit.chans
 unfold Mo.can Mo.ex
 have h6 : e.act = 0 ∨ e.act = 1 ∨ e.act = 2 ∨ e.act = 3 ∨ e.act = 4 ∨ e.act = 5 := by have := he.act; omega
 rcases h6 with ha | ha | ha | ha | ha | ha
 ·have hex := he.ex0 (by omega)
  rw [hex]
  refine yiso (vf := vf21) rfl ?_
  unfold vf21; refine zF ?_
  refine zY (aN om (aN ox ha)) ?_
  repeat' (first|(refine cw_sp (fun c => ?_) (fun c => ?_) <;> (try simp only [cnd_1, cnd_2, cnd_3, cnd_4] at c) <;> simp (disch := (first|exact Rf.mk rfl|with_reducible assumption|omega|((repeat (first|rw [nP]|rw [nS]|rw [nx_empty]))<;>omega)|decide)) only [go_sem, ↓reduceIte, om, ox, ha, c])|(refine gw_sp (fun c => ?_) (fun c => ?_) <;> (try simp only [cnd_1, cnd_2, cnd_3, cnd_4] at c) <;> simp (disch := (first|exact Rf.mk rfl|with_reducible assumption|omega|((repeat (first|rw [nP]|rw [nS]|rw [nx_empty]))<;>omega)|decide)) only [go_sem, ↓reduceIte, om, ox, ha, c]))
  all_goals simp_all
 ·obtain ⟨k, hk1, hk2, hk3⟩ := he.ex1 (by omega)
  have hv := valP hm ho hx hp hk2 hk3
  rw [hk1]
  simp only [Int.natCast_nonneg, if_true, Int.toNat_natCast]
  generalize mo.val (lookP (pAt mo.procs p)) st k = v at *
  refine yiso (vf := vf21) rfl ?_
  unfold vf21; refine zF ?_
  refine zY (aN om (aN ox (aN ha hv))) ?_
  repeat' (first|(refine cw_sp (fun c => ?_) (fun c => ?_) <;> (try simp only [cnd_1, cnd_2, cnd_3, cnd_4] at c) <;> simp (disch := (first|exact Rf.mk rfl|with_reducible assumption|omega|((repeat (first|rw [nP]|rw [nS]|rw [nx_empty]))<;>omega)|decide)) only [go_sem, ↓reduceIte, om, ox, ha, hv, c])|(refine gw_sp (fun c => ?_) (fun c => ?_) <;> (try simp only [cnd_1, cnd_2, cnd_3, cnd_4] at c) <;> simp (disch := (first|exact Rf.mk rfl|with_reducible assumption|omega|((repeat (first|rw [nP]|rw [nS]|rw [nx_empty]))<;>omega)|decide)) only [go_sem, ↓reduceIte, om, ox, ha, hv, c]))
  all_goals simp_all
 ·obtain ⟨k, hk1, hk2, hk3⟩ := he.ex1 (by omega)
  obtain ⟨q, hq1, hq2⟩ := he.c1 (by omega)
  have hv := valP hm ho hx hp hk2 hk3
  rw [hk1, hq1]
  simp only [Int.natCast_nonneg, if_true, Int.toNat_natCast]
  generalize mo.val (lookP (pAt mo.procs p)) st k = v at *
  refine yiso (vf := vf21) rfl ?_
  unfold vf21; refine zF ?_
  refine zY (aN om (aN ox (aN ha hv))) ?_
  repeat' (first|(refine cw_sp (fun c => ?_) (fun c => ?_) <;> (try simp only [cnd_1, cnd_2, cnd_3, cnd_4] at c) <;> simp (disch := (first|exact Rf.mk rfl|with_reducible assumption|omega|((repeat (first|rw [nP]|rw [nS]|rw [nx_empty]))<;>omega)|decide)) only [go_sem, ↓reduceIte, om, ox, ha, hv, c])|(refine gw_sp (fun c => ?_) (fun c => ?_) <;> (try simp only [cnd_1, cnd_2, cnd_3, cnd_4] at c) <;> simp (disch := (first|exact Rf.mk rfl|with_reducible assumption|omega|((repeat (first|rw [nP]|rw [nS]|rw [nx_empty]))<;>omega)|decide)) only [go_sem, ↓reduceIte, om, ox, ha, hv, c]))
  all_goals simp_all
 ·have hex := he.ex0 (by omega)
  obtain ⟨q, hq1, hq2⟩ := he.c1 (by omega)
  rw [hex, hq1]
  refine yiso (vf := vf21) rfl ?_
  unfold vf21; refine zF ?_
  refine zY (aN om (aN ox ha)) ?_
  repeat' (first|(refine cw_sp (fun c => ?_) (fun c => ?_) <;> (try simp only [cnd_1, cnd_2, cnd_3, cnd_4] at c) <;> simp (disch := (first|exact Rf.mk rfl|with_reducible assumption|omega|((repeat (first|rw [nP]|rw [nS]|rw [nx_empty]))<;>omega)|decide)) only [go_sem, ↓reduceIte, om, ox, ha, c])|(refine gw_sp (fun c => ?_) (fun c => ?_) <;> (try simp only [cnd_1, cnd_2, cnd_3, cnd_4] at c) <;> simp (disch := (first|exact Rf.mk rfl|with_reducible assumption|omega|((repeat (first|rw [nP]|rw [nS]|rw [nx_empty]))<;>omega)|decide)) only [go_sem, ↓reduceIte, om, ox, ha, c]))
  all_goals simp_all
 ·obtain ⟨k, hk1, hk2, hk3⟩ := he.ex1 (by omega)
  have hv := valP hm ho hx hp hk2 hk3
  rw [hk1]
  simp only [Int.natCast_nonneg, if_true, Int.toNat_natCast]
  generalize mo.val (lookP (pAt mo.procs p)) st k = v at *
  refine yiso (vf := vf21) rfl ?_
  unfold vf21; refine zF ?_
  refine zY (aN om (aN ox (aN ha hv))) ?_
  repeat' (first|(refine cw_sp (fun c => ?_) (fun c => ?_) <;> (try simp only [cnd_1, cnd_2, cnd_3, cnd_4] at c) <;> simp (disch := (first|exact Rf.mk rfl|with_reducible assumption|omega|((repeat (first|rw [nP]|rw [nS]|rw [nx_empty]))<;>omega)|decide)) only [go_sem, ↓reduceIte, om, ox, ha, hv, c])|(refine gw_sp (fun c => ?_) (fun c => ?_) <;> (try simp only [cnd_1, cnd_2, cnd_3, cnd_4] at c) <;> simp (disch := (first|exact Rf.mk rfl|with_reducible assumption|omega|((repeat (first|rw [nP]|rw [nS]|rw [nx_empty]))<;>omega)|decide)) only [go_sem, ↓reduceIte, om, ox, ha, hv, c]))
  all_goals simp_all
 ·obtain ⟨k, hk1, hk2, hk3⟩ := he.ex1 (by omega)
  have hv := valP hm ho hx hp hk2 hk3
  rw [hk1]
  simp only [Int.natCast_nonneg, if_true, Int.toNat_natCast]
  generalize mo.val (lookP (pAt mo.procs p)) st k = v at *
  refine yiso (vf := vf21) rfl ?_
  unfold vf21; refine zF ?_
  refine zY (aN om (aN ox (aN ha hv))) ?_
  repeat' (first|(refine cw_sp (fun c => ?_) (fun c => ?_) <;> (try simp only [cnd_1, cnd_2, cnd_3, cnd_4] at c) <;> simp (disch := (first|exact Rf.mk rfl|with_reducible assumption|omega|((repeat (first|rw [nP]|rw [nS]|rw [nx_empty]))<;>omega)|decide)) only [go_sem, ↓reduceIte, om, ox, ha, hv, c])|(refine gw_sp (fun c => ?_) (fun c => ?_) <;> (try simp only [cnd_1, cnd_2, cnd_3, cnd_4] at c) <;> simp (disch := (first|exact Rf.mk rfl|with_reducible assumption|omega|((repeat (first|rw [nP]|rw [nS]|rw [nx_empty]))<;>omega)|decide)) only [go_sem, ↓reduceIte, om, ox, ha, hv, c]))
  all_goals simp_all
theorem can_bc (hm : MoF m mo ps) (ho : MoOk mo) (hx : StGood mo x st) {p : Nat} (hp : p < mo.procs.length) {j : Nat} (hj : j < (pAt mo.procs p).edges.length) :
 Eqc vfs 21 [.agg [m.dt, .int .i64 m.g, m.dc, m.dv, m.dp, m.ds, .bool m.b], .agg [x.da, x.dv, x.dc, .int .i64 st.hold], .int .i64 (p : Int), .agg [.int .i64 ((eAt (pAt mo.procs p).edges j).frm : Int), .int .i64 ((eAt (pAt mo.procs p).edges j).to : Int), .int .i64 ((eAt (pAt mo.procs p).edges j).act : Int), .int .i64 (eAt (pAt mo.procs p).edges j).expr, .int .i64 (eAt (pAt mo.procs p).edges j).var, .int .i64 (eAt (pAt mo.procs p).edges j).chan, .bool (eAt (pAt mo.procs p).edges j).keep, .int .i64 ((eAt (pAt mo.procs p).edges j).node : Int)]] (.bool (mo.can st p (pAt mo.procs p) (eAt (pAt mo.procs p).edges j))) :=
 can_ok hm ho hx hp ((ho.pr _ (pAt_mem hp)).inv.ed _ (eAt_mem hj))
theorem some_bc (hm : MoF m mo ps) (ho : MoOk mo) (hx : StGood mo x st) {p : Nat} (hp : p < mo.procs.length) : Eqc vfs 48 [.agg [m.dt, .int .i64 m.g, m.dc, m.dv, m.dp, m.ds, .bool m.b], .agg [x.da, x.dv, x.dc, .int .i64 st.hold], .int .i64 (p : Int)] (.bool (mo.someS st p (pAt mo.procs p))) := by
 refine bc_of ?_
 have fm := pz_mo hm
 have fx := pz_st hx.f
 have om := hm.ones
 have ox := hx.f.ones
 have hpo := ho.pr _ (pAt_mem hp)
 have hel := hpo.el
 refine yiso (vf := vf48) rfl ?_
 unfold vf48; refine zF ?_
 refine zY (aN om ox) ?_
 refine yw_up [0, 1, 2, 3, 4] 0 (pAt mo.procs p).edges.length (fun i f s => f 7 = .int .i64 (i : Int) /\ s.get 0 = some (.cells [m.dt, .int .i64 m.g, m.dc, m.dv, m.dp, m.ds, .bool m.b]) /\ s.get 1 = some (.cells [x.da, x.dv, x.dc, .int .i64 st.hold]) /\ ∀ j, j < i -> mo.can st p (pAt mo.procs p) (eAt (pAt mo.procs p).edges j) = false) (.mk rfl) (by omega) ⟨rfl, ?_, ?_, fun j h => by omega⟩ ?_
 ·exact zZ0
 ·exact zZ0
 rintro i f s hi ⟨hE, g0, g1, hall⟩
 by_cases ci : i < (pAt mo.procs p).edges.length
 ·have hc := can_bc hm ho hx hp ci
  have fe := pz_ed (e := eAt (pAt mo.procs p).edges i)
  refine zY (aN hE (aN ci (aN g0 (aN g1 (aN om (aN ox hc)))))) ?_
  repeat' (first|(refine cw_sp (fun c => ?_) (fun c => ?_) <;> (try simp only [cnd_1, cnd_2, cnd_3, cnd_4] at c) <;> simp (disch := (first|exact Rf.mk rfl|with_reducible assumption|omega|((repeat (first|rw [nP]|rw [nS]|rw [nx_empty]))<;>omega)|decide)) only [go_sem, ↓reduceIte, hE, ci, g0, g1, om, ox, hc, c])|(refine gw_sp (fun c => ?_) (fun c => ?_) <;> (try simp only [cnd_1, cnd_2, cnd_3, cnd_4] at c) <;> simp (disch := (first|exact Rf.mk rfl|with_reducible assumption|omega|((repeat (first|rw [nP]|rw [nS]|rw [nx_empty]))<;>omega)|decide)) only [go_sem, ↓reduceIte, hE, ci, g0, g1, om, ox, hc, c]))
  ·exact (someS_t ci c).symm
  ·intro j hj
   by_cases ej : j = i
   ·subst ej; exact c
   ·exact hall j (by omega)
 ·refine zY (aN hE (aN ci (aN g0 om))) ?_
  exact (someS_f fun j hj => hall j (by omega)).symm
end Go.Proofs.Ytlaeblilmppodaa
namespace Go.Proofs.Ytlaeblilmppodaa
open Go.V
set_option maxRecDepth 100000
set_option maxHeartbeats 4000000
variable {m : MdX} {mo : Mo} {ps : List (Pr × PrD)} {x : StD} {st : Stt}
theorem moves_ok (hm : MoF m mo ps) (ho : MoOk mo) (hx : StGood mo x st) : IsoP vfs 17 [.agg [m.dt, .int .i64 m.g, m.dc, m.dv, m.dp, m.ds, .bool m.b], .agg [x.da, x.dv, x.dc, .int .i64 st.hold]] fun d => FL 4 d (rowsM (mo.moves st)) := by
 have fm := pz_mo hm
 have fx := pz_st hx.f
 have om := hm.ones
 have ox := hx.f.ones
 have hxf := hx.f
 have hmc := hm.c
 have hcl := hx.fit.chans
 have hnp := ho.np
 have hnc := ho.nc
 refine yisop (vf := vf17) rfl ?_
 unfold vf17; refine zF ?_
 refine zY (aN om ox) ?_
 have hp0 : Hp ((Store.empty.push (.cells [m.dt, .int .i64 m.g, m.dc, m.dv, m.dp, m.ds, .bool m.b])).push (.cells [x.da, x.dv, x.dc, .int .i64 st.hold])) [] [(0, [m.dt, .int .i64 m.g, m.dc, m.dv, m.dp, m.ds, .bool m.b]), (1, [x.da, x.dv, x.dc, .int .i64 st.hold])] := ⟨List.nodup_nil, by simp, by simp [Has], by
  intro y hy
  simp only [List.mem_cons, List.not_mem_nil, or_false] at hy
  rcases hy with rfl | rfl
  ·exact zZ0
  ·simp (disch := (first|exact Rf.mk rfl|with_reducible assumption|omega|((repeat (first|rw [nP]|rw [nS]|rw [nx_empty]))<;>omega)|decide)) only [go_sem, ↓reduceIte]⟩
 generalize hR : [(0, [m.dt, .int .i64 m.g, m.dc, m.dv, m.dp, m.ds, .bool m.b]), (1, [x.da, x.dv, x.dc, .int .i64 st.hold])] = R at hp0
 have hg : ∀ {s E}, Hp s E R -> s.get 0 = some (.cells [m.dt, .int .i64 m.g, m.dc, m.dv, m.dp, m.ds, .bool m.b]) /\ s.get 1 = some (.cells [x.da, x.dv, x.dc, .int .i64 st.hold]) := fun h => by
  subst hR
  exact ⟨h.r (0, _) (by simp), h.r (1, _) (by simp)⟩
 refine wp_cut [0, 1, 2, 3, 4, 8, 9, 65, 83, 108] (fun f s => ∃ E, Rp (f 5) 4 (rowsM (mo.mvP st mo.procs.length)) E /\ Hp s E R) ?_ ?_
 ·refine yw_up [0, 1, 2, 3, 4, 8, 9, 65, 83, 108] 0 mo.procs.length (fun i f s => f 6 = .int .i64 (i : Int) /\ ∃ E, Rp (f 5) 4 (rowsM (mo.mvP st i)) E /\ Hp s E R) (.mk rfl) (by omega) ⟨rfl, [], .inl ⟨rfl, rfl, rfl⟩, hp0⟩ ?_
  rintro i f s hi ⟨hE, E, hr, hp⟩
  obtain ⟨g0, g1⟩ := hg hp
  by_cases ci : i < mo.procs.length
  ·by_cases ch : 0 <= st.hold /\ st.hold ≠ (i : Int)
   ·have e : mo.movesP st i = [] := by rw [Mo.movesP_eq, if_pos ch]
    have h1 := ch.1
    have h2 := ch.2
    refine zY (aN hE (aN ci (aN g0 (aN g1 (aN om (aN ox (aN h1 h2))))))) ?_
    rw [Mo.mvP_succ, e, List.append_nil]
    exact ⟨E, hr, hp⟩
   ·have e : mo.movesP st i = mo.mvE st i (pAt mo.procs i).edges.length := by rw [Mo.movesP_eq, if_neg ch]
    have hel := (ho.pr _ (pAt_mem ci)).el
    have h2 : 0 <= st.hold -> (st.hold = (i : Int)) = True := fun h => eq_true (by omega)
    have hmi : (mo.mvP st i).length <= 16000 := Nat.le_trans (Mo.mvP_len ho hi) (by omega)
    by_cases h1 : 0 <= st.hold <;> simp (disch := (first|exact Rf.mk rfl|with_reducible assumption|omega|((repeat (first|rw [nP]|rw [nS]|rw [nx_empty]))<;>omega)|decide)) only [go_sem, ↓reduceIte, hE, ci, g0, g1, om, ox, h1, h2]
    all_goals
     refine yw_up [0, 1, 2, 3, 4, 6, 8, 9, 14, 25, 65, 83, 108] 0 (pAt mo.procs i).edges.length (fun j f s => f 7 = .int .i64 (j : Int) /\ ∃ E, Rp (f 5) 4 (rowsM (mo.mvP st i ++ mo.mvE st i j)) E /\ Hp s E R) (.mk rfl) (by omega) ⟨rfl, E, by rw [show mo.mvE st i 0 = [] from rfl, List.append_nil]; exact hr, hp⟩ ?_
     rintro j f s hj ⟨hE, E, hr, hp⟩
     obtain ⟨g0, g1⟩ := hg hp
     by_cases cj : j < (pAt mo.procs i).edges.length
     ·have hc := can_bc hm ho hx ci cj
      have fe := pz_ed (e := eAt (pAt mo.procs i).edges j)
      refine zY (aN hE (aN ci (aN cj (aN g0 (aN g1 (aN om (aN ox hc))))))) ?_
      refine cw_sp (fun c => ?_) (fun c => ?_)
      ·refine zY (aN hE (aN ci (aN cj (aN g0 (aN g1 (aN om ox)))))) ?_
       have := Mo.mvE_len (mo := mo) (st := st) (i := i) (j := j)
       refine bm_appM ⟨0, i, j, 0⟩ rfl hr hp (by decide) (by simp; omega) ?_
       intro d' s' E' hr' hp'
       refine zY hE ?_
       refine ⟨cj, E', ?_, hp'⟩
       rw [Mo.mvE_succ, c, if_pos rfl, <- List.append_assoc]
       exact hr'
      ·refine zY hE ?_
       refine ⟨cj, E, ?_, hp⟩
       rw [Mo.mvE_succ, c, if_neg (by simp), List.append_nil]
       exact hr
     ·obtain rfl : j = (pAt mo.procs i).edges.length := by omega
      refine zY (aN hE (aN ci (aN g0 (aN g1 (aN om ox))))) ?_
      rw [Mo.mvP_succ, e]
      exact ⟨E, hr, hp⟩
  ·obtain rfl : i = mo.procs.length := by omega
   refine zY (aN hE (aN ci (aN g0 (aN g1 (aN om ox))))) ?_
   exact ⟨E, hr, hp⟩
 ·rintro f s ⟨E, hr, hp⟩
  obtain ⟨g0, g1⟩ := hg hp
  refine zY0 ?_
  refine wp_cut [0, 1, 2, 3, 4, 6, 7, 14, 25, 34, 49] (fun f s => ∃ E, Rp (f 5) 4 (rowsM (mo.moves st)) E /\ Hp s E R) ?_ ?_
  ·have hmi : (mo.mvP st mo.procs.length).length <= 16000 := Nat.le_trans (Mo.mvP_len ho (Nat.le_refl _)) (by omega)
   refine yw_up [0, 1, 2, 3, 4, 6, 7, 14, 25, 34, 49] 0 mo.chans.length (fun i f s => f 8 = .int .i64 (i : Int) /\ ∃ E, Rp (f 5) 4 (rowsM (mo.mvP st mo.procs.length ++ if st.hold < 0 then mo.mvC st i else [])) E /\ Hp s E R) (.mk rfl) (by omega) ⟨rfl, E, ?_, hp⟩ ?_
   ·rw [show mo.mvC st 0 = [] from rfl, ite_self, List.append_nil]; exact hr
   clear hr hp
   rintro i f s hi ⟨hE, E, hr, hp⟩
   obtain ⟨g0, g1⟩ := hg hp
   by_cases ch : st.hold < 0
   ·by_cases ci : i < mo.chans.length
    ·have ci' : i < st.chans.length := by omega
     rw [if_pos ch] at hr
     have hmc' := Mo.mvC_len (mo := mo) (st := st) (i := i)
     have e1 : mo.mvC st (i + 1) = mo.mvC st i ++ mo.movesC st i := Mo.mvC_succ
     unfold Mo.movesC at e1
     by_cases l1 : (chAt mo.chans i).lossy = true <;> by_cases l0 : 0 < (cAt st.chans i).length <;> by_cases l2 : (chAt mo.chans i).copying = true <;> by_cases l3 : ((cAt st.chans i).length : Int) < (chAt mo.chans i).room <;> simp only [l1, l0, l2, l3, decide_true, decide_false, Bool.and_true, Bool.and_false, Bool.false_and, Bool.true_and, Bool.false_eq_true, if_true, if_false, List.append_nil, List.nil_append, List.cons_append] at e1 <;> simp (disch := (first|exact Rf.mk rfl|with_reducible assumption|omega|((repeat (first|rw [nP]|rw [nS]|rw [nx_empty]))<;>omega)|decide)) only [go_sem, ↓reduceIte, hE, ch, ci, g0, g1, om, ox, l1, l0, l2, l3]
     all_goals try (first|refine bm_appM ⟨1, 0, 0, i⟩ rfl hr hp (by decide) (by simp; omega) ?_|refine bm_appM ⟨2, 0, 0, i⟩ rfl hr hp (by decide) (by simp; omega) ?_) <;> rintro d1 s1 E1 hr hp <;> obtain ⟨k0, k1⟩ := hg hp <;> simp (disch := (first|exact Rf.mk rfl|with_reducible assumption|omega|((repeat (first|rw [nP]|rw [nS]|rw [nx_empty]))<;>omega)|decide)) only [go_sem, ↓reduceIte, hE, ch, ci, k0, k1, om, ox, l1, l0, l2, l3]
     all_goals try (refine bm_appM ⟨2, 0, 0, i⟩ rfl hr hp (by decide) (by simp; omega) ?_) <;> rintro d1 s1 E1 hr hp <;> simp (disch := (first|exact Rf.mk rfl|with_reducible assumption|omega|((repeat (first|rw [nP]|rw [nS]|rw [nx_empty]))<;>omega)|decide)) only [go_sem, ↓reduceIte, hE]
     all_goals
      rw [e1]
      try simp only [List.append_assoc, List.cons_append, List.nil_append] at hr ⊢
      first|exact ⟨_, hr, hp⟩|exact ⟨ci, _, hr, hp⟩
    ·obtain rfl : i = mo.chans.length := by omega
     refine zY (aN hE (aN ch (aN ci (aN g0 (aN g1 (aN om ox)))))) ?_
     rw [Mo.moves_eq]
     exact ⟨E, hr, hp⟩
   ·rw [if_neg ch] at hr
    by_cases ci : i < mo.chans.length
    ·refine zY (aN hE (aN ch (aN ci (aN g0 (aN g1 (aN om ox)))))) ?_
     rw [Mo.moves_eq, if_neg ch]
     exact ⟨E, hr, hp⟩
    ·refine zY (aN hE (aN ch (aN ci (aN g0 (aN g1 (aN om ox)))))) ?_
     rw [Mo.moves_eq, if_neg ch]
     exact ⟨E, hr, hp⟩
  ·rintro f s ⟨E, hr, hp⟩
   obtain ⟨d', h1, h2⟩ := rp_frz hr hp (fun e h => h) (rowsM_len _) (rowsM_scal _)
   refine zY h1 ?_
   exact ⟨_, rfl, h2⟩
end Go.Proofs.Ytlaeblilmppodaa
namespace Go.V
def Mo.actS (mo : Mo) (st : Stt) (e : Ed) (n : Int) : Stt :=
 if e.act = 1 then { st with vars := st.vars.set e.var.toNat (trimZ n (vAt mo.vars e.var.toNat).width.toNat) }
 else if e.act = 2 then { st with chans := st.chans.set e.chan.toNat (cAt st.chans e.chan.toNat ++ [trimZ n (chAt mo.chans e.chan.toNat).width.toNat]) }
 else if e.act = 3 then { st with vars := st.vars.set e.var.toNat (trimZ (zAt (cAt st.chans e.chan.toNat) 0) (vAt mo.vars e.var.toNat).width.toNat), chans := st.chans.set e.chan.toNat ((cAt st.chans e.chan.toNat).drop 1) }
 else st
def Stt.go (st : Stt) (i to : Nat) : Stt := { st with at' := st.at'.set i to }
def Stt.free (st : Stt) : Stt := { st with hold := -1 }
def Mo.edgeS (mo : Mo) (st : Stt) (i : Nat) (p : Pr) (e : Ed) : Stt := (mo.actS (st.go i e.to) e (mo.ex p st e 0).1).free
def Mo.doE (mo : Mo) (st : Stt) (i : Nat) (p : Pr) (e : Ed) : Stt := { mo.edgeS st i p e with hold := if e.keep && mo.someS (mo.edgeS st i p e) i p then (i : Int) else -1 }
def Mo.doS (mo : Mo) (st : Stt) (v : Mv) : Stt :=
 if v.kind = 1 then { st with chans := st.chans.set v.chan ((cAt st.chans v.chan).drop 1) }
 else if v.kind = 2 then { st with chans := st.chans.set v.chan (cAt st.chans v.chan ++ [zAt (cAt st.chans v.chan) 0]) }
 else mo.doE st v.proc (pAt mo.procs v.proc) (eAt (pAt mo.procs v.proc).edges v.edge)
def Mo.mvOk (mo : Mo) (st : Stt) (v : Mv) : Prop :=
 (v.kind = 0 /\ v.proc < mo.procs.length /\ v.edge < (pAt mo.procs v.proc).edges.length /\ mo.can st v.proc (pAt mo.procs v.proc) (eAt (pAt mo.procs v.proc).edges v.edge) = true) ∨
 (v.kind = 1 /\ v.chan < mo.chans.length /\ 0 < (cAt st.chans v.chan).length) ∨
 (v.kind = 2 /\ v.chan < mo.chans.length /\ 0 < (cAt st.chans v.chan).length /\ ((cAt st.chans v.chan).length : Int) < (chAt mo.chans v.chan).room)
def ChR (s : Store) (q : D) (l : List Int) : Prop := (q = .nils /\ l = []) ∨ q = .lst 1 (rowsZ l) ∨ ∃ id off cs, q = .arr id off l.length 1 /\ s.get id = some (.cells cs) /\ off + l.length <= cs.length /\ (cs.drop off).take l.length = cellsZ l
theorem cellsZ_scal (l : List Int) : (cellsZ l).all scal1 = true := by simp [cellsZ, scal1]
theorem ChR.one {s : Store} {q : D} {l : List Int} (h : ChR s q l) : oneCell q = true := by
 rcases h with ⟨rfl, _⟩ | rfl | ⟨id, off, cs, rfl, _⟩ <;> rfl
theorem ChR.frz {s : Store} {q : D} {l : List Int} (h : ChR s q l) (n : Nat) : ∃ q', ice s.get (n + 2) q = some q' /\ FI q' l := by
 rcases h with ⟨rfl, rfl⟩ | rfl | ⟨id, off, cs, rfl, h1, h2, h3⟩
 ·exact ⟨_, rfl, .inl ⟨rfl, rfl⟩⟩
 ·exact ⟨_, rfl, .inr rfl⟩
 ·refine ⟨.lst 1 (rowsZ l), ?_, .inr rfl⟩
  have e1 : rowOf s.get (.arr id off l.length 1) = some (cellsZ l) := by
   simp only [rowOf, h1, Nat.mul_one, h3]
   rw [if_pos h2]
  have e2 : mapO (ice s.get (n + 1)) (cellsZ l) = some (cellsZ l) := mapO_ice (cellsZ_scal l)
  simp only [ice, e1, e2, Option.map_some]
  have e3 := chunk_one (cellsZ l)
  rw [cellsZ_length] at e3
  rw [e3]
  simp [cellsZ, rowsZ]
def dAt (l : List D) (i : Nat) : D := l.getD i .undef
theorem dAt_get {l : List D} {i : Nat} (h : i < l.length) : dAt l i = l[i] := by simp [dAt, List.getD, h]
def SttR (s : Store) (cs : List D) (st : Stt) : Prop := ∃ dA dV dC qs, cs = [dA, dV, dC, .int .i64 st.hold] /\ SN s 1 dA (rowsN st.at') /\ SN s 1 dV (rowsZ st.vars) /\ SN s 1 dC (qs.map fun q => [q]) /\ (qs = [] ∨ ∃ id, dC = .arr id 0 qs.length 1) /\ qs.length = st.chans.length /\ ∀ j (h : j < qs.length) (h' : j < st.chans.length), ChR s qs[j] st.chans[j]
theorem SttR.mk {s : Store} {dA dV dC : D} {st : Stt} (qs : List D) (hA : SN s 1 dA (rowsN st.at')) (hV : SN s 1 dV (rowsZ st.vars)) (hC : SN s 1 dC (qs.map fun q => [q])) (hn : qs = [] ∨ ∃ id, dC = .arr id 0 qs.length 1) (hl : qs.length = st.chans.length) (hq : ∀ j, j < qs.length -> ChR s (dAt qs j) (cAt st.chans j)) : SttR s [dA, dV, dC, .int .i64 st.hold] st :=
 ⟨dA, dV, dC, qs, rfl, hA, hV, hC, hn, hl, fun j h h' => by
  have := hq j h
  rwa [dAt_get h, cAt_get h'] at this⟩
theorem frz_all {s : Store} (n : Nat) : ∀ {qs : List D} {l : List (List Int)}, qs.length = l.length -> (∀ j (h : j < qs.length) (h' : j < l.length), ChR s qs[j] l[j]) -> ∃ ds : List D, mapL (ice s.get (n + 2)) (qs.map fun q => [q]) = some (ds.map fun d => [d]) /\ ds.length = l.length /\ ∀ i (h : i < ds.length) (h' : i < l.length), FI ds[i] l[i]
 | [], [], _, _ => ⟨[], rfl, rfl, fun i h => by simp at h⟩
 | [], _ :: _, h, _ => by simp at h
 | _ :: _, [], h, _ => by simp at h
 | q :: qs, a :: l, h, hr => by
   obtain ⟨ds, h1, h2, h3⟩ := frz_all n (qs := qs) (l := l) (by simpa using h) fun j hj hj' => hr (j + 1) (by simp; omega) (by simp; omega)
   obtain ⟨d, h4, h5⟩ := (hr 0 (by simp) (by simp)).frz n
   refine ⟨d :: ds, ?_, by simp [h2], fun i hi hi' => ?_⟩
   ·have h4 : ice s.get (n + 2) q = some d := h4
    simp only [List.map_cons, mapL, mapO, h4, h1]
   ·cases i with
    | zero => exact h5
    | succ i => exact h3 i (by simpa using hi) (by simpa using hi')
theorem SttR.frz {s : Store} {cs : List D} {st : Stt} (h : SttR s cs st) : ∃ x, ice s.get 20 (.agg cs) = some (.agg [x.da, x.dv, x.dc, .int .i64 st.hold]) /\ StF x st := by
 obtain ⟨dA, dV, dC, qs, rfl, hA, hV, hC, hn, hl, hq⟩ := h
 obtain ⟨da, a1, b1⟩ := hA.frz1 (n := 17) (rowsN_len _) (rowsN_scal _)
 obtain ⟨dv, a2, b2⟩ := hV.frz1 (n := 17) (rowsZ_len _) (rowsZ_scal _)
 obtain ⟨ds, h1, h2, h3⟩ := frz_all 16 hl hq
 obtain ⟨dc, a3, b3⟩ := hC.frz (n := 18) (fun r hr => by obtain ⟨x, _, rfl⟩ := List.mem_map.1 hr; rfl) h1 (fun e => by
  rcases hn with rfl | ⟨id, hid⟩
  ·have : ds = [] := List.length_eq_zero_iff.1 (by rw [h2, <- hl]; rfl)
   rw [this]
  ·rw [hid] at e; cases e)
 refine ⟨⟨da, dv, dc⟩, ?_, ⟨b1, b2, ds, b3, h2, h3⟩⟩
 have e1 : ice s.get 19 (.int .i64 st.hold) = some (.int .i64 st.hold) := rfl
 simp only [ice, mapO, a1, a2, a3, e1, Option.map_some]
def OutM (s : Store) (n : Nat) (r : D) (st : Stt) : Prop := ∃ a v dC ids EC, r = .agg [.arr a 0 st.at'.length 1, .arr v 0 st.vars.length 1, dC, .int .i64 st.hold] /\ ids.length = st.chans.length /\ Rp dC 1 (qrows ids st.chans) EC /\ Hp s ((a, cellsI st.at') :: (v, cellsZ st.vars) :: (EC ++ qparts ids st.chans)) [] /\ ∀ w ∈ (a, cellsI st.at') :: (v, cellsZ st.vars) :: (EC ++ qparts ids st.chans), n <= w.1
def qcs (ids : List Nat) (l : List (List Int)) : List D := List.zipWith (fun id q => .arr id 0 q.length 1) ids l
theorem qcs_rows : ∀ {ids : List Nat} {l : List (List Int)}, qrows ids l = (qcs ids l).map fun q => [q]
 | [], _ => by simp [qrows, qcs]
 | _ :: _, [] => by simp [qrows, qcs]
 | i :: ids, a :: l => by
   have := qcs_rows (ids := ids) (l := l)
   simp only [qrows, qcs, List.zipWith_cons_cons, List.map_cons] at *
   rw [this]
theorem flat_one {l : List D} : (l.map fun q => [q]).flatten = l := by induction l with
 | nil => rfl
 | cons a l ih => simp [ih]
theorem qcs_len {ids : List Nat} {l : List (List Int)} (h : ids.length = l.length) : (qcs ids l).length = l.length := by simp [qcs, h]
theorem qcs_at : ∀ {ids : List Nat} {l : List (List Int)} {j : Nat}, ids.length = l.length -> j < l.length -> (qcs ids l)[j]? = some (.arr (nAt ids j) 0 (cAt l j).length 1)
 | [], [], j, _, h => by simp at h
 | [], _ :: _, j, h, _ => by simp at h
 | _ :: _, [], j, h, _ => by simp at h
 | i :: ids, a :: l, 0, h, _ => by simp [qcs, nAt, cAt]
 | i :: ids, a :: l, j + 1, h, hj => by
   have := qcs_at (ids := ids) (l := l) (j := j) (by simpa using h) (by simpa using hj)
   simpa [qcs, nAt, cAt] using this
theorem qcs_d {ids : List Nat} {l : List (List Int)} {j : Nat} (h : ids.length = l.length) (hj : j < l.length) : dAt (qcs ids l) j = .arr (nAt ids j) 0 (cAt l j).length 1 := by
 have := qcs_at h hj
 simp [dAt, List.getD, this]
theorem qparts_mem : ∀ {ids : List Nat} {l : List (List Int)} {j : Nat}, ids.length = l.length -> j < l.length -> (nAt ids j, cellsZ (cAt l j)) ∈ qparts ids l
 | [], [], j, _, h => by simp at h
 | [], _ :: _, j, h, _ => by simp at h
 | _ :: _, [], j, h, _ => by simp at h
 | i :: ids, a :: l, 0, h, _ => by simp [qparts, nAt, cAt]
 | i :: ids, a :: l, j + 1, h, hj => by
   have := qparts_mem (ids := ids) (l := l) (j := j) (by simpa using h) (by simpa using hj)
   simp only [qparts, List.zipWith_cons_cons, List.mem_cons]
   exact .inr this
theorem qparts_fst : ∀ {ids : List Nat} {l : List (List Int)}, ids.length = l.length -> (qparts ids l).map Prod.fst = ids
 | [], [], _ => rfl
 | [], _ :: _, h => by simp at h
 | _ :: _, [], h => by simp at h
 | i :: ids, a :: l, h => by
   have := qparts_fst (ids := ids) (l := l) (by simpa using h)
   simp only [qparts, List.zipWith_cons_cons, List.map_cons, List.cons.injEq, true_and] at *
   exact this
structure OutO (s : Store) (n : Nat) (a v : Nat) (dC : D) (ids : List Nat) (st : Stt) : Prop where
 len : ids.length = st.chans.length
 ga : s.get a = some (.cells (cellsI st.at'))
 gv : s.get v = some (.cells (cellsZ st.vars))
 gc : (st.chans = [] /\ dC = .nils) ∨ ∃ c, dC = .arr c 0 st.chans.length 1 /\ s.get c = some (.cells (qcs ids st.chans)) /\ n <= c /\ c ≠ a /\ c ≠ v /\ ∀ j, j < st.chans.length -> nAt ids j ≠ c
 gq : ∀ j, j < st.chans.length -> s.get (nAt ids j) = some (.cells (cellsZ (cAt st.chans j))) /\ n <= nAt ids j /\ nAt ids j ≠ a /\ nAt ids j ≠ v
 inj : ∀ i j, i < st.chans.length -> j < st.chans.length -> nAt ids i = nAt ids j -> i = j
 av : a ≠ v
 na : n <= a
 nv : n <= v
theorem OutM.open {s : Store} {n : Nat} {r : D} {st : Stt} (h : OutM s n r st) : ∃ a v dC ids, r = .agg [.arr a 0 st.at'.length 1, .arr v 0 st.vars.length 1, dC, .int .i64 st.hold] /\ OutO s n a v dC ids st := by
 obtain ⟨a, v, dC, ids, EC, rfl, hl, hr, hp, hn⟩ := h
 have nd := hp.nd
 simp only [List.map_cons, List.map_append, qparts_fst hl, List.nodup_cons, List.mem_cons, List.mem_append, not_or, List.nodup_append] at nd
 obtain ⟨⟨n1, n2, n3⟩, ⟨n4, n5⟩, n6, n7, n8⟩ := nd
 have hm : ∀ j, j < st.chans.length -> nAt ids j ∈ ids := fun j hj => nAt_mem (by omega)
 refine ⟨a, v, dC, ids, rfl, hl, hp.hd, hp.tl.hd, ?_, fun j hj => ?_, fun i j hi hj e => ?_, n1, hn (a, cellsI st.at') (by simp), hn (v, cellsZ st.vars) (by simp)⟩
 ·rcases hr with ⟨rfl, h2, _⟩ | ⟨c, rfl, rfl, h3⟩
  ·refine .inl ⟨?_, rfl⟩
   have := congrArg List.length h2
   rw [qrows_length (by omega)] at this
   exact List.length_eq_zero_iff.1 (by rw [<- hl]; exact this)
  ·refine .inr ⟨c, by rw [qrows_length (by omega), hl], ?_, hn (c, (qrows ids st.chans).flatten) (by simp), ?_, ?_, ?_⟩
   ·have := hp.tl.tl.w (c, (qrows ids st.chans).flatten) (by simp)
    rw [qcs_rows, flat_one] at this
    exact this
   ·intro e; subst e; simp at n2
   ·intro e; subst e; simp at n4
   ·intro j hj e
    exact n8 c (by simp) (nAt ids j) (hm j hj) e.symm
 ·refine ⟨hp.tl.tl.w (nAt ids j, cellsZ (cAt st.chans j)) (by simp [qparts_mem hl hj]), hn (nAt ids j, cellsZ (cAt st.chans j)) (by simp [qparts_mem hl hj]), ?_, ?_⟩
  ·intro e; rw [<- e] at n3; exact n3 (hm j hj)
  ·intro e; rw [<- e] at n5; exact n5 (hm j hj)
 ·rw [nAt_get (by omega), nAt_get (by omega)] at e
  have hpw := List.pairwise_iff_getElem.1 n7
  rcases Nat.lt_trichotomy i j with h | h | h
  ·exact absurd e (hpw i j (by omega) (by omega) h)
  ·exact h
  ·exact absurd e.symm (hpw j i (by omega) (by omega) h)
theorem tk_D {l : List D} {n : Nat} {x : D} (h : n < l.length) : List.take n l ++ [x] ++ List.drop (n + 1) l = l.set n x := by
 have := splice_set (x := x) h
 rw [<- this]
 simp [splice]
theorem cellsZ_set (l : List Int) (n : Nat) (k : Int) : (cellsZ l).set n (.int .i64 k) = cellsZ (l.set n k) := by simp [cellsZ, List.map_set]
theorem tk_I {l : List Nat} {n x : Nat} (h : n < l.length) : List.take n (cellsI l) ++ [.int .i64 (x : Int)] ++ List.drop (n + 1) (cellsI l) = cellsI (l.set n x) := by rw [tk_D (by simpa using h), cellsI_set]
theorem tk_Z {l : List Int} {n : Nat} {x : Int} (h : n < l.length) : List.take n (cellsZ l) ++ [.int .i64 x] ++ List.drop (n + 1) (cellsZ l) = cellsZ (l.set n x) := by rw [tk_D (by simpa using h), cellsZ_set]
theorem tk_Q {ids : List Nat} {l : List (List Int)} {n : Nat} {x : D} (h1 : ids.length = l.length) (h : n < l.length) : List.take n (qcs ids l) ++ [x] ++ List.drop (n + 1) (qcs ids l) = (qcs ids l).set n x := tk_D (by rw [qcs_len h1]; exact h)
theorem cZ_at {l : List Int} {i : Nat} (h : i < l.length) : (cellsZ l)[i]? = some (.int .i64 (zAt l i)) := by rw [zAt_get h]; simp [cellsZ, h]
theorem le_succ {a b : Nat} : (a + 1 <= b) = (a < b) := by apply propext; omega
attribute [go_sem] tk_I tk_Z tk_Q qcs_len qcs_at cZ_at cellsZ_set cellsI_set cellsI_length cellsZ_length le_succ
structure MoFi (mo : Mo) : Prop where
 ch : ∀ c ∈ mo.chans, 1 <= c.room /\ c.room <= 3 /\ 1 <= c.width /\ c.width <= 8
 vr : ∀ v ∈ mo.vars, 1 <= v.width /\ v.width <= 8 /\ trimZ v.value v.width.toNat = v.value
theorem dAt_set {l : List D} {k j : Nat} {d : D} (hk : k < l.length) : dAt (l.set k d) j = if j = k then d else dAt l j := by
 unfold dAt
 simp only [List.getD, List.getElem?_set]
 split
 ·rename_i h; subst h; simp [hk]
 ·rename_i h; rw [if_neg (Ne.symm h)]
theorem cAt_set {l : List (List Int)} {k j : Nat} {d : List Int} (hk : k < l.length) : cAt (l.set k d) j = if j = k then d else cAt l j := by
 unfold cAt
 simp only [List.getD, List.getElem?_set]
 split
 ·rename_i h; subst h; simp [hk]
 ·rename_i h; rw [if_neg (Ne.symm h)]
theorem chr_full {s : Store} {id : Nat} {l : List Int} (h : s.get id = some (.cells (cellsZ l))) : ChR s (.arr id 0 l.length 1) l :=
 .inr (.inr ⟨id, 0, _, rfl, h, by simp, by rw [List.drop_zero, <- cellsZ_length l, List.take_length]⟩)
theorem chr_drop {s : Store} {id : Nat} {l : List Int} (h : s.get id = some (.cells (cellsZ l))) (hl : 1 < l.length) : ChR s (.arr id 1 (l.length - 1) 1) (l.drop 1) :=
 .inr (.inr ⟨id, 1, _, by simp, h, by simp; omega, by
  rw [List.length_drop, <- cellsZ_length l, <- List.length_drop, List.take_length]
  simp [cellsZ, List.map_drop]⟩)
theorem chr_none {s : Store} {l : List Int} (hl : ¬ 1 < l.length) : ChR s (.lst 1 []) (l.drop 1) := by
 have : l.drop 1 = [] := List.length_eq_zero_iff.1 (by rw [List.length_drop]; omega)
 rw [this]; exact .inr (.inl rfl)
theorem OutO.chan {s S : Store} {n a v c : Nat} {ids : List Nat} {st : Stt} (h : OutO s n a v (.arr c 0 st.chans.length 1) ids st) {k : Nat} (hk : k < st.chans.length) {A : List Nat} {V : List Int} {l : List Int} {d : D} {hd : Int} (hA : A.length = st.at'.length) (hV : V.length = st.vars.length)
 (ga : S.get a = some (.cells (cellsI A))) (gv : S.get v = some (.cells (cellsZ V))) (gc : S.get c = some (.cells ((qcs ids st.chans).set k d))) (hr : ChR S d l) (hq : ∀ j, j < st.chans.length -> j ≠ k -> S.get (nAt ids j) = s.get (nAt ids j)) :
 SttR S [.arr a 0 st.at'.length 1, .arr v 0 st.vars.length 1, .arr c 0 st.chans.length 1, .int .i64 hd] ⟨A, V, st.chans.set k l, hd⟩ := by
 refine SttR.mk (st := ⟨A, V, st.chans.set k l, hd⟩) ((qcs ids st.chans).set k d) (.inr (.inl ⟨a, by simp [hA], by rw [rowsN_flat]; exact ga⟩)) (.inr (.inl ⟨v, by simp [hV], by rw [rowsZ_flat]; exact gv⟩)) (.inr (.inl ⟨c, by simp [qcs_len h.len], by rw [flat_one]; exact gc⟩)) (.inr ⟨c, by simp [qcs_len h.len]⟩) (by simp [qcs_len h.len]) fun j hj => ?_
 rw [List.length_set, qcs_len h.len] at hj
 rw [dAt_set (by rw [qcs_len h.len]; exact hk), cAt_set hk]
 split
 ·exact hr
 ·rename_i hjk
  rw [qcs_d h.len hj]
  exact chr_full (by rw [hq j hj hjk]; exact (h.gq j hj).1)
theorem OutO.same {s S : Store} {n a v : Nat} {dC : D} {ids : List Nat} {st : Stt} (h : OutO s n a v dC ids st) {A : List Nat} {V : List Int} {hd : Int} (hA : A.length = st.at'.length) (hV : V.length = st.vars.length)
 (ga : S.get a = some (.cells (cellsI A))) (gv : S.get v = some (.cells (cellsZ V))) (hq : ∀ j, n <= j -> j < s.next -> j ≠ a -> j ≠ v -> S.get j = s.get j) :
 SttR S [.arr a 0 st.at'.length 1, .arr v 0 st.vars.length 1, dC, .int .i64 hd] ⟨A, V, st.chans, hd⟩ := by
 refine SttR.mk (st := ⟨A, V, st.chans, hd⟩) (qcs ids st.chans) (.inr (.inl ⟨a, by simp [hA], by rw [rowsN_flat]; exact ga⟩)) (.inr (.inl ⟨v, by simp [hV], by rw [rowsZ_flat]; exact gv⟩)) ?_ ?_ (qcs_len h.len) fun j hj => ?_
 ·rcases h.gc with ⟨e, rfl⟩ | ⟨c, rfl, g, nc, ca, cv, _⟩
  ·refine .inl ⟨rfl, ?_⟩
   rw [e]; simp [qcs]
  ·refine .inr (.inl ⟨c, by simp [qcs_len h.len], ?_⟩)
   rw [flat_one, hq c nc (get_lts g) ca cv]; exact g
 ·rcases h.gc with ⟨e, rfl⟩ | ⟨c, rfl, g, nc, ca, cv, _⟩
  ·left; rw [e]; simp [qcs]
  ·exact .inr ⟨c, by simp [qcs_len h.len]⟩
 ·rw [qcs_len h.len] at hj
  obtain ⟨g, n1, n2, n3⟩ := h.gq j hj
  rw [qcs_d h.len hj]
  exact chr_full (by rw [hq _ n1 (get_lts g) n2 n3]; exact g)
variable {fs : FuncId -> Option VFunc}
theorem mx_arr {pairs T i t rest env K s q n idt bytes x cs} (hg : s.get q = some (.cells cs)) (hn : cs.length = n) (ht : s.get idt = some (.cells [x])) (hb : bytes <= 1000) (hl : n <= 1000000000) (he : EfOk pairs i [q, s.next] T)
 (k : XX fs pairs (⟨i, none, [q, s.next]⟩ :: T) rest ((t, .arr s.next 0 (n + 1) 1) :: env) ((s.set q none).push (.cells (cs ++ [x]))) K) : MX (.arr q 0 n 1) (.arr idt 0 1 1) 1 bytes i fs pairs T t rest env s K := by
 subst hn
 have b3 : bytes <= 2 ^ 20 := Nat.le_trans hb (by decide)
 have r1 : rowOf s.get (.arr idt 0 1 1) = some [x] := by simp [rowOf, ht]
 have b1 : (cs.length + 1) * bytes <= 2 ^ 45 := Nat.le_trans (Nat.mul_le_mul (show cs.length + 1 <= 1000000001 by omega) hb) (by decide)
 have b2 : cs.length + 1 <= 2 ^ 45 := by omega
 refine ⟨_, _, [q, s.next], ?_, ?_, fun j hj => ?_, he, k⟩
 ·unfold appendV
  simp only [r1, srcLen, srcSz, b3, decide_true, Bool.and_self, if_true, hg, Nat.zero_add, Nat.mul_one, and_self, List.drop_zero, beq_self_eq_true]
  rw [if_neg (by omega), if_pos ⟨b1, b2⟩]
 ·simp
 ·simp only [List.mem_cons, List.not_mem_nil, or_false, not_or] at hj
  rw [Store.get_push, if_neg (by simpa using hj.2), get_set_ne hj.1]
theorem bl_st {s : Store} {a b : D} {cs : List D} {st : Stt} {p : Bool} {f : FuncId} {pairs t rest env K} (h : SttR s cs st) (hb : PZ b) (k : ∀ x, StF x st -> BL (some [a, .agg [x.da, x.dv, x.dc, .int .i64 st.hold], b]) p fs f pairs t rest env s K) : BL (Option.map (fun l => a :: l) (mapO (ice s.get 20) [.agg cs, b])) p fs f pairs t rest env s K := by
 obtain ⟨x, h1, h2⟩ := h.frz
 have e : mapO (ice s.get 20) [.agg cs, b] = some [.agg [x.da, x.dv, x.dc, .int .i64 st.hold], b] := by
  simp only [mapO, hb.2 s.get 17, h1]
 rw [e]
 exact k x h2
end Go.V
namespace Go.Proofs.Ytlaeblilmppodaa
open Go.V
set_option maxRecDepth 100000
set_option maxHeartbeats 4000000
variable {m : MdX} {mo : Mo} {ps : List (Pr × PrD)} {x : StD} {st : Stt}
theorem clone_ok (hx : StF x st) (hcl : st.chans.length <= 3) (h8 : St8 st) (ha : st.at'.length <= 1000) (hv : st.vars.length <= 1000) {s : Store} : EvP vfs 46 [.agg [x.da, x.dv, x.dc, .int .i64 st.hold]] s fun r s' => OutM s' s.next r st /\ Fr [] s s' := by
 have ox := hx.ones
 have hlc := st_lc hx
 refine yevp (vf := vf46) rfl ?_
 unfold vf46; refine zF ?_
 refine zY ox ?_
 have hp0 : Hp ((s.push (.cells [x.da, x.dv, x.dc, .int .i64 st.hold])).push (.cells [.nils, .nils, .nils, .int .i64 0])) [(s.next + 1, [.nils, .nils, .nils, .int .i64 0])] [(s.next, [x.da, x.dv, x.dc, .int .i64 st.hold])] :=
  Hp.pushW (W := []) ⟨List.nodup_nil, by simp, by simp [Has], by simp [Has, get_push_new]⟩ _
 refine mx_new (s := (s.push (.cells [x.da, x.dv, x.dc, .int .i64 st.hold])).push (.cells [.nils, .nils, .nils, .int .i64 0])) hx.a (rowsN_len _) hp0 (by decide) (by simp; omega) (by simp (disch := (first|exact Rf.mk rfl|with_reducible assumption|omega|((repeat (first|rw [nP]|rw [nS]|rw [nx_empty]))<;>omega)|decide)) only [go_sem, ↓reduceIte]) ?_
 rintro a s1 hp1 l1 a1 u1
 have g0 := hp1.r (s.next, [x.da, x.dv, x.dc, .int .i64 st.hold]) (by simp)
 simp only [Store.next_push] at l1 a1 u1 g0
 rw [rowsN_flat] at hp1
 have f1 : Fr [] s s1 := ⟨by omega, fun j hj _ => by rw [u1 j (by omega), get_push_old (by simp; omega), get_push_old hj]⟩
 simp (disch := (first|exact Rf.mk rfl|with_reducible assumption|omega|((repeat (first|rw [nP]|rw [nS]|rw [nx_empty]))<;>omega)|decide)) only [go_sem, ↓reduceIte, g0, ox, rowsN_length]
 refine mx_new (s := s1) hx.v (rowsZ_len _) hp1 (by decide) (by simp; omega) (by simp (disch := (first|exact Rf.mk rfl|with_reducible assumption|omega|((repeat (first|rw [nP]|rw [nS]|rw [nx_empty]))<;>omega)|decide)) only [go_sem, ↓reduceIte]) ?_
 rintro v s2 hp2 l2 a2 u2
 have g0 := hp2.r (s.next, [x.da, x.dv, x.dc, .int .i64 st.hold]) (by simp)
 rw [show (List.map (fun n => [D.int IntKind.i64 n]) st.vars) = rowsZ st.vars from rfl, rowsZ_flat] at hp2
 have f2 : Fr [] s s2 := f1.thenS (by omega) u2
 simp (disch := (first|exact Rf.mk rfl|with_reducible assumption|omega|((repeat (first|rw [nP]|rw [nS]|rw [nx_empty]))<;>omega)|decide)) only [go_sem, ↓reduceIte, g0, ox, List.length_map]
 have hp3 := hp2.newW (.cells [.nils, .nils, .nils, .int .i64 0]) [.arr a 0 st.at'.length 1, .arr v 0 st.vars.length 1, .nils, .int .i64 st.hold]
 have f3 : Fr [] s ((s2.push (.cells [.nils, .nils, .nils, .int .i64 0])).set s2.next (some (.cells [.arr a 0 st.at'.length 1, .arr v 0 st.vars.length 1, .nils, .int .i64 st.hold]))) := f2.thenS (by simp) fun j hj => by rw [get_set_ne (by omega), get_push_old hj]
 have hq : s2.next < ((s2.push (.cells [.nils, .nils, .nils, .int .i64 0])).set s2.next (some (.cells [.arr a 0 st.at'.length 1, .arr v 0 st.vars.length 1, .nils, .int .i64 st.hold]))).next := by simp
 generalize ((s2.push (.cells [.nils, .nils, .nils, .int .i64 0])).set s2.next (some (.cells [.arr a 0 st.at'.length 1, .arr v 0 st.vars.length 1, .nils, .int .i64 st.hold]))) = s3 at *
 generalize s2.next = p at *
 clear hp0 hp1 hp2 u1 u2 g0
 refine yw_up [0, 1, 2, 3] 0 st.chans.length (fun i f s' => f 4 = .int .i64 (i : Int) /\ ∃ dC ids EC, ids.length = i /\ Rp dC 1 (qrows ids st.chans) EC /\ Hp s' ((p, [.arr a 0 st.at'.length 1, .arr v 0 st.vars.length 1, dC, .int .i64 st.hold]) :: (v, cellsZ st.vars) :: (a, cellsI st.at') :: (s.next + 1, [.nils, .nils, .nils, .int .i64 0]) :: (EC ++ qparts ids st.chans)) [(s.next, [x.da, x.dv, x.dc, .int .i64 st.hold])] /\ (∀ w ∈ EC ++ qparts ids st.chans, s.next + 2 <= w.1) /\ Fr [] s s') (.mk rfl) (by omega) ⟨rfl, .nils, [], [], rfl, .inl ⟨rfl, rfl, rfl⟩, ?_, by simp [qparts], f3⟩ ?_
 ·simpa only [qparts, List.zipWith_nil_left, List.append_nil] using hp3
 rintro i f s4 hi ⟨hE, dC, ids, EC, hil, hr, hp, hw, fr⟩
 have gp := hp.hd
 have g0 := hp.rh
 have g1 := hp.tl.tl.tl.hd
 have oc := hr.one
 by_cases ci : i < st.chans.length
 ·have hch := st_cf hx ci
  refine zY (aN hE (aN ci (aN gp (aN g0 (aN g1 (aN ox oc)))))) ?_
  have lp := get_lts gp
  refine mx_new (s := s4) (rows := rowsZ (cAt st.chans i)) hch (rowsZ_len _) hp (by decide) (by have := (h8.c _ (cAt_mem ci)).1; simp; omega) (by simp (disch := (first|exact Rf.mk rfl|with_reducible assumption|omega|((repeat (first|rw [nP]|rw [nS]|rw [nx_empty]))<;>omega)|decide)) only [go_sem, ↓reduceIte]) ?_
  rintro q s5 hp5 l5 a5 u5
  rw [rowsZ_flat] at hp5
  have gp := hp5.tl.hd
  simp (disch := (first|exact Rf.mk rfl|with_reducible assumption|omega|((repeat (first|rw [nP]|rw [nS]|rw [nx_empty]))<;>omega)|decide)) only [go_sem, ↓reduceIte, gp, rowsZ_length]
  refine mx_app (A := [(q, cellsZ (cAt st.chans i)), (p, [.arr a 0 st.at'.length 1, .arr v 0 st.vars.length 1, dC, .int .i64 st.hold]), (v, cellsZ st.vars), (a, cellsI st.at'), (s.next + 1, [.nils, .nils, .nils, .int .i64 0])]) (B := qparts ids st.chans) (E := EC) (sz := 1) hr (by simpa using hp5) rfl ?_ (by decide) ?_ (by simp (disch := (first|exact Rf.mk rfl|with_reducible assumption|omega|((repeat (first|rw [nP]|rw [nS]|rw [nx_empty]))<;>omega)|decide)) only [go_sem, ↓reduceIte]) ?_
  ·exact qrows_len
  ·have := qrows_length (ids := ids) (l := st.chans) (by omega)
   omega
  rintro s6 hr6 hp6 l6 u6
  have gp := hp6.tl.hd
  refine zY (aN hE (aN ci gp)) ?_
  have e1 := qrows_snoc (q := q) (ids := ids) (l := st.chans) (by omega)
  have e2 := qparts_snoc (q := q) (ids := ids) (l := st.chans) (by omega)
  have e3 := qrows_length (ids := ids) (l := st.chans) (by omega)
  rw [hil] at e1 e2
  have g1' := get_lts g1
  refine ⟨.arr (s5.next + 1) 0 ((qrows ids st.chans).length + 1) 1, ids ++ [q], [(s5.next + 1, (qrows ids st.chans ++ [[D.arr q 0 (cAt st.chans i).length 1]]).flatten)], by simp [hil], ?_, ?_, ?_, ?_⟩
  ·rw [e1]; exact hr6
  ·rw [e2]
   have h1 := Hp.set (A := [(q, cellsZ (cAt st.chans i))]) (id := p) hp6 [.arr a 0 st.at'.length 1, .arr v 0 st.vars.length 1, .arr (s5.next + 1) 0 ((qrows ids st.chans).length + 1) 1, .int .i64 st.hold]
   refine h1.perm ?_
   exact (List.perm_append_singleton (q, cellsZ (cAt st.chans i)) ((p, [.arr a 0 st.at'.length 1, .arr v 0 st.vars.length 1, .arr (s5.next + 1) 0 ((qrows ids st.chans).length + 1) 1, .int .i64 st.hold]) :: (v, cellsZ st.vars) :: (a, cellsI st.at') :: (s.next + 1, [.nils, .nils, .nils, .int .i64 0]) :: (s5.next + 1, (qrows ids st.chans ++ [[D.arr q 0 (cAt st.chans i).length 1]]).flatten) :: qparts ids st.chans))
  ·rw [e2]
   intro w hw1
   simp only [List.cons_append, List.nil_append, List.mem_cons, List.mem_append, List.not_mem_nil, or_false] at hw1
   rcases hw1 with rfl | hw1 | rfl
   ·simp only; omega
   ·exact hw w (by simp [hw1])
   ·simp only; omega
  ·have f5 := fr.thenS (by omega) u5
   have f6 : Fr [] s s6 := ⟨by have := f5.1; omega, fun j hj hn => by
    have h1 := f5.1
    rw [u6 j (by omega) fun e he hc => by have := hw e (by simp [he]); omega, f5.2 j hj hn]⟩
   exact f6.thenSet _ (.inr (by omega))
 ·have l1 := get_lts g1
  refine zY (aN hE (aN ci (aN gp (aN g0 (aN g1 (aN ox oc)))))) ?_
  obtain rfl : i = st.chans.length := by omega
  refine rb_of ?_
  refine ⟨⟨a, v, dC, ids, EC, rfl, hil, hr, ?_, ?_⟩, ?_⟩
  ·have h1 : Hp s4 ((s.next + 1, [.nils, .nils, .nils, .int .i64 0]) :: (a, cellsI st.at') :: (v, cellsZ st.vars) :: (EC ++ qparts ids st.chans)) [] := (hp.tl.rt).perm (by
    refine (List.Perm.swap _ _ _).trans ?_
    refine (List.Perm.cons _ (List.Perm.swap _ _ _)).trans ?_
    exact List.Perm.swap _ _ _)
   exact (Hp.set (A := []) h1 [.arr a 0 st.at'.length 1, .arr v 0 st.vars.length 1, dC, .int .i64 st.hold]).tl
  ·intro w hw1
   simp only [List.mem_cons] at hw1
   rcases hw1 with rfl | rfl | hw1
   ·simp only; omega
   ·simp only; omega
   ·have := hw w hw1; omega
  ·exact fr.thenSet _ (.inr (by omega))
end Go.Proofs.Ytlaeblilmppodaa
namespace Go.V
theorem trim_idem {n : Int} {w : Nat} (h1 : 1 <= w) : trimZ (trimZ n w) w = trimZ n w := by
 have := trimZ_lo (n := n) (w := w) (by omega)
 exact trimZ_id (by omega) this.1 this.2
theorem trim_small {n : Int} {w : Nat} (h1 : 1 <= w) (h2 : w <= 8) : I8 (trimZ n w) := by
 have h := trimZ_lo (n := n) (w := w) (by omega)
 have hc : w = 1 ∨ w = 2 ∨ w = 3 ∨ w = 4 ∨ w = 5 ∨ w = 6 ∨ w = 7 ∨ w = 8 := by omega
 unfold I8
 rcases hc with rfl | rfl | rfl | rfl | rfl | rfl | rfl | rfl <;> simp at h <;> omega
theorem nAt_set {l : List Nat} {k j : Nat} {d : Nat} (hk : k < l.length) : nAt (l.set k d) j = if j = k then d else nAt l j := by
 unfold nAt
 simp only [List.getD, List.getElem?_set]
 split
 ·rename_i h; subst h; simp [hk]
 ·rename_i h; rw [if_neg (Ne.symm h)]
theorem zAt_set {l : List Int} {k j : Nat} {d : Int} (hk : k < l.length) : zAt (l.set k d) j = if j = k then d else zAt l j := by
 unfold zAt
 simp only [List.getD, List.getElem?_set]
 split
 ·rename_i h; subst h; simp [hk]
 ·rename_i h; rw [if_neg (Ne.symm h)]
structure FitA (mo : Mo) (st : Stt) : Prop where
 at' : st.at'.length = mo.procs.length
 vars : st.vars.length = mo.vars.length
 chans : st.chans.length = mo.chans.length
 pl : ∀ i, i < mo.procs.length -> nAt st.at' i < (pAt mo.procs i).places
 vr : ∀ i, i < mo.vars.length -> trimZ (zAt st.vars i) (vAt mo.vars i).width.toNat = zAt st.vars i
 cl : ∀ i, i < mo.chans.length -> ((cAt st.chans i).length : Int) <= (chAt mo.chans i).room
 cv : ∀ i, i < mo.chans.length -> ∀ n ∈ cAt st.chans i, trimZ n (chAt mo.chans i).width.toNat = n
 hold : -1 <= st.hold /\ st.hold < (mo.procs.length : Int)
theorem fitA_iff {mo : Mo} {st : Stt} : FitA mo st ↔ Fit mo st := by
 constructor
 ·rintro ⟨h1, h2, h3, h4, h5, h6, h7, h8⟩
  refine ⟨h1, h2, h3, fun i h h' => ?_, fun i h h' => ?_, fun i h h' => ?_, fun i h h' => ?_, h8⟩
  ·have := h4 i h'; rwa [nAt_get h, pAt_get h'] at this
  ·have := h5 i h'; rwa [zAt_get h, vAt_get h'] at this
  ·have := h6 i h'; rwa [cAt_get h, chAt_get h'] at this
  ·have := h7 i h'; rwa [cAt_get h, chAt_get h'] at this
 ·rintro ⟨h1, h2, h3, h4, h5, h6, h7, h8⟩
  refine ⟨h1, h2, h3, fun i h' => ?_, fun i h' => ?_, fun i h' => ?_, fun i h' => ?_, h8⟩
  ·have h : i < st.at'.length := by omega
   rw [nAt_get h, pAt_get h']; exact h4 i h h'
  ·have h : i < st.vars.length := by omega
   rw [zAt_get h, vAt_get h']; exact h5 i h h'
  ·have h : i < st.chans.length := by omega
   rw [cAt_get h, chAt_get h']; exact h6 i h h'
  ·have h : i < st.chans.length := by omega
   rw [cAt_get h, chAt_get h']; exact h7 i h h'
theorem fit_8 {mo : Mo} (hf : MoFi mo) {st : Stt} (h : Fit mo st) : St8 st := by
 have h := fitA_iff.2 h
 refine ⟨fun n hn => ?_, fun l hl => ?_⟩
 ·obtain ⟨i, hi, rfl⟩ := List.getElem_of_mem hn
  have hi' : i < mo.vars.length := by rw [<- h.vars]; exact hi
  have := h.vr i hi'
  rw [zAt_get hi] at this
  rw [<- this]
  have := hf.vr _ (vAt_mem hi')
  exact trim_small (by omega) (by omega)
 ·obtain ⟨i, hi, rfl⟩ := List.getElem_of_mem hl
  have hi' : i < mo.chans.length := by rw [<- h.chans]; exact hi
  have h1 := h.cl i hi'
  have h2 := h.cv i hi'
  rw [cAt_get hi] at h1 h2
  have h3 := hf.ch _ (chAt_mem hi')
  refine ⟨by omega, fun n hn => ?_⟩
  rw [<- h2 n hn]
  exact trim_small (by omega) (by omega)
theorem FitA.var {mo : Mo} (hf : MoFi mo) {st : Stt} (h : FitA mo st) {k : Nat} (hk : k < mo.vars.length) (n : Int) : FitA mo { st with vars := st.vars.set k (trimZ n (vAt mo.vars k).width.toNat) } := by
 refine ⟨h.at', by simp [h.vars], h.chans, h.pl, fun i hi => ?_, h.cl, h.cv, h.hold⟩
 rw [zAt_set (by rw [h.vars]; exact hk)]
 split
 ·rename_i e; subst e
  have := hf.vr _ (vAt_mem hk)
  exact trim_idem (by omega)
 ·exact h.vr i hi
theorem FitA.chan {mo : Mo} {st : Stt} (h : FitA mo st) {k : Nat} (hk : k < mo.chans.length) {l : List Int} (hl : (l.length : Int) <= (chAt mo.chans k).room) (hv : ∀ n ∈ l, trimZ n (chAt mo.chans k).width.toNat = n) : FitA mo { st with chans := st.chans.set k l } := by
 refine ⟨h.at', h.vars, by simp [h.chans], h.pl, h.vr, fun i hi => ?_, fun i hi => ?_, h.hold⟩
 ·simp only [cAt_set (by rw [h.chans]; exact hk)]
  split
  ·rename_i e; subst e; exact hl
  ·exact h.cl i hi
 ·simp only [cAt_set (by rw [h.chans]; exact hk)]
  split
  ·rename_i e; subst e; exact hv
  ·exact h.cv i hi
theorem FitA.go {mo : Mo} {st : Stt} (h : FitA mo st) {p to : Nat} (hp : p < mo.procs.length) (ht : to < (pAt mo.procs p).places) : FitA mo (st.go p to) := by
 refine ⟨by simp [Stt.go, h.at'], h.vars, h.chans, fun i hi => ?_, h.vr, h.cl, h.cv, h.hold⟩
 simp only [Stt.go, nAt_set (by rw [h.at']; exact hp)]
 split
 ·rename_i e; subst e; exact ht
 ·exact h.pl i hi
theorem FitA.hd {mo : Mo} {st : Stt} (h : FitA mo st) {z : Int} (hz : -1 <= z /\ z < (mo.procs.length : Int)) : FitA mo { st with hold := z } := ⟨h.at', h.vars, h.chans, h.pl, h.vr, h.cl, h.cv, hz⟩
theorem FitA.act {mo : Mo} (hf : MoFi mo) {st : Stt} (h : FitA mo st) {pl : Nat} {vs : List Nat} {e : Ed} (he : EdOk mo.tree mo.chans.length pl vs e) (hv : ∀ v ∈ vs, v < mo.vars.length) (h2 : e.act = 2 -> ((cAt st.chans e.chan.toNat).length : Int) < (chAt mo.chans e.chan.toNat).room) (n : Int) : FitA mo (mo.actS st e n) := by
 unfold Mo.actS
 split
 ·rename_i h1
  obtain ⟨k, hk, e1⟩ := he.v1 (.inl h1)
  rw [e1, Int.toNat_natCast]
  exact h.var hf (hv k hk) n
 split
 ·rename_i _ h1
  obtain ⟨k, e1, hk⟩ := he.c1 (.inl h1)
  have h2 := h2 h1
  rw [e1, Int.toNat_natCast] at *
  refine h.chan hk (by simp; omega) fun z hz => ?_
  rcases List.mem_append.1 hz with hz | hz
  ·exact h.cv k hk z hz
  ·simp only [List.mem_singleton] at hz
   subst hz
   have := hf.ch _ (chAt_mem hk)
   exact trim_idem (by omega)
 split
 ·rename_i _ _ h1
  obtain ⟨k, hk, e1⟩ := he.v1 (.inr h1)
  obtain ⟨q, e2, hq⟩ := he.c1 (.inr h1)
  rw [e1, e2, Int.toNat_natCast, Int.toNat_natCast]
  have h3 := h.var hf (hv k hk) (zAt (cAt st.chans q) 0)
  refine h3.chan hq ?_ fun z hz => ?_
  ·have := h.cl q hq
   rw [List.length_drop]; omega
  ·exact h.cv q hq z (List.mem_of_mem_drop hz)
 ·exact h
theorem edge_fit {mo : Mo} (ho : MoOk mo) (hf : MoFi mo) {st : Stt} (h : FitA mo st) {p : Nat} (hp : p < mo.procs.length) {e : Ed} (he : e ∈ (pAt mo.procs p).edges) (hcan : mo.can st p (pAt mo.procs p) e = true) : FitA mo (mo.edgeS st p (pAt mo.procs p) e) := by
 have hpo := ho.pr _ (pAt_mem hp)
 have heo := hpo.inv.ed e he
 unfold Mo.edgeS Stt.free
 refine FitA.hd ?_ ⟨by omega, by omega⟩
 refine (h.go hp heo.to).act hf heo hpo.var (fun h2 => ?_) _
 unfold Mo.can at hcan
 simp only [h2, if_true, Bool.and_eq_true, decide_eq_true_eq] at hcan
 exact hcan.2
theorem do_fit {mo : Mo} (ho : MoOk mo) (hf : MoFi mo) {st : Stt} (h : Fit mo st) {v : Mv} (hv : mo.mvOk st v) : Fit mo (mo.doS st v) := by
 have h := fitA_iff.2 h
 refine fitA_iff.1 ?_
 unfold Mo.doS
 rcases hv with ⟨hk, hp, he, hcan⟩ | ⟨hk, hc, hlen⟩ | ⟨hk, hc, hlen, hroom⟩
 ·rw [if_neg (by omega), if_neg (by omega)]
  unfold Mo.doE
  refine (edge_fit ho hf h hp (eAt_mem he) hcan).hd ?_
  split <;> constructor <;> omega
 ·rw [if_pos hk]
  refine h.chan hc ?_ fun z hz => h.cv _ hc z (List.mem_of_mem_drop hz)
  have := h.cl _ hc
  rw [List.length_drop]; omega
 ·rw [if_neg (by omega), if_pos hk]
  refine h.chan hc (by simp; omega) fun z hz => ?_
  rcases List.mem_append.1 hz with hz | hz
  ·exact h.cv _ hc z hz
  ·simp only [List.mem_singleton] at hz
   subst hz
   exact h.cv _ hc _ (zAt_mem hlen)
theorem rep_succ {α : Type} (n : Nat) (a : α) : List.replicate (n + 1) a = List.replicate n a ++ [a] := List.replicate_succ'
theorem rowsN_rep (n : Nat) : rowsN (List.replicate n 0) ++ [[.int .i64 0]] = rowsN (List.replicate (n + 1) 0) := by
 rw [rep_succ]; simp [rowsN]
theorem rowsZ_take {l : List Int} {i : Nat} (h : i < l.length) : rowsZ (l.take i) ++ [[.int .i64 (zAt l i)]] = rowsZ (l.take (i + 1)) := by
 rw [zAt_get h, List.take_add_one, List.getElem?_eq_getElem h]
 unfold rowsZ
 rw [List.map_append]; rfl
def Mo.vals (mo : Mo) : List Int := mo.vars.map Vr.value
theorem vals_at {mo : Mo} {i : Nat} (h : i < mo.vars.length) : zAt mo.vals i = (vAt mo.vars i).value := by
 rw [zAt_get (by simpa [Mo.vals] using h), vAt_get h]; simp [Mo.vals]
def nilRows (n : Nat) : List (List D) := List.replicate n [.nils]
theorem nilRows_len (n : Nat) : ∀ r ∈ nilRows n, r.length = 1 := fun r h => by rw [List.eq_of_mem_replicate h]; rfl
theorem nilRows_succ (n : Nat) : nilRows n ++ [[.nils]] = nilRows (n + 1) := (rep_succ n _).symm
theorem Hp.addW {s : Store} {W R : Hs} (h : Hp s W R) {id : Nat} {cs : List D} (hg : s.get id = some (.cells cs)) (h1 : ∀ w ∈ W, w.1 ≠ id) (h2 : ∀ r ∈ R, r.1 ≠ id) : Hp s ((id, cs) :: W) R := by
 refine ⟨?_, ?_, ?_, h.r⟩
 ·rw [List.map_cons, List.nodup_cons]
  refine ⟨fun hm => ?_, h.nd⟩
  obtain ⟨w, hw, e⟩ := List.mem_map.1 hm
  exact h1 w hw e
 ·intro w hw r hr
  rcases List.mem_cons.1 hw with rfl | hw
  ·exact (h2 r hr).symm
  ·exact h.ap w hw r hr
 ·intro w hw
  rcases List.mem_cons.1 hw with rfl | hw
  ·exact hg
  ·exact h.w w hw
theorem Hp.addR1 {s : Store} {W R : Hs} (h : Hp s W R) {id : Nat} {cs : List D} (hg : s.get id = some (.cells cs)) (h1 : ∀ w ∈ W, w.1 ≠ id) : Hp s W ((id, cs) :: R) := by
 refine ⟨h.nd, ?_, h.w, ?_⟩
 ·intro w hw r hr
  rcases List.mem_cons.1 hr with rfl | hr
  ·exact h1 w hw
  ·exact h.ap w hw r hr
 ·intro r hr
  rcases List.mem_cons.1 hr with rfl | hr
  ·exact hg
  ·exact h.r r hr
theorem Hp.ne {s : Store} {A B C R : Hs} {a b : Nat × List D} (h : Hp s (A ++ a :: (B ++ b :: C)) R) : a.1 ≠ b.1 := by
 have := h.nd
 rw [List.map_append, List.map_cons, List.map_append, List.map_cons, List.nodup_append, List.nodup_cons] at this
 exact fun e => this.2.1.1 (by simp [e])
theorem Hp.neAll {s : Store} {a : Nat × List D} {W R : Hs} (h : Hp s (a :: W) R) : ∀ w ∈ W, w.1 ≠ a.1 := by
 have := h.nd
 rw [List.map_cons, List.nodup_cons] at this
 exact fun w hw e => this.1 (by rw [<- e]; exact List.mem_map_of_mem hw)
theorem rp_arr {d : D} {rows : List (List D)} {E : Hs} (h : Rp d 1 rows E) (hn : 0 < rows.length) : ∃ a, d = .arr a 0 rows.length 1 /\ E = [(a, rows.flatten)] := by
 rcases h with ⟨_, rfl, _⟩ | ⟨a, h1, h2, _⟩
 ·simp at hn
 ·exact ⟨a, h1, h2⟩
theorem rp_mk {a : Nat} {rows : List (List D)} (hn : 0 < rows.length) : Rp (.arr a 0 rows.length 1) 1 rows [(a, rows.flatten)] := .inr ⟨a, rfl, rfl, fun e => by subst e; simp at hn⟩
theorem nilRows_flat (n : Nat) : (nilRows n).flatten = List.replicate n .nils := by
 induction n with
 | zero => rfl
 | succ n ih => rw [show nilRows (n + 1) = [.nils] :: nilRows n from rfl, List.flatten_cons, ih]; rfl
theorem Rp.chr {s : Store} {q : D} {l : List Int} {E : Hs} (h : Rp q 1 (rowsZ l) E) (he : Has s E) : ChR s q l := by
 rcases h with ⟨rfl, h2, _⟩ | ⟨id, h1, rfl, _⟩
 ·refine .inl ⟨rfl, ?_⟩
  cases l with
  | nil => rfl
  | cons a l => simp [rowsZ] at h2
 ·rw [rowsZ_length] at h1
  subst h1
  have := he (id, (rowsZ l).flatten) (by simp)
  rw [rowsZ_flat] at this
  exact chr_full this
theorem dAt_rep {n : Nat} {d : D} {j : Nat} (h : j < n) : dAt (List.replicate n d) j = d := by rw [dAt_get (by simpa using h), List.getElem_replicate]
theorem cAt_rep {n : Nat} {j : Nat} : cAt (List.replicate n []) j = [] := by
 unfold cAt
 simp only [List.getD, List.getElem?_replicate]
 split <;> rfl
end Go.V
namespace Go.Proofs.Ytlaeblilmppodaa
open Go.V
set_option maxRecDepth 100000
set_option maxHeartbeats 4000000
variable {m : MdX} {mo : Mo} {ps : List (Pr × PrD)} {x : StD} {st : Stt}
theorem part_ok {d : D} {raw : List Int} (hd : FI d raw) (hr : ∀ n ∈ raw, in64 n) {k n : Nat} (hn : 0 < n) (hn2 : n <= 1000000) (hk : k <= 1000000) : ∃ z : Nat, z < n /\ Eqc vfs 44 [d, .int .i64 (k : Int), .int .i64 (n : Int)] (.int .i64 (z : Int)) := by
 by_cases h0 : raw.length = 0
 ·refine ⟨0, hn, bc_of ?_⟩
  refine yiso (vf := vf44) rfl ?_
  unfold vf44; refine zF ?_
  exact zZ h0
 ·have hkm : (k : Int).tmod (raw.length : Int) = ((k % raw.length : Nat) : Int) := rfl
  have hkl : k % raw.length < raw.length := Nat.mod_lt _ (by omega)
  have hz := hr _ (zAt_mem hkl)
  have n0 : ¬ n = 0 := by omega
  have n1 : ¬ (n : Int) = 0 := by omega
  have n2 : ¬ (raw.length : Int) = 0 := by omega
  by_cases c : (zAt raw (k % raw.length)).tmod (n : Int) < 0
  ·have h1 : -(n : Int) < (zAt raw (k % raw.length)).tmod (n : Int) := Int.lt_tmod_of_pos _ (by omega)
   have e : (zAt raw (k % raw.length)).tmod (n : Int) + (n : Int) = (((zAt raw (k % raw.length)).tmod (n : Int) + (n : Int)).toNat : Int) := by omega
   refine ⟨((zAt raw (k % raw.length)).tmod (n : Int) + (n : Int)).toNat, by omega, bc_of ?_⟩
   refine yiso (vf := vf44) rfl ?_
   unfold vf44; refine zF ?_
   refine zY (aN h0 (aN n0 (aN n1 (aN n2 (aN hkm c))))) ?_
   exact e
  ·have h1 : (zAt raw (k % raw.length)).tmod (n : Int) < (n : Int) := Int.tmod_lt_of_pos _ (by omega)
   refine ⟨((zAt raw (k % raw.length)).tmod (n : Int)).toNat, by omega, bc_of ?_⟩
   refine yiso (vf := vf44) rfl ?_
   unfold vf44; refine zF ?_
   refine zY (aN h0 (aN n0 (aN n1 (aN n2 (aN hkm c))))) ?_
   omega
def FstM (mo : Mo) (s : Store) (n : Nat) (r : D) : Prop := ∃ dA dV dC EA EV EC, r = .agg [dA, dV, dC, .int .i64 (-1)] /\ Rp dA 1 (rowsN (List.replicate mo.procs.length 0)) EA /\ Rp dV 1 (rowsZ mo.vals) EV /\ Rp dC 1 (nilRows mo.chans.length) EC /\ Hp s (EA ++ EV ++ EC) [] /\ ∀ w ∈ EA ++ EV ++ EC, n <= w.1
theorem first_ok (hm : MoF m mo ps) (ho : MoOk mo) {s : Store} : EvP vfs 43 [.agg [m.dt, .int .i64 m.g, m.dc, m.dv, m.dp, m.ds, .bool m.b]] s fun r s' => FstM mo s' s.next r /\ Fr [] s s' := by
 have om := hm.ones
 have hmv := hm.v
 have hmc := hm.c
 have hnp := ho.np
 have hnv := ho.nv
 have hnc := ho.nc
 have hvl : mo.vals.length = mo.vars.length := by simp [Mo.vals]
 refine yevp (vf := vf43) rfl ?_
 unfold vf43; refine zF ?_
 refine zY om ?_
 have hp0 : Hp ((s.push (.cells [m.dt, .int .i64 m.g, m.dc, m.dv, m.dp, m.ds, .bool m.b])).push (.cells [.nils, .nils, .nils, .int .i64 0])) [(s.next + 1, [.nils, .nils, .nils, .int .i64 0])] [(s.next, [m.dt, .int .i64 m.g, m.dc, m.dv, m.dp, m.ds, .bool m.b])] := by
  have := Hp.pushW (s := s.push (.cells [m.dt, .int .i64 m.g, m.dc, m.dv, m.dp, m.ds, .bool m.b])) (W := []) (R := [(s.next, [m.dt, .int .i64 m.g, m.dc, m.dv, m.dp, m.ds, .bool m.b])]) ⟨List.nodup_nil, by simp, by simp [Has], by simp [Has, get_push_new]⟩ [.nils, .nils, .nils, .int .i64 0]
  simpa using this
 have hp1 := hp0.newW (.cells [.nils, .nils, .nils, .int .i64 0]) [.nils, .nils, .nils, .int .i64 (-1)]
 simp only [Store.next_push] at hp1
 have fr1 : Fr [] s ((((s.push (.cells [m.dt, .int .i64 m.g, m.dc, m.dv, m.dp, m.ds, .bool m.b])).push (.cells [.nils, .nils, .nils, .int .i64 0])).push (.cells [.nils, .nils, .nils, .int .i64 0])).set (s.next + 1 + 1) (some (.cells [.nils, .nils, .nils, .int .i64 (-1)]))) := (((Fr.push _).thenPush _).thenPush _).thenSet _ (.inr (by omega))
 generalize (((s.push (.cells [m.dt, .int .i64 m.g, m.dc, m.dv, m.dp, m.ds, .bool m.b])).push (.cells [.nils, .nils, .nils, .int .i64 0])).push (.cells [.nils, .nils, .nils, .int .i64 0])).set (s.next + 1 + 1) (some (.cells [.nils, .nils, .nils, .int .i64 (-1)])) = s1 at *
 generalize hp : s.next + 1 + 1 = p at *
 generalize hq : s.next + 1 = q at *
 refine wp_cut [0, 1, 2, 3, 5, 6, 24, 42] (fun f s' => ∃ dA EA, Rp dA 1 (rowsN (List.replicate mo.procs.length 0)) EA /\ Hp s' ((p, [dA, .nils, .nils, .int .i64 (-1)]) :: (q, [.nils, .nils, .nils, .int .i64 0]) :: EA) [(s.next, [m.dt, .int .i64 m.g, m.dc, m.dv, m.dp, m.ds, .bool m.b])] /\ (∀ w ∈ EA, s.next <= w.1) /\ Fr [] s s') ?_ ?_
 ·refine yw_up [0, 1, 2, 3, 5, 6, 24, 42] 0 mo.procs.length (fun i f s' => f 4 = .int .i64 (i : Int) /\ ∃ dA EA, Rp dA 1 (rowsN (List.replicate i 0)) EA /\ Hp s' ((p, [dA, .nils, .nils, .int .i64 (-1)]) :: (q, [.nils, .nils, .nils, .int .i64 0]) :: EA) [(s.next, [m.dt, .int .i64 m.g, m.dc, m.dv, m.dp, m.ds, .bool m.b])] /\ (∀ w ∈ EA, s.next <= w.1) /\ Fr [] s s') (.mk rfl) (by omega) ⟨rfl, .nils, [], .inl ⟨rfl, rfl, rfl⟩, hp1, by simp, fr1⟩ ?_
  rintro i f s2 hi ⟨hE, dA, EA, hr, hp2, hw, fr⟩
  have g0 := hp2.rh
  have gp := hp2.hd
  have o1 := hr.one
  have lp := get_lts gp
  by_cases ci : i < mo.procs.length
  ·refine zY (aN hE (aN ci (aN g0 (aN gp (aN om o1))))) ?_
   refine bm_app2 (A := [(p, [dA, .nils, .nils, .int .i64 (-1)]), (q, [.nils, .nils, .nils, .int .i64 0])]) (B := []) hr (by simpa using hp2) rfl (rowsN_len _) (by decide) (by simp; omega) ?_
   rintro s3 hr3 hp3 l3 u3
   have gp := hp3.hd
   refine zY (aN hE gp) ?_
   refine ⟨ci, _, _, by rw [<- rowsN_rep]; exact hr3, Hp.set (A := []) hp3 _, by simp; omega, ?_⟩
   have f3 : Fr [] s s3 := ⟨by have := fr.1; omega, fun j hj hn => by
    have := fr.1
    rw [u3 j (by omega) fun e he hc => by have := hw e he; omega, fr.2 j hj hn]⟩
   exact f3.thenSet _ (.inr (by omega))
  ·obtain rfl : i = mo.procs.length := by omega
   refine zY (aN hE (aN ci (aN g0 (aN gp (aN om o1))))) ?_
   exact ⟨_, _, hr, hp2, hw, fr⟩
 ·rintro f s2 ⟨dA, EA, hrA, hp2, hwA, fr2⟩
  refine zY0 ?_
  refine wp_cut [0, 1, 2, 3, 4, 6, 12, 42] (fun f s' => ∃ dV EV, Rp dV 1 (rowsZ mo.vals) EV /\ Hp s' ((p, [dA, dV, .nils, .int .i64 (-1)]) :: (q, [.nils, .nils, .nils, .int .i64 0]) :: (EA ++ EV)) [(s.next, [m.dt, .int .i64 m.g, m.dc, m.dv, m.dp, m.ds, .bool m.b])] /\ (∀ w ∈ EA ++ EV, s.next <= w.1) /\ Fr [] s s') ?_ ?_
  ·refine yw_up [0, 1, 2, 3, 4, 6, 12, 42] 0 mo.vars.length (fun i f s' => f 5 = .int .i64 (i : Int) /\ ∃ dV EV, Rp dV 1 (rowsZ (mo.vals.take i)) EV /\ Hp s' ((p, [dA, dV, .nils, .int .i64 (-1)]) :: (q, [.nils, .nils, .nils, .int .i64 0]) :: (EA ++ EV)) [(s.next, [m.dt, .int .i64 m.g, m.dc, m.dv, m.dp, m.ds, .bool m.b])] /\ (∀ w ∈ EA ++ EV, s.next <= w.1) /\ Fr [] s s') (.mk rfl) (by omega) ⟨rfl, .nils, [], .inl ⟨rfl, rfl, rfl⟩, by simpa using hp2, by simpa using hwA, fr2⟩ ?_
   rintro i f s2 hi ⟨hE, dV, EV, hr, hp2, hw, fr⟩
   have g0 := hp2.rh
   have gp := hp2.hd
   have o1 := hr.one
   have o2 := hrA.one
   have lp := get_lts gp
   by_cases ci : i < mo.vars.length
   ·refine zY (aN hE (aN ci (aN g0 (aN gp (aN om (aN o1 o2)))))) ?_
    refine bm_app2 (A := (p, [dA, dV, .nils, .int .i64 (-1)]) :: (q, [.nils, .nils, .nils, .int .i64 0]) :: EA) (B := []) hr (by simpa using hp2) rfl (rowsZ_len _) (by decide) (by simp; omega) ?_
    rintro s3 hr3 hp3 l3 u3
    have gp := hp3.hd
    refine zY (aN hE (aN gp o2)) ?_
    have f3 : Fr [] s s3 := ⟨by have := fr.1; omega, fun j hj hn => by
     have := fr.1
     rw [u3 j (by omega) fun e he hc => by have := hw e (by simp [he]); omega, fr.2 j hj hn]⟩
    refine ⟨ci, _, _, by rw [<- rowsZ_take (by omega), vals_at ci]; exact hr3, by simpa using Hp.set (A := []) hp3 _, ?_, f3.thenSet _ (.inr (by omega))⟩
    intro w hw1
    rcases List.mem_append.1 hw1 with h | h
    ·exact hw w (by simp [h])
    ·simp only [List.mem_singleton] at h; subst h; have := fr.1; simp only; omega
   ·obtain rfl : i = mo.vars.length := by omega
    refine zY (aN hE (aN ci (aN g0 (aN gp (aN om (aN o1 o2)))))) ?_
    rw [<- hvl, List.take_length] at hr
    exact ⟨_, _, hr, hp2, hw, fr⟩
  ·rintro f s2 ⟨dV, EV, hrV, hp2, hwV, fr2⟩
   refine zY0 ?_
   refine wp_cut [0, 1, 2, 3, 4, 5, 12, 24] (fun f s' => ∃ dC EC, Rp dC 1 (nilRows mo.chans.length) EC /\ Hp s' ((p, [dA, dV, dC, .int .i64 (-1)]) :: (q, [.nils, .nils, .nils, .int .i64 0]) :: (EA ++ EV ++ EC)) [(s.next, [m.dt, .int .i64 m.g, m.dc, m.dv, m.dp, m.ds, .bool m.b])] /\ (∀ w ∈ EA ++ EV ++ EC, s.next <= w.1) /\ Fr [] s s') ?_ ?_
   ·refine yw_up [0, 1, 2, 3, 4, 5, 12, 24] 0 mo.chans.length (fun i f s' => f 6 = .int .i64 (i : Int) /\ ∃ dC EC, Rp dC 1 (nilRows i) EC /\ Hp s' ((p, [dA, dV, dC, .int .i64 (-1)]) :: (q, [.nils, .nils, .nils, .int .i64 0]) :: (EA ++ EV ++ EC)) [(s.next, [m.dt, .int .i64 m.g, m.dc, m.dv, m.dp, m.ds, .bool m.b])] /\ (∀ w ∈ EA ++ EV ++ EC, s.next <= w.1) /\ Fr [] s s') (.mk rfl) (by omega) ⟨rfl, .nils, [], .inl ⟨rfl, rfl, rfl⟩, by simpa using hp2, by simpa using hwV, fr2⟩ ?_
    rintro i f s2 hi ⟨hE, dC, EC, hr, hp2, hw, fr⟩
    have g0 := hp2.rh
    have gp := hp2.hd
    have o1 := hr.one
    have o2 := hrA.one
    have o3 := hrV.one
    have lp := get_lts gp
    by_cases ci : i < mo.chans.length
    ·refine zY (aN hE (aN ci (aN g0 (aN gp (aN om (aN o1 (aN o2 o3))))))) ?_
     refine bm_app2 (A := (p, [dA, dV, dC, .int .i64 (-1)]) :: (q, [.nils, .nils, .nils, .int .i64 0]) :: (EA ++ EV)) (B := []) hr (by simpa using hp2) rfl (nilRows_len _) (by decide) (by simp [nilRows]; omega) ?_
     rintro s3 hr3 hp3 l3 u3
     have gp := hp3.hd
     refine zY (aN hE (aN gp (aN o2 o3))) ?_
     have f3 : Fr [] s s3 := ⟨by have := fr.1; omega, fun j hj hn => by
      have := fr.1
      rw [u3 j (by omega) fun e he hc => by have := hw e (by simp [he]); omega, fr.2 j hj hn]⟩
     refine ⟨ci, _, _, by rw [<- nilRows_succ]; exact hr3, by simpa using Hp.set (A := []) hp3 _, ?_, f3.thenSet _ (.inr (by omega))⟩
     intro w hw1
     rcases List.mem_append.1 hw1 with h | h
     ·exact hw w (List.mem_append_left _ h)
     ·simp only [List.mem_singleton] at h; subst h; have := fr.1; simp only; omega
    ·obtain rfl : i = mo.chans.length := by omega
     refine zY (aN hE (aN ci (aN g0 (aN gp (aN om (aN o1 (aN o2 o3))))))) ?_
     exact ⟨_, _, hr, hp2, hw, fr⟩
   ·rintro f s2 ⟨dC, EC, hrC, hp2, hwC, fr2⟩
    have gp := hp2.hd
    have gq := hp2.tl.hd
    have o1 := hrC.one
    have o2 := hrA.one
    have o3 := hrV.one
    have lq := get_lts gq
    have lp := get_lts gp
    refine zY (aN gp (aN gq (aN o1 (aN o2 o3)))) ?_
    refine rb_of ⟨⟨dA, dV, dC, EA, EV, EC, rfl, hrA, hrV, hrC, ?_, hwC⟩, fr2.thenSet _ (.inr (by omega))⟩
    exact (Hp.set (A := []) hp2.tl.rt _).tl
end Go.Proofs.Ytlaeblilmppodaa
namespace Go.Proofs.Ytlaeblilmppodaa
open Go.V
set_option maxRecDepth 100000
set_option maxHeartbeats 4000000
variable {m : MdX} {mo : Mo} {ps : List (Pr × PrD)} {x : StD} {st : Stt}
theorem trimw_bc' {x w : Int} (h1 : -4294967296 <= x) (h2 : x <= 4294967296) (h3 : 1 <= w) (h4 : w <= 8) : Eqc vfs 45 [.int .i64 x, .int .i64 w] (.int .i64 (trimZ x w.toNat)) := iso_bc (trim_iso (x := x) (n := w) (w := w.toNat) (by omega) ⟨by omega, by omega⟩) rfl
theorem held_ev (hm : MoF m mo ps) (ho : MoOk mo) (hf : MoFi mo) {d : D} {raw : List Int} (hd : FI d raw) (hraw : ∀ n ∈ raw, in64 n) : EvP vfs 16 [.agg [m.dt, .int .i64 m.g, m.dc, m.dv, m.dp, m.ds, .bool m.b], d] Store.empty fun r s => ∃ cs st, r = .agg cs /\ SttR s cs st /\ Fit mo st /\ st.hold = -1 := by
 have om := hm.ones
 have hmv := hm.v
 have hmc := hm.c
 have hnp := ho.np
 have hnv := ho.nv
 have hnc := ho.nc
 have pd := pz_i hd
 refine yevp (vf := vf16) rfl ?_
 unfold vf16; refine zF ?_
 refine zY om ?_
 refine xq_evp (first_ok hm ho) (by simp (disch := (first|exact Rf.mk rfl|with_reducible assumption|omega|((repeat (first|rw [nP]|rw [nS]|rw [nx_empty]))<;>omega)|decide)) only [go_sem, ↓reduceIte]) ?_
 rintro r s1 ⟨⟨dA, dV, dC, EA, EV, EC, rfl, hrA, hrV, hrC, hp, hw⟩, fr⟩
 have l1 := fr.1
 simp only [Store.next_push, nx_empty, Nat.reduceAdd] at l1 hw
 have g0 : s1.get 0 = some (.cells [m.dt, .int .i64 m.g, m.dc, m.dv, m.dp, m.ds, .bool m.b]) := by rw [fr.2 0 (by simp [nx_empty]) (by simp)]; simp (disch := (first|exact Rf.mk rfl|with_reducible assumption|omega|((repeat (first|rw [nP]|rw [nS]|rw [nx_empty]))<;>omega)|decide)) only [go_sem, ↓reduceIte]
 have g1 : s1.get 1 = some (.cells [.nils, .nils, .nils, .int .i64 0]) := by rw [fr.2 1 (by simp [nx_empty]) (by simp)]; simp (disch := (first|exact Rf.mk rfl|with_reducible assumption|omega|((repeat (first|rw [nP]|rw [nS]|rw [nx_empty]))<;>omega)|decide)) only [go_sem, ↓reduceIte]
 have hp1 := ((hp.addR1 g0 fun w h => by have := hw w h; omega).addW g1 (fun w h => by have := hw w h; omega) (by simp)).newW (.cells [.nils, .nils, .nils, .int .i64 0]) [dA, dV, dC, .int .i64 (-1)]
 have o1 := hrA.one
 have o2 := hrV.one
 have o3 := hrC.one
 refine zY (aN o1 (aN o2 o3)) ?_
 generalize hS : (s1.push (.cells [.nils, .nils, .nils, .int .i64 0])).set s1.next (some (.cells [dA, dV, dC, .int .i64 (-1)])) = s2 at *
 generalize s1.next = p at *
 clear hp hw g0 g1 hS fr
 refine wp_cut [0, 1, 2, 4, 5, 8, 9, 10, 11, 40, 63, 80] (fun f s' => f 6 = .int .i64 (mo.procs.length : Int) /\ ∃ A EA, A.length = mo.procs.length /\ (∀ j, j < mo.procs.length -> nAt A j < (pAt mo.procs j).places) /\ Rp dA 1 (rowsN A) EA /\ Hp s' ((p, [dA, dV, dC, .int .i64 (-1)]) :: (1, [.nils, .nils, .nils, .int .i64 0]) :: (EA ++ EV ++ EC)) [(0, [m.dt, .int .i64 m.g, m.dc, m.dv, m.dp, m.ds, .bool m.b])]) ?_ ?_
 ·refine yw_up [0, 1, 2, 4, 5, 8, 9, 10, 11, 40, 63, 80] 0 mo.procs.length (fun i f s' => f 7 = .int .i64 (i : Int) /\ f 6 = .int .i64 (i : Int) /\ ∃ A EA, A.length = mo.procs.length /\ (∀ j, j < mo.procs.length -> nAt A j < (pAt mo.procs j).places) /\ Rp dA 1 (rowsN A) EA /\ Hp s' ((p, [dA, dV, dC, .int .i64 (-1)]) :: (1, [.nils, .nils, .nils, .int .i64 0]) :: (EA ++ EV ++ EC)) [(0, [m.dt, .int .i64 m.g, m.dc, m.dv, m.dp, m.ds, .bool m.b])]) (.mk rfl) (by omega) ⟨rfl, rfl, _, EA, by simp, fun j hj => ?_, hrA, hp1⟩ ?_
  ·have := (ho.pr _ (pAt_mem hj)).inv.two
   rw [nAt_get (by simpa using hj), List.getElem_replicate]; omega
  rintro i f s3 hi ⟨hE7, hE6, A, EA, hA, hfit, hr, hp⟩
  have g0 := hp.rh
  have gp := hp.hd
  have lA := hr.len
  rw [rowsN_length, hA] at lA
  by_cases ci : i < mo.procs.length
  ·obtain ⟨a, e1, e2⟩ := rp_arr hr (by rw [rowsN_length]; omega)
   rw [rowsN_length, hA] at e1
   rw [rowsN_flat] at e2
   subst e2
   have ga := hp.tl.tl.hd
   have pa : p ≠ a := Hp.ne (A := []) (B := [(1, [.nils, .nils, .nils, .int .i64 0])]) (b := (a, cellsI A)) hp
   have hpl := (ho.pr _ (pAt_mem ci)).inv.two
   have hpl2 := (ho.pr _ (pAt_mem ci)).pl
   obtain ⟨z, hz, hzb⟩ := part_ok hd hraw (k := i) (n := (pAt mo.procs i).places) (by omega) (by omega) (by omega)
   have iA : i < A.length := by omega
   rw [e1] at gp hp hr o1 ⊢
   refine zY (aN hE7 (aN hE6 (aN ci (aN g0 (aN gp (aN om (aN o2 (aN o3 (aN ga (aN hzb iA)))))))))) ?_
   have hn0 : 0 < (rowsN (A.set i z)).length := by simp; omega
   have hrp := rp_mk (a := a) hn0
   rw [rowsN_length, List.length_set, hA, rowsN_flat] at hrp
   refine ⟨A.set i z, _, by simp [hA], fun j hj => ?_, hrp, Hp.set (A := [(p, _), (1, [.nils, .nils, .nils, .int .i64 0])]) hp (cellsI (A.set i z))⟩
   rw [nAt_set iA]
   split
   ·rename_i e; subst e; exact hz
   ·exact hfit j hj
  ·obtain rfl : i = mo.procs.length := by omega
   refine zY (aN hE7 (aN hE6 (aN ci (aN g0 (aN gp (aN om (aN o1 (aN o2 (aN o3 lA))))))))) ?_
   exact ⟨A, EA, hA, hfit, hr, hp⟩
 ·rintro f s3 ⟨hE6, A, EA, hA, hfit, hrA, hp⟩
  refine zY hE6 ?_
  refine wp_cut [0, 1, 2, 4, 5, 7, 9, 10, 11, 18, 63, 80] (fun f s' => f 6 = .int .i64 ((mo.procs.length + mo.vars.length : Nat) : Int) /\ ∃ V EV, V.length = mo.vars.length /\ (∀ j, j < mo.vars.length -> trimZ (zAt V j) (vAt mo.vars j).width.toNat = zAt V j) /\ Rp dV 1 (rowsZ V) EV /\ Hp s' ((p, [dA, dV, dC, .int .i64 (-1)]) :: (1, [.nils, .nils, .nils, .int .i64 0]) :: (EA ++ EV ++ EC)) [(0, [m.dt, .int .i64 m.g, m.dc, m.dv, m.dp, m.ds, .bool m.b])]) ?_ ?_
  ·refine yw_up [0, 1, 2, 4, 5, 7, 9, 10, 11, 18, 63, 80] 0 mo.vars.length (fun i f s' => f 8 = .int .i64 (i : Int) /\ f 6 = .int .i64 ((mo.procs.length + i : Nat) : Int) /\ ∃ V EV, V.length = mo.vars.length /\ (∀ j, j < mo.vars.length -> trimZ (zAt V j) (vAt mo.vars j).width.toNat = zAt V j) /\ Rp dV 1 (rowsZ V) EV /\ Hp s' ((p, [dA, dV, dC, .int .i64 (-1)]) :: (1, [.nils, .nils, .nils, .int .i64 0]) :: (EA ++ EV ++ EC)) [(0, [m.dt, .int .i64 m.g, m.dc, m.dv, m.dp, m.ds, .bool m.b])]) (.mk rfl) (by omega) ⟨rfl, rfl, mo.vals, EV, by simp [Mo.vals], fun j hj => ?_, hrV, hp⟩ ?_
   ·rw [vals_at hj]; exact (hf.vr _ (vAt_mem hj)).2.2
   clear hrV hp
   rintro i f s4 hi ⟨hE8, hE6, V, EV, hV, hfitV, hr, hp⟩
   have g0 := hp.rh
   have gp := hp.hd
   have lV := hr.len
   rw [rowsZ_length, hV] at lV
   by_cases ci : i < mo.vars.length
   ·obtain ⟨a, e1, e2⟩ := rp_arr hr (by rw [rowsZ_length]; omega)
    rw [rowsZ_length, hV] at e1
    rw [rowsZ_flat] at e2
    subst e2
    have hp' : Hp s4 ((p, [dA, dV, dC, .int .i64 (-1)]) :: ((1, [.nils, .nils, .nils, .int .i64 0]) :: EA) ++ (a, cellsZ V) :: EC) [(0, [m.dt, .int .i64 m.g, m.dc, m.dv, m.dp, m.ds, .bool m.b])] := by simpa using hp
    have ga := hp'.w (a, cellsZ V) (by simp)
    have pa : p ≠ a := Hp.ne (A := []) (B := (1, [.nils, .nils, .nils, .int .i64 0]) :: EA) (b := (a, cellsZ V)) hp'
    obtain ⟨z, hz, hzb⟩ := part_ok hd hraw (k := mo.procs.length + i) (n := 256) (by omega) (by omega) (by omega)
    have hzb : Eqc vfs 44 [d, .int .i64 ((mo.procs.length + i : Nat) : Int), .int .i64 256] (.int .i64 (z : Int)) := hzb
    have iV : i < V.length := by omega
    have hw := hf.vr _ (vAt_mem ci)
    have hwt := trimw_bc' (x := (z : Int)) (w := (vAt mo.vars i).width) (by omega) (by omega) hw.1 hw.2.1
    rw [e1] at gp hp hp' hr o2 ⊢
    refine zY (aN hE8 (aN hE6 (aN ci (aN g0 (aN gp (aN om (aN o1 (aN o3 (aN ga (aN hzb (aN iV hwt))))))))))) ?_
    have hn0 : 0 < (rowsZ (V.set i (trimZ (z : Int) (vAt mo.vars i).width.toNat))).length := by simp; omega
    have hrp := rp_mk (a := a) hn0
    rw [rowsZ_length, List.length_set, hV, rowsZ_flat] at hrp
    refine ⟨by rw [Nat.add_assoc], V.set i (trimZ (z : Int) (vAt mo.vars i).width.toNat), _, by simp [hV], fun j hj => ?_, hrp, ?_⟩
    ·rw [zAt_set iV]
     split
     ·rename_i e; subst e; exact trim_idem (by omega)
     ·exact hfitV j hj
    ·have := Hp.set (A := (p, [dA, .arr a 0 mo.vars.length 1, dC, .int .i64 (-1)]) :: (1, [.nils, .nils, .nils, .int .i64 0]) :: EA) (B := EC) hp' (cellsZ (V.set i (trimZ (z : Int) (vAt mo.vars i).width.toNat)))
     simpa using this
   ·obtain rfl : i = mo.vars.length := by omega
    refine zY (aN hE8 (aN hE6 (aN ci (aN g0 (aN gp (aN om (aN o1 (aN o2 (aN o3 lV))))))))) ?_
    exact ⟨V, EV, hV, hfitV, hr, hp⟩
  ·clear hrV hp
   rintro f s4 ⟨hE6, V, EV, hV, hfitV, hrV, hp⟩
   refine zY hE6 ?_
   refine wp_cut [0, 1, 2, 4, 5, 7, 8, 18, 40] (fun f s' => ∃ W st, Hp s' ((p, [dA, dV, dC, .int .i64 (-1)]) :: (1, [.nils, .nils, .nils, .int .i64 0]) :: W) [(0, [m.dt, .int .i64 m.g, m.dc, m.dv, m.dp, m.ds, .bool m.b])] /\ (∀ s, Has s W -> SttR s [dA, dV, dC, .int .i64 (-1)] st) /\ Fit mo st /\ st.hold = -1) ?_ ?_
   rotate_left
   ·rintro f s5 ⟨W, st, hp, hS, hF, hh⟩
    have gp := hp.hd
    have g1 := hp.tl.hd
    have l1 := get_lts g1
    refine zY (aN gp (aN g1 (aN o1 (aN o2 o3)))) ?_
    refine rb_of ⟨_, st, rfl, hS _ ?_, hF, hh⟩
    exact (Hp.set (A := []) hp.tl [dA, dV, dC, .int .i64 (-1)]).tl.w
   have hfit0 : ∀ L : List (List Int), L.length = mo.chans.length -> (∀ j, j < mo.chans.length -> ((cAt L j).length : Int) <= (chAt mo.chans j).room /\ ∀ n ∈ cAt L j, trimZ n (chAt mo.chans j).width.toNat = n) -> Fit mo ⟨A, V, L, -1⟩ := fun L hL h => fitA_iff.1 ⟨hA, hV, hL, hfit, hfitV, fun j hj => (h j hj).1, fun j hj => (h j hj).2, by simp only; omega⟩
   by_cases h0 : mo.chans.length = 0
   ·have g0 := hp.rh
    have gp := hp.hd
    have e1 : nilRows mo.chans.length = [] := by rw [h0]; rfl
    rw [e1] at hrC
    have lC := hrC.len
    refine yw_up [0, 1, 2, 4, 5, 7, 8, 18, 40] 0 0 (fun i f s' => f 9 = .int .i64 (i : Int) /\ s' = s4) (.mk rfl) (by omega) ⟨rfl, rfl⟩ ?_
    rintro i f s5 hi ⟨hE9, rfl⟩
    obtain rfl : i = 0 := by omega
    refine zY (aN hE9 (aN g0 (aN gp (aN om (aN o1 (aN o2 (aN o3 lC))))))) ?_
    refine ⟨EA ++ EV ++ EC, ⟨A, V, [], -1⟩, hp, fun s hs => ?_, hfit0 [] (by simp [h0]) fun j hj => by omega, rfl⟩
    exact SttR.mk (st := ⟨A, V, [], -1⟩) [] (hrA.sn fun e he => hs e (by simp [he])) (hrV.sn fun e he => hs e (by simp [he])) (hrC.sn fun e he => hs e (by simp [he])) (.inl rfl) rfl fun j hj => by simp at hj
   ·have lC := hrC.len
    obtain ⟨c, e1, e2⟩ := rp_arr hrC (by simp [nilRows]; omega)
    rw [nilRows_flat] at e2
    rw [show (nilRows mo.chans.length).length = mo.chans.length by simp [nilRows]] at e1 lC
    subst e2
    subst e1
    clear hrC lC
    refine yw_up [0, 1, 2, 4, 5, 7, 8, 18, 40] 0 mo.chans.length (fun i f s' => f 9 = .int .i64 (i : Int) /\ ∃ (k : Nat) (L : List (List Int)) (qs : List D) (ED : Hs), f 6 = .int .i64 (k : Int) /\ k <= 20 + 4 * i /\ L.length = mo.chans.length /\ qs.length = mo.chans.length /\ (∀ j, j < mo.chans.length -> i <= j -> dAt qs j = .nils /\ cAt L j = []) /\ (∀ j, j < mo.chans.length -> ∃ E, Rp (dAt qs j) 1 (rowsZ (cAt L j)) E /\ ∀ e ∈ E, e ∈ ED) /\ (∀ j, j < mo.chans.length -> ((cAt L j).length : Int) <= (chAt mo.chans j).room /\ ∀ n ∈ cAt L j, trimZ n (chAt mo.chans j).width.toNat = n) /\ Hp s' ((p, [dA, dV, .arr c 0 mo.chans.length 1, .int .i64 (-1)]) :: (1, [.nils, .nils, .nils, .int .i64 0]) :: (EA ++ EV ++ (c, qs) :: ED)) [(0, [m.dt, .int .i64 m.g, m.dc, m.dv, m.dp, m.ds, .bool m.b])]) (.mk rfl) (by omega) ⟨rfl, _, List.replicate mo.chans.length [], List.replicate mo.chans.length .nils, [], rfl, by omega, by simp, by simp, fun j hj _ => ⟨dAt_rep hj, cAt_rep⟩, fun j hj => ⟨[], by rw [dAt_rep hj, cAt_rep]; exact .inl ⟨rfl, rfl, rfl⟩, by simp⟩, fun j hj => by
     rw [cAt_rep]
     have := hf.ch _ (chAt_mem hj)
     exact ⟨by simp; omega, by simp⟩, hp⟩ ?_
    clear hp
    rintro i f s5 hi ⟨hE9, k, L, qs, ED, hE6, hk, hL, hq, hnil, hrp, hfl, hp⟩
    have g0 := hp.rh
    have gp := hp.hd
    have hp' : Hp s5 ((p, [dA, dV, .arr c 0 mo.chans.length 1, .int .i64 (-1)]) :: ((1, [.nils, .nils, .nils, .int .i64 0]) :: (EA ++ EV)) ++ (c, qs) :: ED) [(0, [m.dt, .int .i64 m.g, m.dc, m.dv, m.dp, m.ds, .bool m.b])] := by simpa using hp
    have gc := hp'.w (c, qs) (by simp)
    by_cases ci : i < mo.chans.length
    ·have hw := hf.ch _ (chAt_mem ci)
     have hro : ∃ r : Nat, (chAt mo.chans i).room = (r : Int) := ⟨(chAt mo.chans i).room.toNat, by omega⟩
     obtain ⟨r, hr⟩ := hro
     obtain ⟨z, hz, hzb⟩ := part_ok hd hraw (k := k) (n := r + 1) (by omega) (by omega) (by omega)
     obtain ⟨hn1, hn2⟩ := hnil i ci (Nat.le_refl _)
     refine zY (aN hE9 (aN hE6 (aN ci (aN g0 (aN gp (aN om (aN o1 (aN o2 (aN hr hzb))))))))) ?_
     have iq : i < qs.length := by omega
     have iL : i < L.length := by omega
     refine yw_up [0, 1, 2, 4, 5, 7, 8, 9, 10, 18, 40, 63] 0 z (fun j f s' => f 11 = .int .i64 (j : Int) /\ f 6 = .int .i64 ((k + 1 + j : Nat) : Int) /\ ∃ (l : List Int) (q : D) (E : Hs), l.length = j /\ (∀ n ∈ l, trimZ n (chAt mo.chans i).width.toNat = n) /\ Rp q 1 (rowsZ l) E /\ Hp s' ((p, [dA, dV, .arr c 0 mo.chans.length 1, .int .i64 (-1)]) :: (1, [.nils, .nils, .nils, .int .i64 0]) :: (EA ++ EV ++ (c, qs.set i q) :: (E ++ ED))) [(0, [m.dt, .int .i64 m.g, m.dc, m.dv, m.dp, m.ds, .bool m.b])]) (.mk rfl) (by omega) ⟨rfl, rfl, [], .nils, [], rfl, by simp, .inl ⟨rfl, rfl, rfl⟩, ?_⟩ ?_
     ·have e : qs.set i .nils = qs := by
       rw [<- hn1, dAt_get iq]; simp
      rw [e]; exact hp
     rintro j f s6 hj ⟨hE11, hE6, l, q, E, hl, htr, hr1, hp⟩
     clear hp' gc
     have g0 := hp.rh
     have gp := hp.hd
     have hp' : Hp s6 ((p, [dA, dV, .arr c 0 mo.chans.length 1, .int .i64 (-1)]) :: ((1, [.nils, .nils, .nils, .int .i64 0]) :: (EA ++ EV)) ++ (c, qs.set i q) :: (E ++ ED)) [(0, [m.dt, .int .i64 m.g, m.dc, m.dv, m.dp, m.ds, .bool m.b])] := by simpa using hp
     have gc := hp'.w (c, qs.set i q) (by simp)
     have pc : p ≠ c := Hp.ne (A := []) (B := (1, [.nils, .nils, .nils, .int .i64 0]) :: (EA ++ EV)) (b := (c, qs.set i q)) hp'
     have lp := get_lts gp
     have lc := get_lts gc
     have oq := hr1.one
     by_cases cj : j < z
     ·obtain ⟨y, hy, hyb⟩ := part_ok hd hraw (k := k + 1 + j) (n := 256) (by omega) (by omega) (by omega)
      have hyb : Eqc vfs 44 [d, .int .i64 ((k + 1 + j : Nat) : Int), .int .i64 256] (.int .i64 (y : Int)) := hyb
      have hwt := trimw_bc' (x := (y : Int)) (w := (chAt mo.chans i).width) (by omega) (by omega) hw.2.2.1 hw.2.2.2
      have iq2 : i < (qs.set i q).length := by simpa using iq
      have eq1 : (qs.set i q)[i]? = some q := by simp [iq]
      have eq2 : i + 1 <= qs.length := by omega
      have nE : ∀ w ∈ (1, [.nils, .nils, .nils, .int .i64 0]) :: (EA ++ EV) ++ (c, qs.set i q) :: (E ++ ED), w.1 ≠ p := Hp.neAll hp'
      have nEp : NotIn p (E.map Prod.fst) := Hp.notIn fun e he => nE e (by simp [he])
      have nEc : NotIn c (E.map Prod.fst) := Hp.notIn fun e he => by
       have h1 : Hp s6 ((c, qs.set i q) :: (E ++ ED)) [(0, [m.dt, .int .i64 m.g, m.dc, m.dv, m.dp, m.ds, .bool m.b])] := hp'.sub (List.sublist_append_right _ _) fun _ h => h
       exact h1.neAll e (by simp [he])
      refine zY (aN hE9 (aN hE11 (aN hE6 (aN ci (aN cj (aN g0 (aN gp (aN gc (aN om (aN o1 (aN o2 (aN oq (aN hq (aN eq1 (aN hyb hwt))))))))))))))) ?_
      have hp2 : Hp s6 (((p, [dA, dV, .arr c 0 mo.chans.length 1, .int .i64 (-1)]) :: (1, [.nils, .nils, .nils, .int .i64 0]) :: (EA ++ EV ++ [(c, qs.set i q)])) ++ E ++ ED) [(0, [m.dt, .int .i64 m.g, m.dc, m.dv, m.dp, m.ds, .bool m.b])] := by simpa using hp
      refine mx_app (E := E) hr1 hp2 rfl (rowsZ_len _) (by decide) (by simp; omega) (by simp (disch := (first|exact Rf.mk rfl|with_reducible assumption|omega|((repeat (first|rw [nP]|rw [nS]|rw [nx_empty]))<;>omega)|decide)) only [go_sem, ↓reduceIte, nEp, nEc]) ?_
      rintro s7 hr7 hp7 l7 u7
      have gp := hp7.hd
      have gc := hp7.w (c, qs.set i q) (by simp)
      simp (disch := (first|exact Rf.mk rfl|with_reducible assumption|omega|((repeat (first|rw [nP]|rw [nS]|rw [nx_empty]))<;>omega)|decide)) only [go_sem, ↓reduceIte, hE9, hE11, hE6, ci, cj, gp, gc, hq, List.length_set, tk_D, List.set_set]
      refine ⟨by rw [Nat.add_assoc], l ++ [trimZ (y : Int) (chAt mo.chans i).width.toNat], _, _, by simp [hl], fun n hn => ?_, by simpa [rowsZ] using hr7, ?_⟩
      ·rcases List.mem_append.1 hn with h | h
       ·exact htr n h
       ·simp only [List.mem_singleton] at h; subst h; exact trim_idem (by omega)
      ·have h7 : Hp s7 (((p, [dA, dV, .arr c 0 mo.chans.length 1, .int .i64 (-1)]) :: (1, [.nils, .nils, .nils, .int .i64 0]) :: (EA ++ EV)) ++ (c, qs.set i q) :: ((s6.next + 1, (rowsZ l ++ [[D.int IntKind.i64 (trimZ (y : Int) (chAt mo.chans i).width.toNat)]]).flatten) :: ED)) [(0, [m.dt, .int .i64 m.g, m.dc, m.dv, m.dp, m.ds, .bool m.b])] := by simpa using hp7
       have := h7.set (qs.set i (.arr (s6.next + 1) 0 (l.length + 1) 1))
       simpa [rowsZ] using this
     ·obtain rfl : j = z := by omega
      refine zY (aN hE9 (aN hE11 (aN hE6 (aN ci cj)))) ?_
      refine ⟨_, L.set i l, qs.set i q, E ++ ED, rfl, by omega, by simp [hL], by simp [hq], fun b hb hib => ?_, fun b hb => ?_, fun b hb => ?_, hp⟩
      ·rw [dAt_set iq, cAt_set iL, if_neg (by omega), if_neg (by omega)]
       exact hnil b hb (by omega)
      ·rw [dAt_set iq, cAt_set iL]
       by_cases hbi : b = i
       ·rw [if_pos hbi, if_pos hbi]
        exact ⟨E, hr1, fun e he => by simp [he]⟩
       ·rw [if_neg hbi, if_neg hbi]
        obtain ⟨E2, h1, h2⟩ := hrp b hb
        exact ⟨E2, h1, fun e he => by simp [h2 e he]⟩
      ·rw [cAt_set iL]
       by_cases hbi : b = i
       ·rw [if_pos hbi]
        subst hbi
        exact ⟨by omega, htr⟩
       ·rw [if_neg hbi]
        exact hfl b hb
    ·obtain rfl : i = mo.chans.length := by omega
     refine zY (aN hE9 (aN hE6 (aN ci (aN g0 (aN gp (aN om (aN o1 o2))))))) ?_
     refine ⟨EA ++ EV ++ (c, qs) :: ED, ⟨A, V, L, -1⟩, hp, fun s hs => ?_, hfit0 L hL hfl, rfl⟩
     refine SttR.mk (st := ⟨A, V, L, -1⟩) qs (hrA.sn fun e he => hs e (by simp [he])) (hrV.sn fun e he => hs e (by simp [he])) (.inr (.inl ⟨c, by simp [hq], ?_⟩)) (.inr ⟨c, by simp [hq]⟩) (by simp [hq, hL]) fun j hj => ?_
     ·rw [flat_one]; exact hs (c, qs) (by simp)
     ·obtain ⟨E, h1, h2⟩ := hrp j (by omega)
      exact h1.chr fun e he => hs e (by simp [h2 e he])
end Go.Proofs.Ytlaeblilmppodaa
namespace Go.Proofs.Ytlaeblilmppodaa
open Go.V
set_option maxRecDepth 100000
set_option maxHeartbeats 4000000
variable {m : MdX} {mo : Mo} {ps : List (Pr × PrD)} {x : StD} {st : Stt}
theorem iso_of_ev {f : Nat} {args : List D} {P : Stt -> Prop} (h : EvP vfs f args Store.empty fun r s => ∃ cs st, r = .agg cs /\ SttR s cs st /\ P st) : ∃ x st, IsoC vfs f args (.agg [x.da, x.dv, x.dc, .int .i64 st.hold]) /\ StF x st /\ P st := by
 obtain ⟨d, s', h1, cs, st, rfl, h2, h3⟩ := h
 obtain ⟨x, h4, h5⟩ := h2.frz
 exact ⟨x, st, ⟨_, _, h1, h4⟩, h5, h3⟩
theorem held_ok (hm : MoF m mo ps) (ho : MoOk mo) (hf : MoFi mo) {d : D} {raw : List Int} (hd : FI d raw) (hraw : ∀ n ∈ raw, in64 n) : ∃ x st, Eqc vfs 16 [.agg [m.dt, .int .i64 m.g, m.dc, m.dv, m.dp, m.ds, .bool m.b], d] (.agg [x.da, x.dv, x.dc, .int .i64 st.hold]) /\ StGood mo x st /\ st.hold = -1 := by
 obtain ⟨x, st, h1, h2, h3, h4⟩ := iso_of_ev (held_ev hm ho hf hd hraw)
 exact ⟨x, st, bc_of h1, ⟨h2, fit_8 hf h3, h3⟩, h4⟩
theorem ints_n {da db : D} {a b : List Nat} (ha : FL 1 da (rowsN a)) (hb : FL 1 db (rowsN b)) (hl : a.length <= 1000000) : Eqc vfs 49 [da, db] (.bool (decide (a = b))) := by
 have e : ∀ l : List Nat, rowsN l = (l.map fun (n : Nat) => (n : Int)).map fun n => [.int .i64 n] := fun l => by simp [rowsN]
 rw [e] at ha hb
 have h := ints_bc (a := a.map fun (n : Nat) => (n : Int)) (b := b.map fun (n : Nat) => (n : Int)) ha hb (by simpa using hl)
 have e2 : decide ((a.map fun (n : Nat) => (n : Int)) = b.map fun (n : Nat) => (n : Int)) = decide (a = b) := by
  congr 1
  apply propext
  constructor
  ·intro h
   exact List.map_inj_right (f := fun (n : Nat) => (n : Int)) (fun x y h => by omega) |>.1 h
  ·intro h; rw [h]
 rwa [e2] at h
theorem same_bc {x' : StD} {st' : Stt} (hx : StF x st) (hx' : StF x' st') (h1 : st.at'.length <= 1000) (h2 : st.vars.length <= 1000) (h3 : ∀ l ∈ st.chans, l.length <= 1000) (h4 : st.chans.length <= 1000) : Eqc vfs 22 [.agg [x.da, x.dv, x.dc, .int .i64 st.hold], .agg [x'.da, x'.dv, x'.dc, .int .i64 st'.hold]] (.bool (decide (st = st'))) := by
 refine bc_of ?_
 have ox := hx.ones
 have ox' := hx'.ones
 have p1 := hx.a.pz
 have p2 := hx'.a.pz
 have p3 := pz_i hx.v
 have p4 := pz_i hx'.v
 have i1 := ints_n hx.a hx'.a (by omega)
 have i2 := ints_bc hx.v hx'.v (by omega)
 refine yiso (vf := vf22) rfl ?_
 unfold vf22; refine zF ?_
 refine zY (aN ox (aN ox' (aN i1 i2))) ?_
 repeat' (first|(refine cw_sp (fun c => ?_) (fun c => ?_) <;> (try simp only [cnd_1, cnd_2, cnd_3, cnd_4] at c) <;> simp (disch := (first|exact Rf.mk rfl|with_reducible assumption|omega|((repeat (first|rw [nP]|rw [nS]|rw [nx_empty]))<;>omega)|decide)) only [go_sem, ↓reduceIte, ox, ox', i1, i2, c])|(refine gw_sp (fun c => ?_) (fun c => ?_) <;> (try simp only [cnd_1, cnd_2, cnd_3, cnd_4] at c) <;> simp (disch := (first|exact Rf.mk rfl|with_reducible assumption|omega|((repeat (first|rw [nP]|rw [nS]|rw [nx_empty]))<;>omega)|decide)) only [go_sem, ↓reduceIte, ox, ox', i1, i2, c]))
 ·exact (decide_eq_false fun h => c (by rw [h])).symm
 ·exact (decide_eq_false fun h => c (by rw [h])).symm
 ·exact (decide_eq_false fun h => c (by rw [h])).symm
 ·exact (decide_eq_false fun h => c (by rw [h])).symm
 rename_i ca cv cl
 refine yw_up [0, 1, 2, 3, 35] 0 st.chans.length (fun i f s => f 5 = .int .i64 (i : Int) /\ s = ((Store.empty.push (.cells [x.da, x.dv, x.dc, .int .i64 st'.hold])).push (.cells [x'.da, x'.dv, x'.dc, .int .i64 st'.hold])) /\ ∀ j, j < i -> cAt st.chans j = cAt st'.chans j) (.mk rfl) (by omega) ⟨rfl, rfl, fun j h => by omega⟩ ?_
 rintro i f s hi ⟨hE, rfl, hj⟩
 by_cases ci : i < st.chans.length
 ·have ci' : i < st'.chans.length := by omega
  have q1 := pz_i (st_cf hx ci)
  have q2 := pz_i (st_cf hx' ci')
  have i3 := ints_bc (st_cf hx ci) (st_cf hx' ci') (by have := h3 _ (cAt_mem ci); omega)
  refine zY (aN ox (aN ox' (aN hE (aN ci (aN ci' (aN i3 (aN q1 q2))))))) ?_
  repeat' (first|(refine cw_sp (fun c => ?_) (fun c => ?_) <;> (try simp only [cnd_1, cnd_2, cnd_3, cnd_4] at c) <;> simp (disch := (first|exact Rf.mk rfl|with_reducible assumption|omega|((repeat (first|rw [nP]|rw [nS]|rw [nx_empty]))<;>omega)|decide)) only [go_sem, ↓reduceIte, ox, ox', hE, ci, ci', i3, q1, q2, c])|(refine gw_sp (fun c => ?_) (fun c => ?_) <;> (try simp only [cnd_1, cnd_2, cnd_3, cnd_4] at c) <;> simp (disch := (first|exact Rf.mk rfl|with_reducible assumption|omega|((repeat (first|rw [nP]|rw [nS]|rw [nx_empty]))<;>omega)|decide)) only [go_sem, ↓reduceIte, ox, ox', hE, ci, ci', i3, q1, q2, c]))
  ·exact (decide_eq_false fun h => c (by rw [h])).symm
  ·intro j hj'
   by_cases e : j = i
   ·subst e; exact c
   ·exact hj j (by omega)
 ·have e : i = st.chans.length := by omega
  have hl : ¬ i < st.chans.length := by omega
  refine zY (aN ox (aN ox' (aN hE hl))) ?_
  symm
  rw [decide_eq_true_eq]
  have e1 : st.chans = st'.chans := List.ext_getElem cl fun j h1 h2 => by
   rw [<- cAt_get h1, <- cAt_get h2]; exact hj j (by omega)
  cases st; cases st'; simp_all
end Go.Proofs.Ytlaeblilmppodaa
namespace Go.Proofs.Ytlaeblilmppodaa
open Go.V
set_option maxRecDepth 100000
set_option maxHeartbeats 4000000
variable {m : MdX} {mo : Mo} {ps : List (Pr × PrD)} {x : StD} {st : Stt}
theorem trimw_bc {x w : Int} (h1 : -4294967296 <= x) (h2 : x <= 4294967296) (h3 : 1 <= w) (h4 : w <= 8) : Eqc vfs 45 [.int .i64 x, .int .i64 w] (.int .i64 (trimZ x w.toNat)) := iso_bc (trim_iso (x := x) (n := w) (w := w.toNat) (by omega) ⟨by omega, by omega⟩) rfl
theorem do_ok (hm : MoF m mo ps) (ho : MoOk mo) (hf : MoFi mo) (hx : StGood mo x st) {v : Mv} (hv : mo.mvOk st v) : EvP vfs 18 [.agg [m.dt, .int .i64 m.g, m.dc, m.dv, m.dp, m.ds, .bool m.b], .agg [x.da, x.dv, x.dc, .int .i64 st.hold], .agg [.int .i64 (v.kind : Int), .int .i64 (v.proc : Int), .int .i64 (v.edge : Int), .int .i64 (v.chan : Int)]] Store.empty fun r s => ∃ cs, r = .agg cs /\ SttR s cs (mo.doS st v) := by
 have om := hm.ones
 have ox := hx.f.ones
 have fm := pz_mo hm
 have fx := pz_st hx.f
 have hcl := hx.fit.chans
 have hvl := hx.fit.vars
 have hal := hx.fit.at'
 have hnc := ho.nc
 have hnv := ho.nv
 have hnp := ho.np
 refine yevp (vf := vf18) rfl ?_
 unfold vf18; refine zF ?_
 refine zY (aN om ox) ?_
 refine xq_evp (clone_ok hx.f (by omega) hx.e (by omega) (by omega)) (by simp (disch := (first|exact Rf.mk rfl|with_reducible assumption|omega|((repeat (first|rw [nP]|rw [nS]|rw [nx_empty]))<;>omega)|decide)) only [go_sem, ↓reduceIte]) ?_
 rintro r s1 ⟨hm1, fr⟩
 obtain ⟨a, vv, dC, ids, rfl, H⟩ := hm1.open
 have l1 := fr.1
 simp only [Store.next_push, nx_empty, Nat.reduceAdd] at H l1
 have g0 : s1.get 0 = some (.cells [m.dt, .int .i64 m.g, m.dc, m.dv, m.dp, m.ds, .bool m.b]) := by rw [fr.2 0 (by simp [nx_empty]) (by simp)]; simp (disch := (first|exact Rf.mk rfl|with_reducible assumption|omega|((repeat (first|rw [nP]|rw [nS]|rw [nx_empty]))<;>omega)|decide)) only [go_sem, ↓reduceIte]
 have g1 : s1.get 1 = some (.cells [x.da, x.dv, x.dc, .int .i64 st.hold]) := by rw [fr.2 1 (by simp [nx_empty]) (by simp)]; simp (disch := (first|exact Rf.mk rfl|with_reducible assumption|omega|((repeat (first|rw [nP]|rw [nS]|rw [nx_empty]))<;>omega)|decide)) only [go_sem, ↓reduceIte]
 have g2 : s1.get 2 = some (.cells [.int .i64 (v.kind : Int), .int .i64 (v.proc : Int), .int .i64 (v.edge : Int), .int .i64 (v.chan : Int)]) := by rw [fr.2 2 (by simp [nx_empty]) (by simp)]; simp (disch := (first|exact Rf.mk rfl|with_reducible assumption|omega|((repeat (first|rw [nP]|rw [nS]|rw [nx_empty]))<;>omega)|decide)) only [go_sem, ↓reduceIte]
 have g3 : s1.get 3 = some (.cells [.nils, .nils, .nils, .int .i64 0]) := by rw [fr.2 3 (by simp [nx_empty]) (by simp)]; simp (disch := (first|exact Rf.mk rfl|with_reducible assumption|omega|((repeat (first|rw [nP]|rw [nS]|rw [nx_empty]))<;>omega)|decide)) only [go_sem, ↓reduceIte]
 clear fr hm1
 have H' := H
 obtain ⟨hil, ga, gv, gc, gq, inj, av, na, nv⟩ := H'
 have oc : oneCell dC = true := by rcases gc with ⟨_, rfl⟩ | ⟨c, rfl, _⟩ <;> rfl
 have la := get_lts ga
 have lv := get_lts gv
 rcases hv with ⟨hk, hp, he, hcan⟩ | ⟨hk, hc, hlen⟩ | ⟨hk, hc, hlen, hroom⟩
 ·have hpo := ho.pr _ (pAt_mem hp)
  have heo := hpo.inv.ed _ (eAt_mem he)
  have hel := hpo.el
  have hpa : v.proc < st.at'.length := by omega
  have hfit := edge_fit ho hf (fitA_iff.2 hx.fit) hp (eAt_mem he) hcan
  have e : mo.doS st v = mo.doE st v.proc (pAt mo.procs v.proc) (eAt (pAt mo.procs v.proc).edges v.edge) := by unfold Mo.doS; rw [if_neg (by omega), if_neg (by omega)]
  rw [e]
  unfold Mo.doE
  generalize hE : eAt (pAt mo.procs v.proc).edges v.edge = E at *
  have h6 : E.act = 0 ∨ E.act = 1 ∨ E.act = 2 ∨ E.act = 3 ∨ E.act = 4 ∨ E.act = 5 := by have := heo.act; omega
  have h6' : E.act = 0 ∨ E.act = 1 ∨ E.act = 2 ∨ (E.act = 3 /\ ∃ k : Nat, E.chan = (k : Int) /\ 1 < (cAt st.chans k).length) ∨ (E.act = 3 /\ ∃ k : Nat, E.chan = (k : Int) /\ ¬ 1 < (cAt st.chans k).length) ∨ E.act = 4 ∨ E.act = 5 := by
   by_cases h3 : E.act = 3
   ·obtain ⟨k, hk1, _⟩ := heo.c1 (by omega)
    by_cases l2 : 1 < (cAt st.chans k).length
    ·exact .inr (.inr (.inr (.inl ⟨h3, k, hk1, l2⟩)))
    ·exact .inr (.inr (.inr (.inr (.inl ⟨h3, k, hk1, l2⟩))))
   ·omega
  clear h6
  rcases h6' with h6 | h6 | h6 | ⟨h6, k', hk', l2⟩ | ⟨h6, k', hk', l2⟩ | h6 | h6
  ·have hex := heo.ex0 (by omega)
   have e2 : mo.edgeS st v.proc (pAt mo.procs v.proc) E = ⟨(st.at'.set v.proc E.to), st.vars, st.chans, -1⟩ := by unfold Mo.edgeS Mo.actS; rw [if_neg (by omega), if_neg (by omega), if_neg (by omega)]; rfl
   refine zY (aN g0 (aN g1 (aN g2 (aN g3 (aN ga (aN gv (aN hk (aN hp (aN he (aN hpa (aN hE (aN h6 (aN om (aN ox (aN oc hex))))))))))))))) ?_
   refine gw_sp (fun c => ?_) (fun c => ?_)
   ·refine zY (aN g0 (aN g2 (aN hk (aN om c)))) ?_
    refine bl_st (H.same (A := (st.at'.set v.proc E.to)) (V := st.vars) (hd := -1) (by simp) (by simp) (by simp (disch := (first|exact Rf.mk rfl|with_reducible assumption|omega|((repeat (first|rw [nP]|rw [nS]|rw [nx_empty]))<;>omega)|decide)) only [go_sem, ↓reduceIte, ga]) (by simp (disch := (first|exact Rf.mk rfl|with_reducible assumption|omega|((repeat (first|rw [nP]|rw [nS]|rw [nx_empty]))<;>omega)|decide)) only [go_sem, ↓reduceIte, gv]) (fun j h1 h2 h3 h4 => by simp (disch := (first|exact Rf.mk rfl|with_reducible assumption|omega|((repeat (first|rw [nP]|rw [nS]|rw [nx_empty]))<;>omega)|decide)) only [go_sem, ↓reduceIte])) pz_int ?_
    intro x' hx'
    rw [e2] at hfit
    have hsb := some_bc hm ho (x := x') ⟨hx', fit_8 hf (fitA_iff.1 hfit), fitA_iff.1 hfit⟩ hp
    refine zY hsb ?_
    refine cw_sp (fun c2 => ?_) (fun c2 => ?_)
    ·refine zY (aN g2 (aN g3 (aN oc hk))) ?_
     refine rb_of ⟨_, rfl, ?_⟩
     simp only [e2, c2, Bool.and_self, if_true]
     exact H.same (A := (st.at'.set v.proc E.to)) (V := st.vars) (hd := (v.proc : Int)) (by simp) (by simp) (by simp (disch := (first|exact Rf.mk rfl|with_reducible assumption|omega|((repeat (first|rw [nP]|rw [nS]|rw [nx_empty]))<;>omega)|decide)) only [go_sem, ↓reduceIte, ga]) (by simp (disch := (first|exact Rf.mk rfl|with_reducible assumption|omega|((repeat (first|rw [nP]|rw [nS]|rw [nx_empty]))<;>omega)|decide)) only [go_sem, ↓reduceIte, gv]) (fun j h1 h2 h3 h4 => by simp (disch := (first|exact Rf.mk rfl|with_reducible assumption|omega|((repeat (first|rw [nP]|rw [nS]|rw [nx_empty]))<;>omega)|decide)) only [go_sem, ↓reduceIte])
    ·refine zY (aN g2 (aN g3 (aN oc hk))) ?_
     refine rb_of ⟨_, rfl, ?_⟩
     simp only [e2, c2, Bool.and_false, Bool.false_eq_true, if_false]
     exact H.same (A := (st.at'.set v.proc E.to)) (V := st.vars) (hd := -1) (by simp) (by simp) (by simp (disch := (first|exact Rf.mk rfl|with_reducible assumption|omega|((repeat (first|rw [nP]|rw [nS]|rw [nx_empty]))<;>omega)|decide)) only [go_sem, ↓reduceIte, ga]) (by simp (disch := (first|exact Rf.mk rfl|with_reducible assumption|omega|((repeat (first|rw [nP]|rw [nS]|rw [nx_empty]))<;>omega)|decide)) only [go_sem, ↓reduceIte, gv]) (fun j h1 h2 h3 h4 => by simp (disch := (first|exact Rf.mk rfl|with_reducible assumption|omega|((repeat (first|rw [nP]|rw [nS]|rw [nx_empty]))<;>omega)|decide)) only [go_sem, ↓reduceIte])
   ·refine zY (aN g0 (aN g2 (aN g3 (aN hk (aN om (aN oc c)))))) ?_
    refine rb_of ⟨_, rfl, ?_⟩
    simp only [e2, Bool.false_and, Bool.false_eq_true, if_false]
    exact H.same (A := (st.at'.set v.proc E.to)) (V := st.vars) (hd := -1) (by simp) (by simp) (by simp (disch := (first|exact Rf.mk rfl|with_reducible assumption|omega|((repeat (first|rw [nP]|rw [nS]|rw [nx_empty]))<;>omega)|decide)) only [go_sem, ↓reduceIte, ga]) (by simp (disch := (first|exact Rf.mk rfl|with_reducible assumption|omega|((repeat (first|rw [nP]|rw [nS]|rw [nx_empty]))<;>omega)|decide)) only [go_sem, ↓reduceIte, gv]) (fun j h1 h2 h3 h4 => by simp (disch := (first|exact Rf.mk rfl|with_reducible assumption|omega|((repeat (first|rw [nP]|rw [nS]|rw [nx_empty]))<;>omega)|decide)) only [go_sem, ↓reduceIte])
  ·obtain ⟨n, hn1, hn2, hn3⟩ := heo.ex1 (by omega)
   have hval := valP hm ho hx hp hn2 hn3
   have hxn : (mo.ex (pAt mo.procs v.proc) st E 0).1 = (mo.val (lookP (pAt mo.procs v.proc)) st n).1 := by unfold Mo.ex; rw [hn1]; simp
   have h8n := val8 hx.e (t := mo.tree) (ch := mo.ch) (look := lookP (pAt mo.procs v.proc)) (mo.tree.length + 1) n
   have hb : -128 <= (mo.val (lookP (pAt mo.procs v.proc)) st n).1 /\ (mo.val (lookP (pAt mo.procs v.proc)) st n).1 <= 127 := h8n
   obtain ⟨q, hq0, hq1⟩ := heo.v1 (by omega)
   have hq := hpo.var q hq0
   have hq' : q < st.vars.length := by omega
   have hmv := hm.v
   have hw := hf.vr _ (vAt_mem hq)
   have hwt := fun z (h1 : -4294967296 <= z) h2 => trimw_bc (x := z) h1 h2 hw.1 hw.2.1
   have e2 : mo.edgeS st v.proc (pAt mo.procs v.proc) E = ⟨(st.at'.set v.proc E.to), (st.vars.set q (trimZ (mo.val (lookP (pAt mo.procs v.proc)) st n).1 (vAt mo.vars q).width.toNat)), st.chans, -1⟩ := by unfold Mo.edgeS Mo.actS; rw [if_pos h6, hq1, hxn, Int.toNat_natCast]; rfl
   refine zY (aN g0 (aN g1 (aN g2 (aN g3 (aN ga (aN gv (aN hk (aN hp (aN he (aN hpa (aN hE (aN h6 (aN om (aN ox (aN oc (aN hn1 (aN hval (aN hq1 (aN hq (aN hq' hwt)))))))))))))))))))) ?_
   refine gw_sp (fun c => ?_) (fun c => ?_)
   ·refine zY (aN g0 (aN g2 (aN hk (aN om c)))) ?_
    refine bl_st (H.same (A := (st.at'.set v.proc E.to)) (V := (st.vars.set q (trimZ (mo.val (lookP (pAt mo.procs v.proc)) st n).1 (vAt mo.vars q).width.toNat))) (hd := -1) (by simp) (by simp) (by simp (disch := (first|exact Rf.mk rfl|with_reducible assumption|omega|((repeat (first|rw [nP]|rw [nS]|rw [nx_empty]))<;>omega)|decide)) only [go_sem, ↓reduceIte, ga]) (by simp (disch := (first|exact Rf.mk rfl|with_reducible assumption|omega|((repeat (first|rw [nP]|rw [nS]|rw [nx_empty]))<;>omega)|decide)) only [go_sem, ↓reduceIte, gv]) (fun j h1 h2 h3 h4 => by simp (disch := (first|exact Rf.mk rfl|with_reducible assumption|omega|((repeat (first|rw [nP]|rw [nS]|rw [nx_empty]))<;>omega)|decide)) only [go_sem, ↓reduceIte])) pz_int ?_
    intro x' hx'
    rw [e2] at hfit
    have hsb := some_bc hm ho (x := x') ⟨hx', fit_8 hf (fitA_iff.1 hfit), fitA_iff.1 hfit⟩ hp
    refine zY hsb ?_
    refine cw_sp (fun c2 => ?_) (fun c2 => ?_)
    ·refine zY (aN g2 (aN g3 (aN oc hk))) ?_
     refine rb_of ⟨_, rfl, ?_⟩
     simp only [e2, c2, Bool.and_self, if_true]
     exact H.same (A := (st.at'.set v.proc E.to)) (V := (st.vars.set q (trimZ (mo.val (lookP (pAt mo.procs v.proc)) st n).1 (vAt mo.vars q).width.toNat))) (hd := (v.proc : Int)) (by simp) (by simp) (by simp (disch := (first|exact Rf.mk rfl|with_reducible assumption|omega|((repeat (first|rw [nP]|rw [nS]|rw [nx_empty]))<;>omega)|decide)) only [go_sem, ↓reduceIte, ga]) (by simp (disch := (first|exact Rf.mk rfl|with_reducible assumption|omega|((repeat (first|rw [nP]|rw [nS]|rw [nx_empty]))<;>omega)|decide)) only [go_sem, ↓reduceIte, gv]) (fun j h1 h2 h3 h4 => by simp (disch := (first|exact Rf.mk rfl|with_reducible assumption|omega|((repeat (first|rw [nP]|rw [nS]|rw [nx_empty]))<;>omega)|decide)) only [go_sem, ↓reduceIte])
    ·refine zY (aN g2 (aN g3 (aN oc hk))) ?_
     refine rb_of ⟨_, rfl, ?_⟩
     simp only [e2, c2, Bool.and_false, Bool.false_eq_true, if_false]
     exact H.same (A := (st.at'.set v.proc E.to)) (V := (st.vars.set q (trimZ (mo.val (lookP (pAt mo.procs v.proc)) st n).1 (vAt mo.vars q).width.toNat))) (hd := -1) (by simp) (by simp) (by simp (disch := (first|exact Rf.mk rfl|with_reducible assumption|omega|((repeat (first|rw [nP]|rw [nS]|rw [nx_empty]))<;>omega)|decide)) only [go_sem, ↓reduceIte, ga]) (by simp (disch := (first|exact Rf.mk rfl|with_reducible assumption|omega|((repeat (first|rw [nP]|rw [nS]|rw [nx_empty]))<;>omega)|decide)) only [go_sem, ↓reduceIte, gv]) (fun j h1 h2 h3 h4 => by simp (disch := (first|exact Rf.mk rfl|with_reducible assumption|omega|((repeat (first|rw [nP]|rw [nS]|rw [nx_empty]))<;>omega)|decide)) only [go_sem, ↓reduceIte])
   ·refine zY (aN g0 (aN g2 (aN g3 (aN hk (aN om (aN oc c)))))) ?_
    refine rb_of ⟨_, rfl, ?_⟩
    simp only [e2, Bool.false_and, Bool.false_eq_true, if_false]
    exact H.same (A := (st.at'.set v.proc E.to)) (V := (st.vars.set q (trimZ (mo.val (lookP (pAt mo.procs v.proc)) st n).1 (vAt mo.vars q).width.toNat))) (hd := -1) (by simp) (by simp) (by simp (disch := (first|exact Rf.mk rfl|with_reducible assumption|omega|((repeat (first|rw [nP]|rw [nS]|rw [nx_empty]))<;>omega)|decide)) only [go_sem, ↓reduceIte, ga]) (by simp (disch := (first|exact Rf.mk rfl|with_reducible assumption|omega|((repeat (first|rw [nP]|rw [nS]|rw [nx_empty]))<;>omega)|decide)) only [go_sem, ↓reduceIte, gv]) (fun j h1 h2 h3 h4 => by simp (disch := (first|exact Rf.mk rfl|with_reducible assumption|omega|((repeat (first|rw [nP]|rw [nS]|rw [nx_empty]))<;>omega)|decide)) only [go_sem, ↓reduceIte])
  ·obtain ⟨n, hn1, hn2, hn3⟩ := heo.ex1 (by omega)
   have hval := valP hm ho hx hp hn2 hn3
   have hxn : (mo.ex (pAt mo.procs v.proc) st E 0).1 = (mo.val (lookP (pAt mo.procs v.proc)) st n).1 := by unfold Mo.ex; rw [hn1]; simp
   have h8n := val8 hx.e (t := mo.tree) (ch := mo.ch) (look := lookP (pAt mo.procs v.proc)) (mo.tree.length + 1) n
   have hb : -128 <= (mo.val (lookP (pAt mo.procs v.proc)) st n).1 /\ (mo.val (lookP (pAt mo.procs v.proc)) st n).1 <= 127 := h8n
   obtain ⟨k, hk1, hkc⟩ := heo.c1 (by omega)
   rcases gc with ⟨h1, _⟩ | ⟨c, rfl, gc, nc, ca, cv, cq⟩
   ·rw [h1] at hcl; simp at hcl; omega
   have hmc := hm.c
   have hc' : k < st.chans.length := by omega
   obtain ⟨gk, nk, ka, kv⟩ := gq k hc'
   have kc := cq k hc'
   have lc := get_lts gc
   have lk := get_lts gk
   have hwc := hf.ch _ (chAt_mem hkc)
   have hroom : ((cAt st.chans k).length : Int) < (chAt mo.chans k).room := by unfold Mo.can at hcan; simp only [h6, hk1, Int.toNat_natCast, Bool.and_eq_true, decide_eq_true_eq] at hcan; simpa using hcan.2
   have hwt := fun z (h1 : -4294967296 <= z) h2 => trimw_bc (x := z) h1 h2 hwc.2.2.1 hwc.2.2.2
   have e2 : mo.edgeS st v.proc (pAt mo.procs v.proc) E = ⟨(st.at'.set v.proc E.to), st.vars, (st.chans.set k (cAt st.chans k ++ [trimZ (mo.val (lookP (pAt mo.procs v.proc)) st n).1 (chAt mo.chans k).width.toNat])), -1⟩ := by unfold Mo.edgeS Mo.actS; rw [if_neg (by omega), if_pos h6, hk1, hxn, Int.toNat_natCast]; rfl
   refine zY (aN g0 (aN g1 (aN g2 (aN g3 (aN ga (aN gv (aN hk (aN hp (aN he (aN hpa (aN hE (aN h6 (aN om (aN ox (aN oc (aN hn1 (aN hval (aN hk1 (aN hc' (aN hkc (aN hil (aN gc (aN gk hwt))))))))))))))))))))))) ?_
   refine mx_arr (cs := cellsZ (cAt st.chans k)) (x := .int .i64 (trimZ (mo.val (lookP (pAt mo.procs v.proc)) st n).1 (chAt mo.chans k).width.toNat)) (by simp (disch := (first|exact Rf.mk rfl|with_reducible assumption|omega|((repeat (first|rw [nP]|rw [nS]|rw [nx_empty]))<;>omega)|decide)) only [go_sem, ↓reduceIte, gk]) (by simp) (by simp (disch := (first|exact Rf.mk rfl|with_reducible assumption|omega|((repeat (first|rw [nP]|rw [nS]|rw [nx_empty]))<;>omega)|decide)) only [go_sem, ↓reduceIte]) (by decide) (by omega) (by simp (disch := (first|exact Rf.mk rfl|with_reducible assumption|omega|((repeat (first|rw [nP]|rw [nS]|rw [nx_empty]))<;>omega)|decide)) only [go_sem, ↓reduceIte]) ?_
   refine zY (aN g0 (aN g1 (aN g2 (aN g3 (aN ga (aN gv (aN hk (aN hk1 (aN om (aN ox (aN oc (aN gc (aN hc' hil))))))))))))) ?_
   refine gw_sp (fun c => ?_) (fun c => ?_)
   ·refine zY (aN g0 (aN g2 (aN hk (aN om c)))) ?_
    refine bl_st (H.chan (A := (st.at'.set v.proc E.to)) (V := st.vars) (hd := -1) (d := (.arr (s1.next + 1 + 1 + 1) 0 ((cAt st.chans k).length + 1) 1)) hc' (by simp) (by simp) (by simp (disch := (first|exact Rf.mk rfl|with_reducible assumption|omega|((repeat (first|rw [nP]|rw [nS]|rw [nx_empty]))<;>omega)|decide)) only [go_sem, ↓reduceIte, ga]) (by simp (disch := (first|exact Rf.mk rfl|with_reducible assumption|omega|((repeat (first|rw [nP]|rw [nS]|rw [nx_empty]))<;>omega)|decide)) only [go_sem, ↓reduceIte, gv]) (by simp (disch := (first|exact Rf.mk rfl|with_reducible assumption|omega|((repeat (first|rw [nP]|rw [nS]|rw [nx_empty]))<;>omega)|decide)) only [go_sem, ↓reduceIte, gc]) (by rw [show (cAt st.chans k).length + 1 = (cAt st.chans k ++ [trimZ (mo.val (lookP (pAt mo.procs v.proc)) st n).1 (chAt mo.chans k).width.toNat]).length by simp]; exact chr_full (by simp (disch := (first|exact Rf.mk rfl|with_reducible assumption|omega|((repeat (first|rw [nP]|rw [nS]|rw [nx_empty]))<;>omega)|decide)) only [go_sem, ↓reduceIte]; simp [cellsZ])) (fun j hj hjk => by obtain ⟨gj, nj, ja, jv⟩ := gq j hj; have jc := cq j hj; have lj := get_lts gj; have jk : nAt ids j ≠ nAt ids k := fun e => hjk (inj _ _ hj hc' e); simp (disch := (first|exact Rf.mk rfl|with_reducible assumption|omega|((repeat (first|rw [nP]|rw [nS]|rw [nx_empty]))<;>omega)|decide)) only [go_sem, ↓reduceIte, gj])) pz_int ?_
    intro x' hx'
    rw [e2] at hfit
    have hsb := some_bc hm ho (x := x') ⟨hx', fit_8 hf (fitA_iff.1 hfit), fitA_iff.1 hfit⟩ hp
    refine zY hsb ?_
    refine cw_sp (fun c2 => ?_) (fun c2 => ?_)
    ·refine zY (aN g2 (aN g3 (aN oc hk))) ?_
     refine rb_of ⟨_, rfl, ?_⟩
     simp only [e2, c2, Bool.and_self, if_true]
     exact H.chan (A := (st.at'.set v.proc E.to)) (V := st.vars) (hd := (v.proc : Int)) (d := (.arr (s1.next + 1 + 1 + 1) 0 ((cAt st.chans k).length + 1) 1)) hc' (by simp) (by simp) (by simp (disch := (first|exact Rf.mk rfl|with_reducible assumption|omega|((repeat (first|rw [nP]|rw [nS]|rw [nx_empty]))<;>omega)|decide)) only [go_sem, ↓reduceIte, ga]) (by simp (disch := (first|exact Rf.mk rfl|with_reducible assumption|omega|((repeat (first|rw [nP]|rw [nS]|rw [nx_empty]))<;>omega)|decide)) only [go_sem, ↓reduceIte, gv]) (by simp (disch := (first|exact Rf.mk rfl|with_reducible assumption|omega|((repeat (first|rw [nP]|rw [nS]|rw [nx_empty]))<;>omega)|decide)) only [go_sem, ↓reduceIte, gc]) (by rw [show (cAt st.chans k).length + 1 = (cAt st.chans k ++ [trimZ (mo.val (lookP (pAt mo.procs v.proc)) st n).1 (chAt mo.chans k).width.toNat]).length by simp]; exact chr_full (by simp (disch := (first|exact Rf.mk rfl|with_reducible assumption|omega|((repeat (first|rw [nP]|rw [nS]|rw [nx_empty]))<;>omega)|decide)) only [go_sem, ↓reduceIte]; simp [cellsZ])) (fun j hj hjk => by obtain ⟨gj, nj, ja, jv⟩ := gq j hj; have jc := cq j hj; have lj := get_lts gj; have jk : nAt ids j ≠ nAt ids k := fun e => hjk (inj _ _ hj hc' e); simp (disch := (first|exact Rf.mk rfl|with_reducible assumption|omega|((repeat (first|rw [nP]|rw [nS]|rw [nx_empty]))<;>omega)|decide)) only [go_sem, ↓reduceIte, gj])
    ·refine zY (aN g2 (aN g3 (aN oc hk))) ?_
     refine rb_of ⟨_, rfl, ?_⟩
     simp only [e2, c2, Bool.and_false, Bool.false_eq_true, if_false]
     exact H.chan (A := (st.at'.set v.proc E.to)) (V := st.vars) (hd := -1) (d := (.arr (s1.next + 1 + 1 + 1) 0 ((cAt st.chans k).length + 1) 1)) hc' (by simp) (by simp) (by simp (disch := (first|exact Rf.mk rfl|with_reducible assumption|omega|((repeat (first|rw [nP]|rw [nS]|rw [nx_empty]))<;>omega)|decide)) only [go_sem, ↓reduceIte, ga]) (by simp (disch := (first|exact Rf.mk rfl|with_reducible assumption|omega|((repeat (first|rw [nP]|rw [nS]|rw [nx_empty]))<;>omega)|decide)) only [go_sem, ↓reduceIte, gv]) (by simp (disch := (first|exact Rf.mk rfl|with_reducible assumption|omega|((repeat (first|rw [nP]|rw [nS]|rw [nx_empty]))<;>omega)|decide)) only [go_sem, ↓reduceIte, gc]) (by rw [show (cAt st.chans k).length + 1 = (cAt st.chans k ++ [trimZ (mo.val (lookP (pAt mo.procs v.proc)) st n).1 (chAt mo.chans k).width.toNat]).length by simp]; exact chr_full (by simp (disch := (first|exact Rf.mk rfl|with_reducible assumption|omega|((repeat (first|rw [nP]|rw [nS]|rw [nx_empty]))<;>omega)|decide)) only [go_sem, ↓reduceIte]; simp [cellsZ])) (fun j hj hjk => by obtain ⟨gj, nj, ja, jv⟩ := gq j hj; have jc := cq j hj; have lj := get_lts gj; have jk : nAt ids j ≠ nAt ids k := fun e => hjk (inj _ _ hj hc' e); simp (disch := (first|exact Rf.mk rfl|with_reducible assumption|omega|((repeat (first|rw [nP]|rw [nS]|rw [nx_empty]))<;>omega)|decide)) only [go_sem, ↓reduceIte, gj])
   ·refine zY (aN g0 (aN g2 (aN g3 (aN hk (aN om (aN oc c)))))) ?_
    refine rb_of ⟨_, rfl, ?_⟩
    simp only [e2, Bool.false_and, Bool.false_eq_true, if_false]
    exact H.chan (A := (st.at'.set v.proc E.to)) (V := st.vars) (hd := -1) (d := (.arr (s1.next + 1 + 1 + 1) 0 ((cAt st.chans k).length + 1) 1)) hc' (by simp) (by simp) (by simp (disch := (first|exact Rf.mk rfl|with_reducible assumption|omega|((repeat (first|rw [nP]|rw [nS]|rw [nx_empty]))<;>omega)|decide)) only [go_sem, ↓reduceIte, ga]) (by simp (disch := (first|exact Rf.mk rfl|with_reducible assumption|omega|((repeat (first|rw [nP]|rw [nS]|rw [nx_empty]))<;>omega)|decide)) only [go_sem, ↓reduceIte, gv]) (by simp (disch := (first|exact Rf.mk rfl|with_reducible assumption|omega|((repeat (first|rw [nP]|rw [nS]|rw [nx_empty]))<;>omega)|decide)) only [go_sem, ↓reduceIte, gc]) (by rw [show (cAt st.chans k).length + 1 = (cAt st.chans k ++ [trimZ (mo.val (lookP (pAt mo.procs v.proc)) st n).1 (chAt mo.chans k).width.toNat]).length by simp]; exact chr_full (by simp (disch := (first|exact Rf.mk rfl|with_reducible assumption|omega|((repeat (first|rw [nP]|rw [nS]|rw [nx_empty]))<;>omega)|decide)) only [go_sem, ↓reduceIte]; simp [cellsZ])) (fun j hj hjk => by obtain ⟨gj, nj, ja, jv⟩ := gq j hj; have jc := cq j hj; have lj := get_lts gj; have jk : nAt ids j ≠ nAt ids k := fun e => hjk (inj _ _ hj hc' e); simp (disch := (first|exact Rf.mk rfl|with_reducible assumption|omega|((repeat (first|rw [nP]|rw [nS]|rw [nx_empty]))<;>omega)|decide)) only [go_sem, ↓reduceIte, gj])
  ·have hex := heo.ex0 (by omega)
   obtain ⟨q, hq0, hq1⟩ := heo.v1 (by omega)
   have hq := hpo.var q hq0
   have hq' : q < st.vars.length := by omega
   have hmv := hm.v
   have hw := hf.vr _ (vAt_mem hq)
   have hwt := fun z (h1 : -4294967296 <= z) h2 => trimw_bc (x := z) h1 h2 hw.1 hw.2.1
   obtain ⟨k, hk1, hkc⟩ := heo.c1 (by omega)
   rcases gc with ⟨h1, _⟩ | ⟨c, rfl, gc, nc, ca, cv, cq⟩
   ·rw [h1] at hcl; simp at hcl; omega
   have hmc := hm.c
   have hc' : k < st.chans.length := by omega
   obtain ⟨gk, nk, ka, kv⟩ := gq k hc'
   have kc := cq k hc'
   have lc := get_lts gc
   have lk := get_lts gk
   have hwc := hf.ch _ (chAt_mem hkc)
   have hlen : 0 < (cAt st.chans k).length := by unfold Mo.can at hcan; simp only [h6, hk1, Int.toNat_natCast, Bool.and_eq_true, decide_eq_true_eq] at hcan; simpa using hcan.2
   have hcv := (hx.e.c _ (cAt_mem hc')).2 _ (zAt_mem hlen)
   have hcv' : -128 <= zAt (cAt st.chans k) 0 /\ zAt (cAt st.chans k) 0 <= 127 := hcv
   have l2 : 1 < (cAt st.chans k).length := (show k' = k by omega) ▸ l2
   have e2 : mo.edgeS st v.proc (pAt mo.procs v.proc) E = ⟨(st.at'.set v.proc E.to), (st.vars.set q (trimZ (zAt (cAt st.chans k) 0) (vAt mo.vars q).width.toNat)), (st.chans.set k ((cAt st.chans k).drop 1)), -1⟩ := by unfold Mo.edgeS Mo.actS; rw [if_neg (by omega), if_neg (by omega), if_pos h6, hq1, hk1, Int.toNat_natCast, Int.toNat_natCast]; rfl
   refine zY (aN g0 (aN g1 (aN g2 (aN g3 (aN ga (aN gv (aN hk (aN hp (aN he (aN hpa (aN hE (aN h6 (aN om (aN ox (aN oc (aN hex (aN hq1 (aN hq (aN hq' (aN hwt (aN hk1 (aN hc' (aN hkc (aN hil (aN gc (aN gk (aN hlen l2))))))))))))))))))))))))))) ?_
   refine gw_sp (fun c => ?_) (fun c => ?_)
   ·refine zY (aN g0 (aN g2 (aN hk (aN om c)))) ?_
    refine bl_st (H.chan (A := (st.at'.set v.proc E.to)) (V := (st.vars.set q (trimZ (zAt (cAt st.chans k) 0) (vAt mo.vars q).width.toNat))) (hd := -1) (d := (.arr (nAt ids k) 1 ((cAt st.chans k).length - 1) 1)) hc' (by simp) (by simp) (by simp (disch := (first|exact Rf.mk rfl|with_reducible assumption|omega|((repeat (first|rw [nP]|rw [nS]|rw [nx_empty]))<;>omega)|decide)) only [go_sem, ↓reduceIte, ga]) (by simp (disch := (first|exact Rf.mk rfl|with_reducible assumption|omega|((repeat (first|rw [nP]|rw [nS]|rw [nx_empty]))<;>omega)|decide)) only [go_sem, ↓reduceIte, gv]) (by simp (disch := (first|exact Rf.mk rfl|with_reducible assumption|omega|((repeat (first|rw [nP]|rw [nS]|rw [nx_empty]))<;>omega)|decide)) only [go_sem, ↓reduceIte, gc]) (chr_drop (by simp (disch := (first|exact Rf.mk rfl|with_reducible assumption|omega|((repeat (first|rw [nP]|rw [nS]|rw [nx_empty]))<;>omega)|decide)) only [go_sem, ↓reduceIte, gk]) l2) (fun j hj hjk => by obtain ⟨gj, nj, ja, jv⟩ := gq j hj; have jc := cq j hj; have lj := get_lts gj; have jk : nAt ids j ≠ nAt ids k := fun e => hjk (inj _ _ hj hc' e); simp (disch := (first|exact Rf.mk rfl|with_reducible assumption|omega|((repeat (first|rw [nP]|rw [nS]|rw [nx_empty]))<;>omega)|decide)) only [go_sem, ↓reduceIte, gj])) pz_int ?_
    intro x' hx'
    rw [e2] at hfit
    have hsb := some_bc hm ho (x := x') ⟨hx', fit_8 hf (fitA_iff.1 hfit), fitA_iff.1 hfit⟩ hp
    refine zY hsb ?_
    refine cw_sp (fun c2 => ?_) (fun c2 => ?_)
    ·refine zY (aN g2 (aN g3 (aN oc hk))) ?_
     refine rb_of ⟨_, rfl, ?_⟩
     simp only [e2, c2, Bool.and_self, if_true]
     exact H.chan (A := (st.at'.set v.proc E.to)) (V := (st.vars.set q (trimZ (zAt (cAt st.chans k) 0) (vAt mo.vars q).width.toNat))) (hd := (v.proc : Int)) (d := (.arr (nAt ids k) 1 ((cAt st.chans k).length - 1) 1)) hc' (by simp) (by simp) (by simp (disch := (first|exact Rf.mk rfl|with_reducible assumption|omega|((repeat (first|rw [nP]|rw [nS]|rw [nx_empty]))<;>omega)|decide)) only [go_sem, ↓reduceIte, ga]) (by simp (disch := (first|exact Rf.mk rfl|with_reducible assumption|omega|((repeat (first|rw [nP]|rw [nS]|rw [nx_empty]))<;>omega)|decide)) only [go_sem, ↓reduceIte, gv]) (by simp (disch := (first|exact Rf.mk rfl|with_reducible assumption|omega|((repeat (first|rw [nP]|rw [nS]|rw [nx_empty]))<;>omega)|decide)) only [go_sem, ↓reduceIte, gc]) (chr_drop (by simp (disch := (first|exact Rf.mk rfl|with_reducible assumption|omega|((repeat (first|rw [nP]|rw [nS]|rw [nx_empty]))<;>omega)|decide)) only [go_sem, ↓reduceIte, gk]) l2) (fun j hj hjk => by obtain ⟨gj, nj, ja, jv⟩ := gq j hj; have jc := cq j hj; have lj := get_lts gj; have jk : nAt ids j ≠ nAt ids k := fun e => hjk (inj _ _ hj hc' e); simp (disch := (first|exact Rf.mk rfl|with_reducible assumption|omega|((repeat (first|rw [nP]|rw [nS]|rw [nx_empty]))<;>omega)|decide)) only [go_sem, ↓reduceIte, gj])
    ·refine zY (aN g2 (aN g3 (aN oc hk))) ?_
     refine rb_of ⟨_, rfl, ?_⟩
     simp only [e2, c2, Bool.and_false, Bool.false_eq_true, if_false]
     exact H.chan (A := (st.at'.set v.proc E.to)) (V := (st.vars.set q (trimZ (zAt (cAt st.chans k) 0) (vAt mo.vars q).width.toNat))) (hd := -1) (d := (.arr (nAt ids k) 1 ((cAt st.chans k).length - 1) 1)) hc' (by simp) (by simp) (by simp (disch := (first|exact Rf.mk rfl|with_reducible assumption|omega|((repeat (first|rw [nP]|rw [nS]|rw [nx_empty]))<;>omega)|decide)) only [go_sem, ↓reduceIte, ga]) (by simp (disch := (first|exact Rf.mk rfl|with_reducible assumption|omega|((repeat (first|rw [nP]|rw [nS]|rw [nx_empty]))<;>omega)|decide)) only [go_sem, ↓reduceIte, gv]) (by simp (disch := (first|exact Rf.mk rfl|with_reducible assumption|omega|((repeat (first|rw [nP]|rw [nS]|rw [nx_empty]))<;>omega)|decide)) only [go_sem, ↓reduceIte, gc]) (chr_drop (by simp (disch := (first|exact Rf.mk rfl|with_reducible assumption|omega|((repeat (first|rw [nP]|rw [nS]|rw [nx_empty]))<;>omega)|decide)) only [go_sem, ↓reduceIte, gk]) l2) (fun j hj hjk => by obtain ⟨gj, nj, ja, jv⟩ := gq j hj; have jc := cq j hj; have lj := get_lts gj; have jk : nAt ids j ≠ nAt ids k := fun e => hjk (inj _ _ hj hc' e); simp (disch := (first|exact Rf.mk rfl|with_reducible assumption|omega|((repeat (first|rw [nP]|rw [nS]|rw [nx_empty]))<;>omega)|decide)) only [go_sem, ↓reduceIte, gj])
   ·refine zY (aN g0 (aN g2 (aN g3 (aN hk (aN om (aN oc c)))))) ?_
    refine rb_of ⟨_, rfl, ?_⟩
    simp only [e2, Bool.false_and, Bool.false_eq_true, if_false]
    exact H.chan (A := (st.at'.set v.proc E.to)) (V := (st.vars.set q (trimZ (zAt (cAt st.chans k) 0) (vAt mo.vars q).width.toNat))) (hd := -1) (d := (.arr (nAt ids k) 1 ((cAt st.chans k).length - 1) 1)) hc' (by simp) (by simp) (by simp (disch := (first|exact Rf.mk rfl|with_reducible assumption|omega|((repeat (first|rw [nP]|rw [nS]|rw [nx_empty]))<;>omega)|decide)) only [go_sem, ↓reduceIte, ga]) (by simp (disch := (first|exact Rf.mk rfl|with_reducible assumption|omega|((repeat (first|rw [nP]|rw [nS]|rw [nx_empty]))<;>omega)|decide)) only [go_sem, ↓reduceIte, gv]) (by simp (disch := (first|exact Rf.mk rfl|with_reducible assumption|omega|((repeat (first|rw [nP]|rw [nS]|rw [nx_empty]))<;>omega)|decide)) only [go_sem, ↓reduceIte, gc]) (chr_drop (by simp (disch := (first|exact Rf.mk rfl|with_reducible assumption|omega|((repeat (first|rw [nP]|rw [nS]|rw [nx_empty]))<;>omega)|decide)) only [go_sem, ↓reduceIte, gk]) l2) (fun j hj hjk => by obtain ⟨gj, nj, ja, jv⟩ := gq j hj; have jc := cq j hj; have lj := get_lts gj; have jk : nAt ids j ≠ nAt ids k := fun e => hjk (inj _ _ hj hc' e); simp (disch := (first|exact Rf.mk rfl|with_reducible assumption|omega|((repeat (first|rw [nP]|rw [nS]|rw [nx_empty]))<;>omega)|decide)) only [go_sem, ↓reduceIte, gj])
  ·have hex := heo.ex0 (by omega)
   obtain ⟨q, hq0, hq1⟩ := heo.v1 (by omega)
   have hq := hpo.var q hq0
   have hq' : q < st.vars.length := by omega
   have hmv := hm.v
   have hw := hf.vr _ (vAt_mem hq)
   have hwt := fun z (h1 : -4294967296 <= z) h2 => trimw_bc (x := z) h1 h2 hw.1 hw.2.1
   obtain ⟨k, hk1, hkc⟩ := heo.c1 (by omega)
   rcases gc with ⟨h1, _⟩ | ⟨c, rfl, gc, nc, ca, cv, cq⟩
   ·rw [h1] at hcl; simp at hcl; omega
   have hmc := hm.c
   have hc' : k < st.chans.length := by omega
   obtain ⟨gk, nk, ka, kv⟩ := gq k hc'
   have kc := cq k hc'
   have lc := get_lts gc
   have lk := get_lts gk
   have hwc := hf.ch _ (chAt_mem hkc)
   have hlen : 0 < (cAt st.chans k).length := by unfold Mo.can at hcan; simp only [h6, hk1, Int.toNat_natCast, Bool.and_eq_true, decide_eq_true_eq] at hcan; simpa using hcan.2
   have hcv := (hx.e.c _ (cAt_mem hc')).2 _ (zAt_mem hlen)
   have hcv' : -128 <= zAt (cAt st.chans k) 0 /\ zAt (cAt st.chans k) 0 <= 127 := hcv
   have l2 : ¬ 1 < (cAt st.chans k).length := (show k' = k by omega) ▸ l2
   have l3 : (cAt st.chans k).length = 1 := by omega
   have e2 : mo.edgeS st v.proc (pAt mo.procs v.proc) E = ⟨(st.at'.set v.proc E.to), (st.vars.set q (trimZ (zAt (cAt st.chans k) 0) (vAt mo.vars q).width.toNat)), (st.chans.set k ((cAt st.chans k).drop 1)), -1⟩ := by unfold Mo.edgeS Mo.actS; rw [if_neg (by omega), if_neg (by omega), if_pos h6, hq1, hk1, Int.toNat_natCast, Int.toNat_natCast]; rfl
   refine zY (aN g0 (aN g1 (aN g2 (aN g3 (aN ga (aN gv (aN hk (aN hp (aN he (aN hpa (aN hE (aN h6 (aN om (aN ox (aN oc (aN hex (aN hq1 (aN hq (aN hq' (aN hwt (aN hk1 (aN hc' (aN hkc (aN hil (aN gc (aN gk (aN hlen l3))))))))))))))))))))))))))) ?_
   refine gw_sp (fun c => ?_) (fun c => ?_)
   ·refine zY (aN g0 (aN g2 (aN hk (aN om c)))) ?_
    refine bl_st (H.chan (A := (st.at'.set v.proc E.to)) (V := (st.vars.set q (trimZ (zAt (cAt st.chans k) 0) (vAt mo.vars q).width.toNat))) (hd := -1) (d := (.lst 1 [])) hc' (by simp) (by simp) (by simp (disch := (first|exact Rf.mk rfl|with_reducible assumption|omega|((repeat (first|rw [nP]|rw [nS]|rw [nx_empty]))<;>omega)|decide)) only [go_sem, ↓reduceIte, ga]) (by simp (disch := (first|exact Rf.mk rfl|with_reducible assumption|omega|((repeat (first|rw [nP]|rw [nS]|rw [nx_empty]))<;>omega)|decide)) only [go_sem, ↓reduceIte, gv]) (by simp (disch := (first|exact Rf.mk rfl|with_reducible assumption|omega|((repeat (first|rw [nP]|rw [nS]|rw [nx_empty]))<;>omega)|decide)) only [go_sem, ↓reduceIte, gc]) (chr_none l2) (fun j hj hjk => by obtain ⟨gj, nj, ja, jv⟩ := gq j hj; have jc := cq j hj; have lj := get_lts gj; have jk : nAt ids j ≠ nAt ids k := fun e => hjk (inj _ _ hj hc' e); simp (disch := (first|exact Rf.mk rfl|with_reducible assumption|omega|((repeat (first|rw [nP]|rw [nS]|rw [nx_empty]))<;>omega)|decide)) only [go_sem, ↓reduceIte, gj])) pz_int ?_
    intro x' hx'
    rw [e2] at hfit
    have hsb := some_bc hm ho (x := x') ⟨hx', fit_8 hf (fitA_iff.1 hfit), fitA_iff.1 hfit⟩ hp
    refine zY hsb ?_
    refine cw_sp (fun c2 => ?_) (fun c2 => ?_)
    ·refine zY (aN g2 (aN g3 (aN oc hk))) ?_
     refine rb_of ⟨_, rfl, ?_⟩
     simp only [e2, c2, Bool.and_self, if_true]
     exact H.chan (A := (st.at'.set v.proc E.to)) (V := (st.vars.set q (trimZ (zAt (cAt st.chans k) 0) (vAt mo.vars q).width.toNat))) (hd := (v.proc : Int)) (d := (.lst 1 [])) hc' (by simp) (by simp) (by simp (disch := (first|exact Rf.mk rfl|with_reducible assumption|omega|((repeat (first|rw [nP]|rw [nS]|rw [nx_empty]))<;>omega)|decide)) only [go_sem, ↓reduceIte, ga]) (by simp (disch := (first|exact Rf.mk rfl|with_reducible assumption|omega|((repeat (first|rw [nP]|rw [nS]|rw [nx_empty]))<;>omega)|decide)) only [go_sem, ↓reduceIte, gv]) (by simp (disch := (first|exact Rf.mk rfl|with_reducible assumption|omega|((repeat (first|rw [nP]|rw [nS]|rw [nx_empty]))<;>omega)|decide)) only [go_sem, ↓reduceIte, gc]) (chr_none l2) (fun j hj hjk => by obtain ⟨gj, nj, ja, jv⟩ := gq j hj; have jc := cq j hj; have lj := get_lts gj; have jk : nAt ids j ≠ nAt ids k := fun e => hjk (inj _ _ hj hc' e); simp (disch := (first|exact Rf.mk rfl|with_reducible assumption|omega|((repeat (first|rw [nP]|rw [nS]|rw [nx_empty]))<;>omega)|decide)) only [go_sem, ↓reduceIte, gj])
    ·refine zY (aN g2 (aN g3 (aN oc hk))) ?_
     refine rb_of ⟨_, rfl, ?_⟩
     simp only [e2, c2, Bool.and_false, Bool.false_eq_true, if_false]
     exact H.chan (A := (st.at'.set v.proc E.to)) (V := (st.vars.set q (trimZ (zAt (cAt st.chans k) 0) (vAt mo.vars q).width.toNat))) (hd := -1) (d := (.lst 1 [])) hc' (by simp) (by simp) (by simp (disch := (first|exact Rf.mk rfl|with_reducible assumption|omega|((repeat (first|rw [nP]|rw [nS]|rw [nx_empty]))<;>omega)|decide)) only [go_sem, ↓reduceIte, ga]) (by simp (disch := (first|exact Rf.mk rfl|with_reducible assumption|omega|((repeat (first|rw [nP]|rw [nS]|rw [nx_empty]))<;>omega)|decide)) only [go_sem, ↓reduceIte, gv]) (by simp (disch := (first|exact Rf.mk rfl|with_reducible assumption|omega|((repeat (first|rw [nP]|rw [nS]|rw [nx_empty]))<;>omega)|decide)) only [go_sem, ↓reduceIte, gc]) (chr_none l2) (fun j hj hjk => by obtain ⟨gj, nj, ja, jv⟩ := gq j hj; have jc := cq j hj; have lj := get_lts gj; have jk : nAt ids j ≠ nAt ids k := fun e => hjk (inj _ _ hj hc' e); simp (disch := (first|exact Rf.mk rfl|with_reducible assumption|omega|((repeat (first|rw [nP]|rw [nS]|rw [nx_empty]))<;>omega)|decide)) only [go_sem, ↓reduceIte, gj])
   ·refine zY (aN g0 (aN g2 (aN g3 (aN hk (aN om (aN oc c)))))) ?_
    refine rb_of ⟨_, rfl, ?_⟩
    simp only [e2, Bool.false_and, Bool.false_eq_true, if_false]
    exact H.chan (A := (st.at'.set v.proc E.to)) (V := (st.vars.set q (trimZ (zAt (cAt st.chans k) 0) (vAt mo.vars q).width.toNat))) (hd := -1) (d := (.lst 1 [])) hc' (by simp) (by simp) (by simp (disch := (first|exact Rf.mk rfl|with_reducible assumption|omega|((repeat (first|rw [nP]|rw [nS]|rw [nx_empty]))<;>omega)|decide)) only [go_sem, ↓reduceIte, ga]) (by simp (disch := (first|exact Rf.mk rfl|with_reducible assumption|omega|((repeat (first|rw [nP]|rw [nS]|rw [nx_empty]))<;>omega)|decide)) only [go_sem, ↓reduceIte, gv]) (by simp (disch := (first|exact Rf.mk rfl|with_reducible assumption|omega|((repeat (first|rw [nP]|rw [nS]|rw [nx_empty]))<;>omega)|decide)) only [go_sem, ↓reduceIte, gc]) (chr_none l2) (fun j hj hjk => by obtain ⟨gj, nj, ja, jv⟩ := gq j hj; have jc := cq j hj; have lj := get_lts gj; have jk : nAt ids j ≠ nAt ids k := fun e => hjk (inj _ _ hj hc' e); simp (disch := (first|exact Rf.mk rfl|with_reducible assumption|omega|((repeat (first|rw [nP]|rw [nS]|rw [nx_empty]))<;>omega)|decide)) only [go_sem, ↓reduceIte, gj])
  ·obtain ⟨n, hn1, hn2, hn3⟩ := heo.ex1 (by omega)
   have hval := valP hm ho hx hp hn2 hn3
   have hxn : (mo.ex (pAt mo.procs v.proc) st E 0).1 = (mo.val (lookP (pAt mo.procs v.proc)) st n).1 := by unfold Mo.ex; rw [hn1]; simp
   have h8n := val8 hx.e (t := mo.tree) (ch := mo.ch) (look := lookP (pAt mo.procs v.proc)) (mo.tree.length + 1) n
   have e2 : mo.edgeS st v.proc (pAt mo.procs v.proc) E = ⟨(st.at'.set v.proc E.to), st.vars, st.chans, -1⟩ := by unfold Mo.edgeS Mo.actS; rw [if_neg (by omega), if_neg (by omega), if_neg (by omega)]; rfl
   refine zY (aN g0 (aN g1 (aN g2 (aN g3 (aN ga (aN gv (aN hk (aN hp (aN he (aN hpa (aN hE (aN h6 (aN om (aN ox (aN oc (aN hn1 hval)))))))))))))))) ?_
   refine gw_sp (fun c => ?_) (fun c => ?_)
   ·refine zY (aN g0 (aN g2 (aN hk (aN om c)))) ?_
    refine bl_st (H.same (A := (st.at'.set v.proc E.to)) (V := st.vars) (hd := -1) (by simp) (by simp) (by simp (disch := (first|exact Rf.mk rfl|with_reducible assumption|omega|((repeat (first|rw [nP]|rw [nS]|rw [nx_empty]))<;>omega)|decide)) only [go_sem, ↓reduceIte, ga]) (by simp (disch := (first|exact Rf.mk rfl|with_reducible assumption|omega|((repeat (first|rw [nP]|rw [nS]|rw [nx_empty]))<;>omega)|decide)) only [go_sem, ↓reduceIte, gv]) (fun j h1 h2 h3 h4 => by simp (disch := (first|exact Rf.mk rfl|with_reducible assumption|omega|((repeat (first|rw [nP]|rw [nS]|rw [nx_empty]))<;>omega)|decide)) only [go_sem, ↓reduceIte])) pz_int ?_
    intro x' hx'
    rw [e2] at hfit
    have hsb := some_bc hm ho (x := x') ⟨hx', fit_8 hf (fitA_iff.1 hfit), fitA_iff.1 hfit⟩ hp
    refine zY hsb ?_
    refine cw_sp (fun c2 => ?_) (fun c2 => ?_)
    ·refine zY (aN g2 (aN g3 (aN oc hk))) ?_
     refine rb_of ⟨_, rfl, ?_⟩
     simp only [e2, c2, Bool.and_self, if_true]
     exact H.same (A := (st.at'.set v.proc E.to)) (V := st.vars) (hd := (v.proc : Int)) (by simp) (by simp) (by simp (disch := (first|exact Rf.mk rfl|with_reducible assumption|omega|((repeat (first|rw [nP]|rw [nS]|rw [nx_empty]))<;>omega)|decide)) only [go_sem, ↓reduceIte, ga]) (by simp (disch := (first|exact Rf.mk rfl|with_reducible assumption|omega|((repeat (first|rw [nP]|rw [nS]|rw [nx_empty]))<;>omega)|decide)) only [go_sem, ↓reduceIte, gv]) (fun j h1 h2 h3 h4 => by simp (disch := (first|exact Rf.mk rfl|with_reducible assumption|omega|((repeat (first|rw [nP]|rw [nS]|rw [nx_empty]))<;>omega)|decide)) only [go_sem, ↓reduceIte])
    ·refine zY (aN g2 (aN g3 (aN oc hk))) ?_
     refine rb_of ⟨_, rfl, ?_⟩
     simp only [e2, c2, Bool.and_false, Bool.false_eq_true, if_false]
     exact H.same (A := (st.at'.set v.proc E.to)) (V := st.vars) (hd := -1) (by simp) (by simp) (by simp (disch := (first|exact Rf.mk rfl|with_reducible assumption|omega|((repeat (first|rw [nP]|rw [nS]|rw [nx_empty]))<;>omega)|decide)) only [go_sem, ↓reduceIte, ga]) (by simp (disch := (first|exact Rf.mk rfl|with_reducible assumption|omega|((repeat (first|rw [nP]|rw [nS]|rw [nx_empty]))<;>omega)|decide)) only [go_sem, ↓reduceIte, gv]) (fun j h1 h2 h3 h4 => by simp (disch := (first|exact Rf.mk rfl|with_reducible assumption|omega|((repeat (first|rw [nP]|rw [nS]|rw [nx_empty]))<;>omega)|decide)) only [go_sem, ↓reduceIte])
   ·refine zY (aN g0 (aN g2 (aN g3 (aN hk (aN om (aN oc c)))))) ?_
    refine rb_of ⟨_, rfl, ?_⟩
    simp only [e2, Bool.false_and, Bool.false_eq_true, if_false]
    exact H.same (A := (st.at'.set v.proc E.to)) (V := st.vars) (hd := -1) (by simp) (by simp) (by simp (disch := (first|exact Rf.mk rfl|with_reducible assumption|omega|((repeat (first|rw [nP]|rw [nS]|rw [nx_empty]))<;>omega)|decide)) only [go_sem, ↓reduceIte, ga]) (by simp (disch := (first|exact Rf.mk rfl|with_reducible assumption|omega|((repeat (first|rw [nP]|rw [nS]|rw [nx_empty]))<;>omega)|decide)) only [go_sem, ↓reduceIte, gv]) (fun j h1 h2 h3 h4 => by simp (disch := (first|exact Rf.mk rfl|with_reducible assumption|omega|((repeat (first|rw [nP]|rw [nS]|rw [nx_empty]))<;>omega)|decide)) only [go_sem, ↓reduceIte])
  ·obtain ⟨n, hn1, hn2, hn3⟩ := heo.ex1 (by omega)
   have hval := valP hm ho hx hp hn2 hn3
   have hxn : (mo.ex (pAt mo.procs v.proc) st E 0).1 = (mo.val (lookP (pAt mo.procs v.proc)) st n).1 := by unfold Mo.ex; rw [hn1]; simp
   have h8n := val8 hx.e (t := mo.tree) (ch := mo.ch) (look := lookP (pAt mo.procs v.proc)) (mo.tree.length + 1) n
   have e2 : mo.edgeS st v.proc (pAt mo.procs v.proc) E = ⟨(st.at'.set v.proc E.to), st.vars, st.chans, -1⟩ := by unfold Mo.edgeS Mo.actS; rw [if_neg (by omega), if_neg (by omega), if_neg (by omega)]; rfl
   refine zY (aN g0 (aN g1 (aN g2 (aN g3 (aN ga (aN gv (aN hk (aN hp (aN he (aN hpa (aN hE (aN h6 (aN om (aN ox (aN oc (aN hn1 hval)))))))))))))))) ?_
   refine gw_sp (fun c => ?_) (fun c => ?_)
   ·refine zY (aN g0 (aN g2 (aN hk (aN om c)))) ?_
    refine bl_st (H.same (A := (st.at'.set v.proc E.to)) (V := st.vars) (hd := -1) (by simp) (by simp) (by simp (disch := (first|exact Rf.mk rfl|with_reducible assumption|omega|((repeat (first|rw [nP]|rw [nS]|rw [nx_empty]))<;>omega)|decide)) only [go_sem, ↓reduceIte, ga]) (by simp (disch := (first|exact Rf.mk rfl|with_reducible assumption|omega|((repeat (first|rw [nP]|rw [nS]|rw [nx_empty]))<;>omega)|decide)) only [go_sem, ↓reduceIte, gv]) (fun j h1 h2 h3 h4 => by simp (disch := (first|exact Rf.mk rfl|with_reducible assumption|omega|((repeat (first|rw [nP]|rw [nS]|rw [nx_empty]))<;>omega)|decide)) only [go_sem, ↓reduceIte])) pz_int ?_
    intro x' hx'
    rw [e2] at hfit
    have hsb := some_bc hm ho (x := x') ⟨hx', fit_8 hf (fitA_iff.1 hfit), fitA_iff.1 hfit⟩ hp
    refine zY hsb ?_
    refine cw_sp (fun c2 => ?_) (fun c2 => ?_)
    ·refine zY (aN g2 (aN g3 (aN oc hk))) ?_
     refine rb_of ⟨_, rfl, ?_⟩
     simp only [e2, c2, Bool.and_self, if_true]
     exact H.same (A := (st.at'.set v.proc E.to)) (V := st.vars) (hd := (v.proc : Int)) (by simp) (by simp) (by simp (disch := (first|exact Rf.mk rfl|with_reducible assumption|omega|((repeat (first|rw [nP]|rw [nS]|rw [nx_empty]))<;>omega)|decide)) only [go_sem, ↓reduceIte, ga]) (by simp (disch := (first|exact Rf.mk rfl|with_reducible assumption|omega|((repeat (first|rw [nP]|rw [nS]|rw [nx_empty]))<;>omega)|decide)) only [go_sem, ↓reduceIte, gv]) (fun j h1 h2 h3 h4 => by simp (disch := (first|exact Rf.mk rfl|with_reducible assumption|omega|((repeat (first|rw [nP]|rw [nS]|rw [nx_empty]))<;>omega)|decide)) only [go_sem, ↓reduceIte])
    ·refine zY (aN g2 (aN g3 (aN oc hk))) ?_
     refine rb_of ⟨_, rfl, ?_⟩
     simp only [e2, c2, Bool.and_false, Bool.false_eq_true, if_false]
     exact H.same (A := (st.at'.set v.proc E.to)) (V := st.vars) (hd := -1) (by simp) (by simp) (by simp (disch := (first|exact Rf.mk rfl|with_reducible assumption|omega|((repeat (first|rw [nP]|rw [nS]|rw [nx_empty]))<;>omega)|decide)) only [go_sem, ↓reduceIte, ga]) (by simp (disch := (first|exact Rf.mk rfl|with_reducible assumption|omega|((repeat (first|rw [nP]|rw [nS]|rw [nx_empty]))<;>omega)|decide)) only [go_sem, ↓reduceIte, gv]) (fun j h1 h2 h3 h4 => by simp (disch := (first|exact Rf.mk rfl|with_reducible assumption|omega|((repeat (first|rw [nP]|rw [nS]|rw [nx_empty]))<;>omega)|decide)) only [go_sem, ↓reduceIte])
   ·refine zY (aN g0 (aN g2 (aN g3 (aN hk (aN om (aN oc c)))))) ?_
    refine rb_of ⟨_, rfl, ?_⟩
    simp only [e2, Bool.false_and, Bool.false_eq_true, if_false]
    exact H.same (A := (st.at'.set v.proc E.to)) (V := st.vars) (hd := -1) (by simp) (by simp) (by simp (disch := (first|exact Rf.mk rfl|with_reducible assumption|omega|((repeat (first|rw [nP]|rw [nS]|rw [nx_empty]))<;>omega)|decide)) only [go_sem, ↓reduceIte, ga]) (by simp (disch := (first|exact Rf.mk rfl|with_reducible assumption|omega|((repeat (first|rw [nP]|rw [nS]|rw [nx_empty]))<;>omega)|decide)) only [go_sem, ↓reduceIte, gv]) (fun j h1 h2 h3 h4 => by simp (disch := (first|exact Rf.mk rfl|with_reducible assumption|omega|((repeat (first|rw [nP]|rw [nS]|rw [nx_empty]))<;>omega)|decide)) only [go_sem, ↓reduceIte])
 ·rcases gc with ⟨h1, _⟩ | ⟨c, rfl, gc, nc, ca, cv, cq⟩
  ·rw [h1] at hcl; simp at hcl; omega
  have hc' : v.chan < st.chans.length := by omega
  obtain ⟨gk, nk, ka, kv⟩ := gq v.chan hc'
  have kc := cq v.chan hc'
  have lc := get_lts gc
  have lk := get_lts gk
  have e : mo.doS st v = ⟨st.at', st.vars, st.chans.set v.chan ((cAt st.chans v.chan).drop 1), st.hold⟩ := by unfold Mo.doS; rw [if_pos hk]
  rw [e]
  by_cases l2 : 1 < (cAt st.chans v.chan).length
  ·simp (disch := (first|exact Rf.mk rfl|with_reducible assumption|omega|((repeat (first|rw [nP]|rw [nS]|rw [nx_empty]))<;>omega)|decide)) only [go_sem, ↓reduceIte, g0, g1, g2, g3, ga, gv, gc, gk, hk, hc', hil, om, ox, oc, l2, hlen, tk_D]
   refine rb_of ⟨_, rfl, H.chan (d := .arr (nAt ids v.chan) 1 ((cAt st.chans v.chan).length - 1) 1) hc' rfl rfl ?_ ?_ ?_ (chr_drop ?_ l2) fun j hj hjk => ?_⟩
   ·exact zZ ga
   ·exact zZ gv
   ·exact zZ gc
   ·exact zZ gk
   ·obtain ⟨gj, nj, ja, jv⟩ := gq j hj
    have jc := cq j hj
    have lj := get_lts gj
    have jk : nAt ids j ≠ nAt ids v.chan := fun e => hjk (inj _ _ hj hc' e)
    exact zZ gj
  ·have l3 : (cAt st.chans v.chan).length = 1 := by omega
   refine zY (aN g0 (aN g1 (aN g2 (aN g3 (aN ga (aN gv (aN gc (aN gk (aN hk (aN hc' (aN hil (aN om (aN ox (aN oc l3)))))))))))))) ?_
   refine rb_of ⟨_, rfl, H.chan (d := .lst 1 []) hc' rfl rfl ?_ ?_ ?_ (chr_none l2) fun j hj hjk => ?_⟩
   ·exact zZ ga
   ·exact zZ gv
   ·exact zZ gc
   ·obtain ⟨gj, nj, ja, jv⟩ := gq j hj
    have jc := cq j hj
    have lj := get_lts gj
    exact zZ gj
 ·rcases gc with ⟨h1, _⟩ | ⟨c, rfl, gc, nc, ca, cv, cq⟩
  ·rw [h1] at hcl; simp at hcl; omega
  have hc' : v.chan < st.chans.length := by omega
  obtain ⟨gk, nk, ka, kv⟩ := gq v.chan hc'
  have kc := cq v.chan hc'
  have lc := get_lts gc
  have lk := get_lts gk
  have e : mo.doS st v = ⟨st.at', st.vars, st.chans.set v.chan (cAt st.chans v.chan ++ [zAt (cAt st.chans v.chan) 0]), st.hold⟩ := by unfold Mo.doS; rw [if_neg (by omega), if_pos hk]
  rw [e]
  refine zY (aN g0 (aN g1 (aN g2 (aN g3 (aN ga (aN gv (aN gc (aN gk (aN hk (aN hc' (aN hil (aN om (aN ox (aN oc hlen)))))))))))))) ?_
  have hr3 := hf.ch _ (chAt_mem hc)
  refine mx_arr (cs := cellsZ (cAt st.chans v.chan)) (x := .int .i64 (zAt (cAt st.chans v.chan) 0)) (by simp (disch := (first|exact Rf.mk rfl|with_reducible assumption|omega|((repeat (first|rw [nP]|rw [nS]|rw [nx_empty]))<;>omega)|decide)) only [go_sem, ↓reduceIte, gk]) (by simp) (by simp (disch := (first|exact Rf.mk rfl|with_reducible assumption|omega|((repeat (first|rw [nP]|rw [nS]|rw [nx_empty]))<;>omega)|decide)) only [go_sem, ↓reduceIte]) (by decide) (by omega) (by simp (disch := (first|exact Rf.mk rfl|with_reducible assumption|omega|((repeat (first|rw [nP]|rw [nS]|rw [nx_empty]))<;>omega)|decide)) only [go_sem, ↓reduceIte]) ?_
  refine zY (aN g0 (aN g1 (aN g2 (aN g3 (aN ga (aN gv (aN gc (aN gk (aN hk (aN hc' (aN hil (aN om (aN ox (aN oc hlen)))))))))))))) ?_
  refine rb_of ⟨_, rfl, H.chan (d := .arr (s1.next + 1 + 1) 0 ((cAt st.chans v.chan).length + 1) 1) hc' rfl rfl ?_ ?_ ?_ ?_ fun j hj hjk => ?_⟩
  ·exact zZ ga
  ·exact zZ gv
  ·exact zZ gc
  ·rw [show (cAt st.chans v.chan).length + 1 = (cAt st.chans v.chan ++ [zAt (cAt st.chans v.chan) 0]).length by simp]
   refine chr_full ?_
   refine zY0 ?_
   simp [cellsZ]
  ·obtain ⟨gj, nj, ja, jv⟩ := gq j hj
   have jc := cq j hj
   have lj := get_lts gj
   have jk : nAt ids j ≠ nAt ids v.chan := fun e => hjk (inj _ _ hj hc' e)
   exact zZ gj
end Go.Proofs.Ytlaeblilmppodaa
namespace Go.V
structure Inc (f g : Ft) : Prop where
 r : ∀ b, f.reads.testBit b = true -> g.reads.testBit b = true
 z : ∀ b, f.sizes.testBit b = true -> g.sizes.testBit b = true
theorem Inc.refl (f : Ft) : Inc f f := ⟨fun _ h => h, fun _ h => h⟩
theorem Inc.trans {f g h : Ft} (a : Inc f g) (b : Inc g h) : Inc f h := ⟨fun x k => b.r x (a.r x k), fun x k => b.z x (a.z x k)⟩
theorem read1_inc {ch : List ByteArray} {vb : ByteArray -> Nat} {x : Nd} {f : Ft} : Inc f (read1 ch vb x f) := by
 unfold read1
 split
 ·exact ⟨fun b h => by simp only [Nat.testBit_or, h, Bool.true_or], fun _ h => h⟩
 split
 ·exact ⟨fun _ h => h, fun b h => by simp only [Nat.testBit_or, h, Bool.true_or]⟩
 split
 ·exact ⟨fun _ h => h, fun _ h => h⟩
 ·exact .refl _
theorem foldl_inc {g : Ft -> Nat -> Ft} (hg : ∀ f k, Inc f (g f k)) : ∀ {l : List Nat} {f : Ft}, Inc f (l.foldl g f)
 | [], f => .refl f
 | k :: l, f => (hg f k).trans (foldl_inc hg (l := l))
theorem readF_inc {t : List Nd} {ch : List ByteArray} {vb : ByteArray -> Nat} : ∀ (n k : Nat) (f : Ft), Inc f (readF t ch vb n k f)
 | 0, k, f => .refl f
 | n + 1, k, f => by
   unfold readF
   exact read1_inc.trans (foldl_inc fun f k => readF_inc n k f)
theorem foldl_inc_mem {g : Ft -> Nat -> Ft} (hg : ∀ f k, Inc f (g f k)) : ∀ {l : List Nat} {f : Ft} {k : Nat}, k ∈ l -> ∃ f', Inc (g f' k) (l.foldl g f)
 | x :: l, f, k, h => by
   rcases List.mem_cons.1 h with rfl | h
   ·exact ⟨f, foldl_inc hg (l := l)⟩
   ·exact foldl_inc_mem hg (l := l) h
structure Agree (f : Ft) (st st' : Stt) : Prop where
 r : ∀ b, f.reads.testBit b = true -> zAt st.vars b = zAt st'.vars b
 z : ∀ b, f.sizes.testBit b = true -> (cAt st.chans b).length = (cAt st'.chans b).length
theorem Agree.inc {f g : Ft} {st st' : Stt} (h : Agree g st st') (k : Inc f g) : Agree f st st' := ⟨fun b hb => h.r b (k.r b hb), fun b hb => h.z b (k.z b hb)⟩
theorem val_frame {t : List Nd} (ht : TreeOk t) {ch : List ByteArray} {vb : ByteArray -> Nat} {look : ByteArray -> Option Nat} (hl : ∀ w v, look w = some v -> vb w = 2 ^ v) {st st' : Stt} : ∀ (n k : Nat) (f0 : Ft), k < t.length -> exprK (nd t k).kind -> Agree (readF t ch vb n k f0) st st' -> valF t ch look st n k = valF t ch look st' n k
 | 0, k, f0, _, _, _ => rfl
 | n + 1, k, f0, hk, hx, ha => by
   have hno := ht.node k hk
   obtain ⟨_, hkx⟩ := expr_kids hno hx
   have hkid : ∀ i, i < (nd t k).kids.length -> valF t ch look st n ((nd t k).kid i) = valF t ch look st' n ((nd t k).kid i) := fun i hi => by
    have hm := kid_mem hi
    have hc := ht.ks hk _ hm
    obtain ⟨f', hf'⟩ := foldl_inc_mem (g := fun f c => readF t ch vb n c f) (fun f c => readF_inc n c f) (f := read1 ch vb (nd t k) f0) hm
    exact val_frame ht hl n _ f' hc.2 (hkx i hi) (ha.inc hf')
   have h1 : Inc (read1 ch vb (nd t k) f0) (readF t ch vb (n + 1) k f0) := foldl_inc fun f k => readF_inc n k f
   have hb := ha.inc h1
   unfold valF
   simp only
   by_cases q17 : (nd t k).kind = 17
   ·simp only [q17, if_true]
   simp only [q17, if_false]
   by_cases q18 : (nd t k).kind = 18
   ·simp only [q18, if_true]
    cases hlk : look ((nd t k).word 0) with
    | none => rfl
    | some v =>
      have e : zAt st.vars v = zAt st'.vars v := hb.r v (by
       unfold read1
       rw [if_pos q18]
       simp only [Nat.testBit_or, hl _ _ hlk, Nat.testBit_two_pow_self, Bool.or_true])
      simp only [e]
   simp only [q18, if_false]
   by_cases q19 : (nd t k).kind = 19
   ·simp only [q19, if_true]
    split
    ·rename_i hi
     have e := hb.z (idxB ch ((nd t k).word 0)) (by
      unfold read1 chB
      rw [if_neg q18, if_pos q19, if_pos hi]
      simp only [Nat.testBit_or, Nat.testBit_two_pow_self, Bool.or_true])
     rw [e]
    ·rfl
   simp only [q19, if_false]
   by_cases q20 : (nd t k).kind = 20
   ·have := (hno.one (by omega)).1
    simp only [q20, if_true, hkid 0 (by omega)]
   simp only [q20, if_false]
   by_cases q21 : (nd t k).kind = 21
   ·have := (hno.one (by omega)).1
    simp only [q21, if_true, hkid 0 (by omega)]
   simp only [q21, if_false]
   by_cases q22 : (nd t k).kind = 22
   ·have := (hno.bin q22).1
    simp only [q22, if_true, hkid 0 (by omega), hkid 1 (by omega)]
   simp only [q22, if_false]
theorem look_p {p : Pr} {w : ByteArray} {v : Nat} (h : lookP p w = some v) : varB p.names p.vars w = 2 ^ v := by
 unfold lookP at h
 unfold varB
 split at h
 ·rename_i hi
  simp only [Option.some.injEq] at h
  rw [if_pos hi, h]
 ·cases h
theorem look_g {mo : Mo} {w : ByteArray} {v : Nat} (h : lookG mo w = some v) : mo.varG w = 2 ^ v := by
 unfold lookG at h
 unfold Mo.varG
 split at h
 ·rename_i hi
  simp only [Option.some.injEq] at h
  rw [if_pos hi, h]
 ·cases h
theorem edgeF_inc (mo : Mo) (p : Pr) (e : Ed) : Inc (exprF mo p e) (edgeF mo p e) /\ Inc (edgeF mo p e) (exprF mo p e) := by
 rw [edgeF_eq]
 unfold actF
 constructor <;> (split; exact ⟨fun _ h => h, fun _ h => h⟩; split; exact ⟨fun _ h => h, fun _ h => h⟩; split; exact ⟨fun _ h => h, fun _ h => h⟩; exact .refl _)
theorem ex_frame {mo : Mo} (ho : MoOk mo) {p : Pr} (hp : PrOk mo p) {e : Ed} (he : e ∈ p.edges) {st st' : Stt} (h : Agree (edgeF mo p e) st st') (z : Int) : mo.ex p st e z = mo.ex p st' e z := by
 have heo := hp.inv.ed e he
 unfold Mo.ex
 split
 ·rename_i h0
  have hx : e.act = 1 ∨ e.act = 2 ∨ e.act = 4 ∨ e.act = 5 := by
   have := heo.ex0
   have := heo.act
   omega
  obtain ⟨n, hn, hn2, hn3⟩ := heo.ex1 hx
  rw [hn, Int.toNat_natCast]
  refine val_frame ho.tree (vb := varB p.names p.vars) (fun w v h => look_p h) _ n ⟨0, 0, 0, 0, 0, false⟩ hn2 hn3 ?_
  have := h.inc (edgeF_inc mo p e).1
  unfold exprF at this
  rw [if_pos h0, hn, Int.toNat_natCast] at this
  exact this
 ·rfl
def setO {α : Type} (l : List α) : Option (Nat × α) -> List α
 | none => l
 | some (i, x) => l.set i x
theorem setO_comm {α : Type} {l : List α} {a b : Option (Nat × α)} (h : ∀ i x j y, a = some (i, x) -> b = some (j, y) -> i ≠ j) : setO (setO l a) b = setO (setO l b) a := by
 cases a with
 | none => rfl
 | some a =>
   cases b with
   | none => rfl
   | some b => exact List.set_comm _ _ (h a.1 a.2 b.1 b.2 rfl rfl)
theorem setO_z {l : List Int} {a : Option (Nat × Int)} {k : Nat} (h : ∀ i x, a = some (i, x) -> i ≠ k) : zAt (setO l a) k = zAt l k := by
 cases a with
 | none => rfl
 | some a =>
   have := h a.1 a.2 rfl
   simp only [setO, zAt, List.getD, List.getElem?_set]
   rw [if_neg this]
theorem setO_c {l : List (List Int)} {a : Option (Nat × List Int)} {k : Nat} (h : ∀ i x, a = some (i, x) -> i ≠ k) : cAt (setO l a) k = cAt l k := by
 cases a with
 | none => rfl
 | some a =>
   have := h a.1 a.2 rfl
   simp only [setO, cAt, List.getD, List.getElem?_set]
   rw [if_neg this]
def Mo.wV (mo : Mo) (l : List Int) (e : Ed) (n : Int) : Option (Nat × Int) :=
 if e.act = 1 then some (e.var.toNat, trimZ n (vAt mo.vars e.var.toNat).width.toNat)
 else if e.act = 3 then some (e.var.toNat, trimZ (zAt l 0) (vAt mo.vars e.var.toNat).width.toNat) else none
def Mo.wC (mo : Mo) (l : List Int) (e : Ed) (n : Int) : Option (Nat × List Int) :=
 if e.act = 2 then some (e.chan.toNat, l ++ [trimZ n (chAt mo.chans e.chan.toNat).width.toNat])
 else if e.act = 3 then some (e.chan.toNat, l.drop 1) else none
theorem actS_eq {mo : Mo} {st : Stt} {e : Ed} {n : Int} : mo.actS st e n = ⟨st.at', setO st.vars (mo.wV (cAt st.chans e.chan.toNat) e n), setO st.chans (mo.wC (cAt st.chans e.chan.toNat) e n), st.hold⟩ := by
 unfold Mo.actS Mo.wV Mo.wC
 by_cases a1 : e.act = 1
 ·simp [a1, setO]
 by_cases a2 : e.act = 2
 ·simp [a2, setO]
 by_cases a3 : e.act = 3
 ·simp [a3, setO]
 ·simp [a1, a2, a3, setO]
theorem edgeS_eq {mo : Mo} {st : Stt} {i : Nat} {p : Pr} {e : Ed} : mo.edgeS st i p e = ⟨st.at'.set i e.to, setO st.vars (mo.wV (cAt st.chans e.chan.toNat) e (mo.ex p st e 0).1), setO st.chans (mo.wC (cAt st.chans e.chan.toNat) e (mo.ex p st e 0).1), -1⟩ := by
 unfold Mo.edgeS
 rw [actS_eq]
 rfl
theorem wV_bit {mo : Mo} {p : Pr} (hp : PrOk mo p) {e : Ed} (he : e ∈ p.edges) {l : List Int} {n : Int} {i : Nat} {x : Int} (h : mo.wV l e n = some (i, x)) : (edgeF mo p e).writes.testBit i = true := by
 have heo := hp.inv.ed e he
 rw [edgeF_eq]
 unfold actF
 unfold Mo.wV at h
 by_cases a1 : e.act = 1
 ·rw [if_pos a1] at h ⊢
  obtain ⟨v, hv, e1⟩ := heo.v1 (.inl a1)
  simp only [Option.some.injEq, Prod.mk.injEq] at h
  rw [<- h.1, e1, Int.toNat_natCast]
  simp only [bitN_nat, Nat.testBit_two_pow_self]
 rw [if_neg a1] at h ⊢
 split at h
 ·rename_i a3
  rw [if_neg (by omega), if_pos a3]
  obtain ⟨v, hv, e1⟩ := heo.v1 (.inr a3)
  simp only [Option.some.injEq, Prod.mk.injEq] at h
  rw [<- h.1, e1, Int.toNat_natCast]
  simp only [bitN_nat, Nat.testBit_two_pow_self]
 ·cases h
theorem wC_bit {mo : Mo} {p : Pr} (hp : PrOk mo p) {e : Ed} (he : e ∈ p.edges) (h : e.act = 2 ∨ e.act = 3) : ((edgeF mo p e).sends ||| (edgeF mo p e).recvs).testBit e.chan.toNat = true := by
 have heo := hp.inv.ed e he
 rw [edgeF_eq]
 unfold actF
 obtain ⟨v, e1, hv⟩ := heo.c1 h
 rw [if_neg (by omega)]
 by_cases a2 : e.act = 2
 ·rw [if_pos a2, e1, Int.toNat_natCast]
  simp only [bitN_nat, Nat.testBit_or, Nat.testBit_two_pow_self, Bool.true_or]
 ·rw [if_neg a2, if_pos (by omega), e1, Int.toNat_natCast]
  simp only [bitN_nat, Nat.testBit_or, Nat.testBit_two_pow_self, Bool.or_true]
theorem wC_some {mo : Mo} {e : Ed} {l : List Int} {n : Int} {i : Nat} {x : List Int} (h : mo.wC l e n = some (i, x)) : i = e.chan.toNat /\ (e.act = 2 ∨ e.act = 3) := by
 unfold Mo.wC at h
 split at h
 ·rename_i a
  simp only [Option.some.injEq, Prod.mk.injEq] at h
  exact ⟨h.1.symm, .inl a⟩
 split at h
 ·rename_i a
  simp only [Option.some.injEq, Prod.mk.injEq] at h
  exact ⟨h.1.symm, .inr a⟩
 ·cases h
theorem and_bit {x y b : Nat} (h : x &&& y = 0) (hx : x.testBit b = true) : ¬ y.testBit b = true := fun hy => by
 have : (x &&& y).testBit b = true := by rw [Nat.testBit_and, hx, hy]; rfl
 rw [h] at this
 simp at this
theorem apart_iff {a b : Ft} : a.apart b = true ↔ (a.writes &&& (b.reads ||| b.writes) = 0 /\ (a.sends ||| a.recvs) &&& ((b.sends ||| b.recvs) ||| b.sizes) = 0) /\ (b.writes &&& (a.reads ||| a.writes) = 0 /\ (b.sends ||| b.recvs) &&& ((a.sends ||| a.recvs) ||| a.sizes) = 0) := by
 unfold Ft.apart Ft.dist
 simp only [Bool.and_eq_true, Bool.not_eq_true', Bool.or_eq_false_iff, decide_eq_false_iff_not, ne_eq, Decidable.not_not]
theorem edge_v {mo : Mo} {st : Stt} {i : Nat} {p : Pr} (hp : PrOk mo p) {e : Ed} (he : e ∈ p.edges) {b : Nat} (hb : ¬ (edgeF mo p e).writes.testBit b = true) : zAt (mo.edgeS st i p e).vars b = zAt st.vars b := by
 rw [edgeS_eq]
 refine setO_z fun j x h hj => hb ?_
 rw [<- hj]
 exact wV_bit hp he h
theorem edge_c {mo : Mo} {st : Stt} {i : Nat} {p : Pr} (hp : PrOk mo p) {e : Ed} (he : e ∈ p.edges) {b : Nat} (hb : ¬ ((edgeF mo p e).sends ||| (edgeF mo p e).recvs).testBit b = true) : cAt (mo.edgeS st i p e).chans b = cAt st.chans b := by
 rw [edgeS_eq]
 refine setO_c fun j x h hj => hb ?_
 obtain ⟨rfl, h2⟩ := wC_some h
 rw [<- hj]
 exact wC_bit hp he h2
theorem edge_agree {mo : Mo} {st : Stt} {i : Nat} {p : Pr} (hp : PrOk mo p) {e : Ed} (he : e ∈ p.edges) {f : Ft} (h1 : (edgeF mo p e).writes &&& f.reads = 0) (h2 : ((edgeF mo p e).sends ||| (edgeF mo p e).recvs) &&& f.sizes = 0) : Agree f st (mo.edgeS st i p e) :=
 ⟨fun b hb => (edge_v hp he fun hw => and_bit h1 hw hb).symm, fun b hb => by rw [edge_c hp he fun hw => and_bit h2 hw hb]⟩
theorem safe_frame {mo : Mo} (ho : MoOk mo) {st st' : Stt} (h : Agree mo.askF st st') : mo.safeS st = mo.safeS st' := by
 unfold Mo.safeS
 rw [Bool.eq_iff_iff, List.all_eq_true, List.all_eq_true]
 have key : ∀ k ∈ mo.safe, mo.val (lookG mo) st k = mo.val (lookG mo) st' k := fun k hk => by
  obtain ⟨hk1, hk2⟩ := ho.sf k hk
  obtain ⟨f', hf'⟩ := foldl_inc_mem (g := fun f k => readF mo.tree (mo.chans.map Ch.name) mo.varG (mo.tree.length + 1) k f) (fun f c => readF_inc _ c f) (f := ⟨0, 0, 0, 0, 0, false⟩) hk
  exact val_frame ho.tree (vb := mo.varG) (fun w v h => look_g h) _ k f' hk1 hk2 (h.inc hf')
 constructor
 ·intro h k hk
  rw [<- key k hk]; exact h k hk
 ·intro h k hk
  rw [key k hk]; exact h k hk
theorem vis_iff {mo : Mo} {p : Pr} {e : Ed} : mo.visF p e = false ↔ (edgeF mo p e).writes &&& mo.askF.reads = 0 /\ ((edgeF mo p e).sends ||| (edgeF mo p e).recvs) &&& mo.askF.sizes = 0 := by
 unfold Mo.visF
 simp only [Bool.or_eq_false_iff, decide_eq_false_iff_not, ne_eq, Decidable.not_not]
theorem Agree.hold {f : Ft} {st st' : Stt} (h : Agree f st st') (z : Int) : Agree f st { st' with hold := z } := ⟨h.r, h.z⟩
theorem safe_still {mo : Mo} (ho : MoOk mo) {st : Stt} {i : Nat} {p : Pr} (hp : PrOk mo p) {e : Ed} (he : e ∈ p.edges) (hv : mo.visF p e = false) : mo.safeS (mo.doE st i p e) = mo.safeS st := by
 obtain ⟨h1, h2⟩ := vis_iff.1 hv
 exact (safe_frame ho ((edge_agree hp he h1 h2).hold _)).symm
theorem nAt_set' {l : List Nat} {i j x : Nat} (h : i ≠ j) : nAt (l.set i x) j = nAt l j := by
 simp only [nAt, List.getD, List.getElem?_set]
 rw [if_neg h]
structure Apt (f g : Ft) : Prop where
 wr : f.writes &&& g.reads = 0
 ww : f.writes &&& g.writes = 0
 cc : (f.sends ||| f.recvs) &&& (g.sends ||| g.recvs) = 0
 cz : (f.sends ||| f.recvs) &&& g.sizes = 0
theorem apart_apt {f g : Ft} (h : f.apart g = true) : Apt f g /\ Apt g f := by
 obtain ⟨⟨a, b⟩, c, d⟩ := apart_iff.1 h
 obtain ⟨a1, a2⟩ := and_or_zero.1 a
 obtain ⟨b1, b2⟩ := and_or_zero.1 b
 obtain ⟨c1, c2⟩ := and_or_zero.1 c
 obtain ⟨d1, d2⟩ := and_or_zero.1 d
 exact ⟨⟨a1, a2, b1, b2⟩, ⟨c1, c2, d1, d2⟩⟩
theorem apart_ex {mo : Mo} (ho : MoOk mo) {st : Stt} {i : Nat} {p q : Pr} (hp : PrOk mo p) (hq : PrOk mo q) {e g : Ed} (he : e ∈ p.edges) (hg : g ∈ q.edges) (h : Apt (edgeF mo p e) (edgeF mo q g)) (z : Int) : mo.ex q (mo.edgeS st i p e) g z = mo.ex q st g z :=
 (ex_frame ho hq hg (edge_agree hp he h.wr h.cz) z).symm
theorem apart_ch {mo : Mo} {st : Stt} {i : Nat} {p q : Pr} (hp : PrOk mo p) (hq : PrOk mo q) {e g : Ed} (he : e ∈ p.edges) (hg : g ∈ q.edges) (h : Apt (edgeF mo p e) (edgeF mo q g)) (ha : g.act = 2 ∨ g.act = 3) : cAt (mo.edgeS st i p e).chans g.chan.toNat = cAt st.chans g.chan.toNat :=
 edge_c hp he fun hw => and_bit h.cc hw (wC_bit hq hg ha)
theorem apart_can {mo : Mo} (ho : MoOk mo) {st : Stt} {i j : Nat} {p q : Pr} (hij : i ≠ j) (hp : PrOk mo p) (hq : PrOk mo q) {e g : Ed} (he : e ∈ p.edges) (hg : g ∈ q.edges) (h : Apt (edgeF mo p e) (edgeF mo q g)) : mo.can (mo.edgeS st i p e) j q g = mo.can st j q g := by
 have h1 := apart_ex ho (st := st) (i := i) hp hq he hg h 0
 have h2 : nAt (mo.edgeS st i p e).at' j = nAt st.at' j := by rw [edgeS_eq]; exact nAt_set' hij
 unfold Mo.can
 rw [h1, h2]
 by_cases a2 : g.act = 2
 ·rw [if_pos a2, if_pos a2, apart_ch hp hq he hg h (.inl a2)]
 rw [if_neg a2, if_neg a2]
 by_cases a3 : g.act = 3
 ·rw [if_pos a3, if_pos a3, apart_ch hp hq he hg h (.inr a3)]
 rw [if_neg a3, if_neg a3]
theorem wV_ch {mo : Mo} {l l' : List Int} {e : Ed} {n : Int} (h : e.act = 2 ∨ e.act = 3 -> l = l') : mo.wV l e n = mo.wV l' e n := by
 unfold Mo.wV
 split
 ·rfl
 split
 ·rename_i a; rw [h (.inr a)]
 ·rfl
theorem wC_ch {mo : Mo} {l l' : List Int} {e : Ed} {n : Int} (h : e.act = 2 ∨ e.act = 3 -> l = l') : mo.wC l e n = mo.wC l' e n := by
 unfold Mo.wC
 split
 ·rename_i a; rw [h (.inl a)]
 split
 ·rename_i a; rw [h (.inr a)]
 ·rfl
theorem apart_two {mo : Mo} (ho : MoOk mo) {st : Stt} {i j : Nat} {p q : Pr} (hp : PrOk mo p) (hq : PrOk mo q) {e g : Ed} (he : e ∈ p.edges) (hg : g ∈ q.edges) (h : Apt (edgeF mo p e) (edgeF mo q g)) : mo.edgeS (mo.edgeS st i p e) j q g = ⟨(st.at'.set i e.to).set j g.to, setO (setO st.vars (mo.wV (cAt st.chans e.chan.toNat) e (mo.ex p st e 0).1)) (mo.wV (cAt st.chans g.chan.toNat) g (mo.ex q st g 0).1), setO (setO st.chans (mo.wC (cAt st.chans e.chan.toNat) e (mo.ex p st e 0).1)) (mo.wC (cAt st.chans g.chan.toNat) g (mo.ex q st g 0).1), -1⟩ := by
 have h1 := apart_ex ho (st := st) (i := i) hp hq he hg h 0
 rw [edgeS_eq, h1, wV_ch (apart_ch hp hq he hg h), wC_ch (apart_ch hp hq he hg h), edgeS_eq]
theorem apart_turn {mo : Mo} (ho : MoOk mo) {st : Stt} {i j : Nat} (hij : i ≠ j) {p q : Pr} (hp : PrOk mo p) (hq : PrOk mo q) {e g : Ed} (he : e ∈ p.edges) (hg : g ∈ q.edges) (h : (edgeF mo p e).apart (edgeF mo q g) = true) :
 mo.can (mo.edgeS st i p e) j q g = mo.can st j q g /\ mo.can (mo.edgeS st j q g) i p e = mo.can st i p e /\ mo.edgeS (mo.edgeS st i p e) j q g = mo.edgeS (mo.edgeS st j q g) i p e := by
 obtain ⟨a, b⟩ := apart_apt h
 refine ⟨apart_can ho hij hp hq he hg a, apart_can ho (Ne.symm hij) hq hp hg he b, ?_⟩
 rw [apart_two ho hp hq he hg a, apart_two ho hq hp hg he b, List.set_comm _ _ hij]
 congr 1
 ·exact setO_comm fun k x l y h1 h2 e1 => and_bit a.ww (wV_bit hp he h1) (e1 ▸ wV_bit hq hg h2)
 ·refine setO_comm fun k x l y h1 h2 e1 => ?_
  obtain ⟨rfl, c1⟩ := wC_some h1
  obtain ⟨rfl, c2⟩ := wC_some h2
  exact and_bit a.cc (wC_bit hp he c1) (e1 ▸ wC_bit hq hg c2)
end Go.V
namespace Go.V
theorem foldl_inv' {α β : Type} {P : β -> Prop} {g : β -> α -> β} : ∀ {l : List α} {a : β}, P a -> (∀ a x, x ∈ l -> P a -> P (g a x)) -> P (l.foldl g a)
 | [], a, h, _ => h
 | x :: l, a, h, hg => foldl_inv' (l := l) (hg a x (by simp) h) fun a y hy => hg a y (by simp [hy])
def ChFi (c : Ch) : Prop := 1 <= c.room /\ c.room <= 3 /\ 1 <= c.width /\ c.width <= 8
def VrFi (v : Vr) : Prop := 1 <= v.width /\ v.width <= 8 /\ trimZ v.value v.width.toNat = v.value
theorem chan_fi {t : List Nd} (hY : Typed t) {k : Nat} (hk : k < t.length) (h : (nd t k).kind = 1) : ChFi (chOf (nd t k)) := by
 have := (hY.fine k hk).chan h
 exact ⟨this.1, this.2.1, this.2.2.1, this.2.2.2.1⟩
theorem var_fi {t : List Nd} (hY : Typed t) {k : Nat} (hk : k < t.length) (h : (nd t k).kind = 2) : VrFi (vrOf (nd t k)) := by
 have := (hY.fine k hk).var h
 exact ⟨this.1, this.2.1, this.2.2.1⟩
theorem gat_fi {t : List Nd} (ht : TreeOk t) (hY : Typed t) : (∀ c ∈ (gat t).ch, ChFi c) /\ ∀ v ∈ (gat t).vs, VrFi v := by
 unfold gat pass1
 refine foldl_inv' (P := fun (a : Ga) => (∀ c ∈ a.ch, ChFi c) /\ ∀ v ∈ a.vs, VrFi v) (by simp) fun (a : Ga) k hk ha => ?_
 have hkl := (ht.ks ht.pos k hk).2
 unfold one1
 split
 ·rename_i h1
  refine ⟨fun c hc => ?_, ha.2⟩
  rcases List.mem_append.1 hc with hc | hc
  ·exact ha.1 c hc
  ·simp only [List.mem_singleton] at hc
   subst hc; exact chan_fi hY hkl h1
 split
 ·rename_i h1
  refine ⟨ha.1, fun c hc => ?_⟩
  rcases List.mem_append.1 hc with hc | hc
  ·exact ha.2 c hc
  ·simp only [List.mem_singleton] at hc
   subst hc; exact var_fi hY hkl h1
 split
 ·exact ha
 split
 ·exact ha
 ·exact ha
theorem locs_fi {t : List Nd} (ht : TreeOk t) (hY : Typed t) {k : Nat} (hk : k < t.length) : ∀ v ∈ (locs t (nd t k)).map vrOf, VrFi v := by
 intro v hv
 obtain ⟨x, hx, rfl⟩ := List.mem_map.1 hv
 obtain ⟨j, hj, rfl⟩ := List.mem_map.1 hx
 obtain ⟨i, hi, e⟩ := List.getElem_of_mem hj
 have hi2 : i < locN t (nd t k) /\ i < (nd t k).ks.length := by
  rw [List.length_take] at hi; omega
 rw [List.getElem_take] at e
 have h2 := locN_in hi2.1 hi2.2
 rw [e] at h2
 have hm := ht.ks hk j (by rw [<- e]; exact List.getElem_mem _)
 exact var_fi hY hm.2 h2
theorem copyF_fi {t : List Nd} (ht : TreeOk t) (hY : Typed t) {ch : List ByteArray} {k seen : Nat} (hk : k < t.length) : ∀ (c : Nat) (a : List Vr × List Pr), (∀ v ∈ a.1, VrFi v) -> ∀ v ∈ (copyF t ch k seen c a).1, VrFi v
 | 0, a, h => h
 | c + 1, a, h => by
   intro v hv
   unfold copyF at hv
   rcases List.mem_append.1 hv with hv | hv
   ·exact copyF_fi ht hY hk c a h v hv
   ·exact locs_fi ht hY hk v hv
theorem model_fi {t : List Nd} (hR : RightT t) (hY : Typed t) : MoFi (modelOf t) := by
 have ht := hR.ok
 obtain ⟨h1, h2⟩ := gat_fi ht hY
 refine ⟨h1, ?_⟩
 show ∀ v ∈ (gbt t).vs, VrFi v
 unfold gbt pass2
 refine foldl_inv' (P := fun (a : Gb) => ∀ v ∈ a.vs, VrFi v) h2 fun a k hk ha => ?_
 have hkl := (ht.ks ht.pos k hk).2
 unfold one2
 split
 ·exact copyF_fi ht hY hkl _ _ ha
 split
 ·exact ha
 ·exact ha
end Go.V
namespace Go.V
variable {mo : Mo} {st : Stt}
theorem mvE_mem {i j : Nat} {v : Mv} (h : v ∈ mo.mvE st i j) : v.kind = 0 /\ v.proc = i /\ v.edge < j /\ mo.can st i (pAt mo.procs i) (eAt (pAt mo.procs i).edges v.edge) = true := by
 unfold Mo.mvE at h
 obtain ⟨k, hk, rfl⟩ := List.mem_map.1 h
 obtain ⟨h1, h2⟩ := List.mem_filter.1 hk
 exact ⟨rfl, rfl, List.mem_range.1 h1, h2⟩
theorem movesP_mem {i : Nat} {v : Mv} (h : v ∈ mo.movesP st i) : v ∈ mo.mvE st i (pAt mo.procs i).edges.length /\ ¬ (0 <= st.hold /\ st.hold ≠ (i : Int)) := by
 rw [Mo.movesP_eq] at h
 split at h
 ·cases h
 ·rename_i c; exact ⟨h, c⟩
theorem movesC_mem {c : Nat} {v : Mv} (h : v ∈ mo.movesC st c) : (v.kind = 1 ∨ v.kind = 2) /\ v.chan = c /\ 0 < (cAt st.chans c).length /\ (v.kind = 2 -> ((cAt st.chans c).length : Int) < (chAt mo.chans c).room) := by
 unfold Mo.movesC at h
 rcases List.mem_append.1 h with h | h
 ·split at h
  ·rename_i hc
   simp only [Bool.and_eq_true, decide_eq_true_eq] at hc
   simp only [List.mem_singleton] at h
   subst h
   exact ⟨.inl rfl, rfl, hc.2, fun e => by cases e⟩
  ·cases h
 ·split at h
  ·rename_i hc
   simp only [Bool.and_eq_true, decide_eq_true_eq] at hc
   simp only [List.mem_singleton] at h
   subst h
   exact ⟨.inr rfl, rfl, hc.1.2, fun _ => hc.2⟩
  ·cases h
theorem moves_mv {v : Mv} (h : v ∈ mo.moves st) : mo.mvOk st v := by
 unfold Mo.moves at h
 rcases List.mem_append.1 h with h | h
 ·obtain ⟨i, hi, hv⟩ := List.mem_flatMap.1 h
  obtain ⟨h1, _⟩ := movesP_mem hv
  obtain ⟨a, b, c, d⟩ := mvE_mem h1
  subst b
  exact .inl ⟨a, List.mem_range.1 hi, c, d⟩
 ·split at h
  ·obtain ⟨c, hc, hv⟩ := List.mem_flatMap.1 h
   obtain ⟨a, rfl, b, d⟩ := movesC_mem hv
   rcases a with a | a
   ·exact .inr (.inl ⟨a, List.mem_range.1 hc, b⟩)
   ·exact .inr (.inr ⟨a, List.mem_range.1 hc, b, d a⟩)
  ·cases h
theorem mv_edge {v : Mv} (h : mo.mvOk st v) (h0 : v.kind = 0) : v.proc < mo.procs.length /\ v.edge < (pAt mo.procs v.proc).edges.length /\ mo.can st v.proc (pAt mo.procs v.proc) (eAt (pAt mo.procs v.proc).edges v.edge) = true := by
 rcases h with ⟨_, h⟩ | ⟨h, _⟩ | ⟨h, _⟩
 ·exact h
 ·omega
 ·omega
theorem doS_edge {v : Mv} (h0 : v.kind = 0) : mo.doS st v = mo.doE st v.proc (pAt mo.procs v.proc) (eAt (pAt mo.procs v.proc).edges v.edge) := by
 unfold Mo.doS
 rw [if_neg (by omega), if_neg (by omega)]
theorem doE_keep {i : Nat} {p : Pr} {e : Ed} (h : e.keep = false) : mo.doE st i p e = mo.edgeS st i p e := by
 unfold Mo.doE
 rw [h]
 simp only [Bool.false_and, Bool.false_eq_true, if_false]
 rw [edgeS_eq]
theorem turns {v w : Mv} (ho : MoOk mo) (hv : mo.mvOk st v) (hw : mo.mvOk st w) (v0 : v.kind = 0) (w0 : w.kind = 0) (hp : w.proc ≠ v.proc) (h1 : (eAt (pAt mo.procs v.proc).edges v.edge).keep = false) (h2 : (eAt (pAt mo.procs w.proc).edges w.edge).keep = false)
 (ha : (edgeF mo (pAt mo.procs v.proc) (eAt (pAt mo.procs v.proc).edges v.edge)).apart (edgeF mo (pAt mo.procs w.proc) (eAt (pAt mo.procs w.proc).edges w.edge)) = true) :
 mo.can (mo.doS st v) w.proc (pAt mo.procs w.proc) (eAt (pAt mo.procs w.proc).edges w.edge) = true /\ mo.can (mo.doS st w) v.proc (pAt mo.procs v.proc) (eAt (pAt mo.procs v.proc).edges v.edge) = true /\ mo.doS (mo.doS st v) w = mo.doS (mo.doS st w) v := by
 obtain ⟨a1, a2, a3⟩ := mv_edge hv v0
 obtain ⟨b1, b2, b3⟩ := mv_edge hw w0
 obtain ⟨c1, c2, c3⟩ := apart_turn ho (st := st) (i := v.proc) (j := w.proc) (Ne.symm hp) (ho.pr _ (pAt_mem a1)) (ho.pr _ (pAt_mem b1)) (eAt_mem a2) (eAt_mem b2) ha
 rw [doS_edge (st := st) v0, doS_edge (st := st) w0, doS_edge w0, doS_edge v0, doE_keep h1, doE_keep h2, doE_keep h1, doE_keep h2]
 exact ⟨c1.trans b3, c2.trans a3, c3⟩
theorem mv_ok {v : Mv} (v0 : v.kind = 0) (h1 : v.proc < mo.procs.length) (h2 : v.edge < (pAt mo.procs v.proc).edges.length) (h3 : mo.can st v.proc (pAt mo.procs v.proc) (eAt (pAt mo.procs v.proc).edges v.edge) = true) : mo.mvOk st v := .inl ⟨v0, h1, h2, h3⟩
theorem nat_z {a : Nat} : ((a : Int) = 0) = (a = 0) := by apply propext; omega
attribute [go_sem] nat_z
theorem moves_len (ho : MoOk mo) {st : Stt} : (mo.moves st).length <= 17000 := by
 have h1 := Mo.mvP_len ho (st := st) (Nat.le_refl _)
 have h2 := Mo.mvC_len (mo := mo) (st := st) (i := mo.chans.length)
 have := ho.np
 have := ho.nc
 rw [Mo.moves_eq, List.length_append]
 split
 ·omega
 ·simp only [List.length_nil]; omega
end Go.V
namespace Go.Proofs.Ytlaeblilmppodaa
open Go.V
set_option maxRecDepth 100000
set_option maxHeartbeats 4000000
variable {m : MdX} {mo : Mo} {ps : List (Pr × PrD)} {x : StD} {st : Stt}
theorem do_bc (hm : MoF m mo ps) (ho : MoOk mo) (hf : MoFi mo) (hx : StGood mo x st) {v : Mv} (hv : mo.mvOk st v) : ∃ x', Eqc vfs 18 [.agg [m.dt, .int .i64 m.g, m.dc, m.dv, m.dp, m.ds, .bool m.b], .agg [x.da, x.dv, x.dc, .int .i64 st.hold], .agg [.int .i64 (v.kind : Int), .int .i64 (v.proc : Int), .int .i64 (v.edge : Int), .int .i64 (v.chan : Int)]] (.agg [x'.da, x'.dv, x'.dc, .int .i64 (mo.doS st v).hold]) /\ StGood mo x' (mo.doS st v) := by
 obtain ⟨d, s', h1, cs, rfl, h2⟩ := do_ok hm ho hf hx hv
 obtain ⟨x', h4, h5⟩ := h2.frz
 have hfit := do_fit ho hf hx.fit hv
 exact ⟨x', bc_of ⟨_, _, h1, h4⟩, h5, fit_8 hf hfit, hfit⟩
theorem apart_bc {a b : Ft} (ha : a.Ok) (hb : b.Ok) : Eqc vfs 14 [.agg a.row, .agg b.row] (.bool (a.apart b)) := iso_bc (apart_ok ha hb) rfl
theorem pz_ft {f : Ft} : PZ (.agg [.int .u32 (f.reads : Int), .int .u32 (f.writes : Int), .int .u32 (f.sends : Int), .int .u32 (f.recvs : Int), .int .u32 (f.sizes : Int), .bool f.part]) := pz_agg fun d hd => by
 simp only [List.mem_cons, List.not_mem_nil, or_false] at hd
 rcases hd with rfl | rfl | rfl | rfl | rfl | rfl <;> exact ⟨rfl, fun _ _ => rfl⟩
theorem made_bc {d : D} {t : List Nd} (hT : TreeAt d t) : ∃ d', Eqc vfs 12 [d] d' /\ MadeR t d' := by
 obtain ⟨r, s1, d', h1, h2, h3⟩ := made18 hT
 exact ⟨d', bc_of ⟨_, _, h1, h2⟩, h3⟩
theorem footTurns_v {d0 d1 : D} {t : List Nd} {raw : List Int} (hT : TreeAt d0 t) (hd : FI d1 raw) (hraw : ∀ n ∈ raw, in64 n) (hlen : raw.length <= maxLen) : EvP vfs 5 [d0, d1] Store.empty fun r _ => r = .bool true := by
 have haw : Eqc vfs 11 [] (.bool true) := iso_bc awake18 rfl
 have pT : PZ d0 := hT.fl.pz
 have pd := pz_i hd
 have oT := FL.one hT.fl
 have od := FL.one hd
 obtain ⟨d', h1, h2⟩ := made_bc hT
 by_cases hl : (60 : Int) < (raw.length : Int)
 ·refine yevp (vf := vf5) rfl ?_
  unfold vf5; refine zF ?_
  refine zY (aN haw (aN hd hl)) ?_
  exact rfl
 rcases h2 with rfl | ⟨m, ps, rfl, hR, hS, hY, hm⟩
 ·refine yevp (vf := vf5) rfl ?_
  unfold vf5; refine zF ?_
  refine zY (aN haw (aN hd (aN hl (aN h1 pT)))) ?_
  exact rfl
 have ho := model_ok hR hS hY
 have hf := model_fi hR hY
 generalize modelOf t = mo at *
 have om := hm.ones
 have fm := pz_mo hm
 obtain ⟨x, st, hh, hx, hold⟩ := held_ok hm ho hf hd hraw
 have fx := pz_st hx.f
 have ox := hx.f.ones
 obtain ⟨dm, hmv, hfl⟩ := moves_ok hm ho hx
 have hmv := bc_of hmv
 unfold mdRow at h1
 refine yevp (vf := vf5) rfl ?_
 unfold vf5; refine zF ?_
 refine zY (aN haw (aN hd (aN hl (aN h1 (aN pT (aN pd (aN om (aN ox (aN fm (aN fx (aN hh hmv))))))))))) ?_
 refine yw_up [0, 1, 5, 6, 7, 8, 25, 33] 0 (mo.moves st).length (fun i f s => f 9 = .int .i64 (i : Int) /\ s.get 0 = some (.cells [m.dt, .int .i64 m.g, m.dc, m.dv, m.dp, m.ds, .bool m.b]) /\ s.get 1 = some (.cells [x.da, x.dv, x.dc, .int .i64 st.hold])) (.mk rfl) (by omega) ⟨rfl, ?_, ?_⟩ ?_
 ·exact zZ0
 ·exact zZ0
 rintro i f s hi ⟨hE, g0, g1⟩
 have l0 := get_lts g0
 have l1 := get_lts g1
 by_cases ci : i < (mo.moves st).length
 rotate_left
 ·refine zY (aN hE (aN ci hfl)) ?_
  exact rfl
 have hv := moves_mv (mvAt_mem ci)
 have hml := moves_len ho (st := st)
 by_cases k0 : (mvAt (mo.moves st) i).kind = 0
 rotate_left
 ·refine zY (aN hE (aN ci (aN hfl k0))) ?_
  exact ⟨g0, g1⟩
 obtain ⟨cp, ce, cc⟩ := mv_edge hv k0
 obtain ⟨x1, hdo, hx1⟩ := do_bc hm ho hf hx hv
 have hvis := visible_bc hm ho cp ce
 have hsx := safe_bc hm ho hx1
 have hss := safe_bc hm ho hx
 have fx1 := pz_st hx1.f
 have ox1 := hx1.f.ones
 have oe := FL.one hfl
 have pe := FL.pz hfl
 have hpo := ho.pr _ (pAt_mem cp)
 have hde := doS_edge (mo := mo) (st := st) k0
 have hsame : mo.visF (pAt mo.procs (mvAt (mo.moves st) i).proc) (eAt (pAt mo.procs (mvAt (mo.moves st) i).proc).edges (mvAt (mo.moves st) i).edge) = false -> mo.safeS (mo.doS st (mvAt (mo.moves st) i)) = mo.safeS st := fun h => by
  rw [hde]; exact safe_still ho hpo (eAt_mem ce) (st := st) h
 generalize hst1 : mo.doS st (mvAt (mo.moves st) i) = st1 at *
 generalize hvv : mvAt (mo.moves st) i = v at *
 have hdo : Eqc vfs 18 [.agg [m.dt, .int .i64 m.g, m.dc, m.dv, m.dp, m.ds, .bool m.b], .agg [x.da, x.dv, x.dc, .int .i64 st.hold], .agg [.int .i64 0, .int .i64 (v.proc : Int), .int .i64 (v.edge : Int), .int .i64 (v.chan : Int)]] (.agg [x1.da, x1.dv, x1.dc, .int .i64 st1.hold]) := by
  rw [k0] at hdo; exact hdo
 have pv : PZ (.agg [.int .i64 0, .int .i64 (v.proc : Int), .int .i64 (v.edge : Int), .int .i64 (v.chan : Int)]) := pz_mv
 obtain ⟨hev, okf⟩ := edge_bc hm ho cp ce
 cases hvf : mo.visF (pAt mo.procs v.proc) (eAt (pAt mo.procs v.proc).edges v.edge)
 rw [hvf] at hvis
 rw [hsame hvf] at hsx
 refine zY (aN hE (aN ci (aN hfl (aN hvv (aN k0 (aN g0 (aN g1 (aN om (aN ox (aN oe (aN pe (aN hdo (aN hvis (aN cp (aN ce (aN fm (aN fx (aN fx1 (aN ox1 (aN hsx hss)))))))))))))))))))) ?_
 rotate_left
 rw [hvf] at hvis
 refine zY (aN hE (aN ci (aN hfl (aN hvv (aN k0 (aN g0 (aN g1 (aN om (aN ox (aN oe (aN pe (aN hdo (aN hvis (aN cp (aN ce (aN fm (aN fx (aN fx1 ox1)))))))))))))))))) ?_
 all_goals
  have fe := pz_ed (e := eAt (pAt mo.procs v.proc).edges v.edge)
  refine wp_cut [0, 1, 5, 6, 7, 8, 9, 10, 11, 25, 33, 43, 51, 97] (fun f' s' => s'.get 0 = some (.cells [m.dt, .int .i64 m.g, m.dc, m.dv, m.dp, m.ds, .bool m.b]) /\ s'.get 1 = some (.cells [x.da, x.dv, x.dc, .int .i64 st.hold])) ?_ ?_
  rotate_left
  ·rintro f' s' ⟨g0, g1⟩
   refine zY ci ?_
   exact ⟨g0, g1⟩
  refine yw_up [0, 1, 5, 6, 7, 8, 9, 10, 11, 25, 33, 43, 51, 97] 0 (mo.moves st).length (fun k f' s' => f' 12 = .int .i64 (k : Int) /\ s'.get 0 = some (.cells [m.dt, .int .i64 m.g, m.dc, m.dv, m.dp, m.ds, .bool m.b]) /\ s'.get 1 = some (.cells [x.da, x.dv, x.dc, .int .i64 st.hold]) /\ s'.get s.next = some (.cells [.int .i64 ((eAt (pAt mo.procs v.proc).edges v.edge).frm : Int), .int .i64 ((eAt (pAt mo.procs v.proc).edges v.edge).to : Int), .int .i64 ((eAt (pAt mo.procs v.proc).edges v.edge).act : Int), .int .i64 (eAt (pAt mo.procs v.proc).edges v.edge).expr, .int .i64 (eAt (pAt mo.procs v.proc).edges v.edge).var, .int .i64 (eAt (pAt mo.procs v.proc).edges v.edge).chan, .bool (eAt (pAt mo.procs v.proc).edges v.edge).keep, .int .i64 ((eAt (pAt mo.procs v.proc).edges v.edge).node : Int)]) /\ s'.get (s.next + 1) = some (.cells [x1.da, x1.dv, x1.dc, .int .i64 st1.hold])) (.mk rfl) (by omega) ⟨rfl, ?_, ?_, ?_, ?_⟩ ?_
  ·exact zZ (aN g0 g1)
  ·exact zZ (aN g0 g1)
  ·exact zZ (aN g0 g1)
  ·exact zZ (aN g0 g1)
  clear g0 g1
  generalize s.next = a at *
  rintro k f' s' hk ⟨hE', g0, g1, ga, gb⟩
  have l0 := get_lts g0
  have l1 := get_lts g1
  have la := get_lts ga
  have lb := get_lts gb
  by_cases ck : k < (mo.moves st).length
  rotate_left
  ·refine zY (aN hE' (aN ck hfl)) ?_
   exact ⟨g0, g1⟩
  have hw := moves_mv (mvAt_mem ck)
  generalize hww : mvAt (mo.moves st) k = w at *
  by_cases w0 : w.kind = 0
  rotate_left
  ·refine zY (aN hE' (aN ck (aN hfl (aN hww w0)))) ?_
   exact ⟨g0, g1, ga, gb⟩
  by_cases hpq : w.proc = v.proc
  ·refine zY (aN hE' (aN ck (aN hfl (aN hww (aN w0 (aN hpq (aN ci hvv))))))) ?_
   exact ⟨g0, g1, ga, gb⟩
  obtain ⟨dp, de, dc⟩ := mv_edge hw w0
  obtain ⟨heg, okg⟩ := edge_bc hm ho dp de
  have hap := apart_bc okf okg
  unfold Ft.row at hev heg hap
  have pf := pz_ft (f := edgeF mo (pAt mo.procs v.proc) (eAt (pAt mo.procs v.proc).edges v.edge))
  have pg := pz_ft (f := edgeF mo (pAt mo.procs w.proc) (eAt (pAt mo.procs w.proc).edges w.edge))
  cases ka : (eAt (pAt mo.procs v.proc).edges v.edge).keep
  rotate_left
  ·exact zZ (aN hE' (aN ck (aN hfl (aN hww (aN w0 (aN hpq (aN ci (aN hvv (aN g0 (aN g1 (aN ga (aN gb (aN om (aN oe (aN pe (aN cp (aN ce (aN dp (aN de (aN fm (aN hev (aN heg ka))))))))))))))))))))))
  cases kb : (eAt (pAt mo.procs w.proc).edges w.edge).keep
  rotate_left
  ·exact zZ (aN hE' (aN ck (aN hfl (aN hww (aN w0 (aN hpq (aN ci (aN hvv (aN g0 (aN g1 (aN ga (aN gb (aN om (aN oe (aN pe (aN cp (aN ce (aN dp (aN de (aN fm (aN hev (aN heg (aN ka kb)))))))))))))))))))))))
  cases hapt : (edgeF mo (pAt mo.procs v.proc) (eAt (pAt mo.procs v.proc).edges v.edge)).apart (edgeF mo (pAt mo.procs w.proc) (eAt (pAt mo.procs w.proc).edges w.edge))
  ·rw [hapt] at hap
   exact zZ (aN hE' (aN ck (aN hfl (aN hww (aN w0 (aN hpq (aN ci (aN hvv (aN g0 (aN g1 (aN ga (aN gb (aN om (aN oe (aN pe (aN cp (aN ce (aN dp (aN de (aN fm (aN hev (aN heg (aN ka (aN kb hap))))))))))))))))))))))))
  rw [hapt] at hap
  obtain ⟨t1, t2, t3⟩ := turns ho hv hw k0 w0 hpq ka kb hapt
  obtain ⟨x2, hdo2, hx2⟩ := do_bc hm ho hf hx hw
  have c1 := can_bc hm ho hx1 dp de
  have c2 := can_bc hm ho hx2 cp ce
  rw [hst1] at t1 t3
  rw [t1] at c1
  rw [t2] at c2
  obtain ⟨x3, hdo3, hx3⟩ := do_bc hm ho hf hx1 (mv_ok w0 dp de t1)
  obtain ⟨x4, hdo4, hx4⟩ := do_bc hm ho hf hx2 (mv_ok k0 cp ce t2)
  have hsm := same_bc hx3.f hx4.f (by rw [hx3.fit.at']; have := ho.np; omega) (by rw [hx3.fit.vars]; have := ho.nv; omega) (fun l hl => by have := (hx3.e.c l hl).1; omega) (by rw [hx3.fit.chans]; have := ho.nc; omega)
  have fx3 := pz_st hx3.f
  rw [t3] at hsm hdo3 fx3
  rw [decide_eq_true rfl] at hsm
  rw [w0] at hdo2 hdo3
  rw [k0] at hdo4
  generalize mo.doS (mo.doS st w) v = st4 at *
  generalize mo.doS st w = st2 at *
  have fx2 := pz_st hx2.f
  have ox2 := hx2.f.ones
  have fx4 := pz_st hx4.f
  have pw : PZ (.agg [.int .i64 0, .int .i64 (w.proc : Int), .int .i64 (w.edge : Int), .int .i64 (w.chan : Int)]) := pz_mv
  have fg := pz_ed (e := eAt (pAt mo.procs w.proc).edges w.edge)
  have hdo2 : Eqc vfs 18 [.agg [m.dt, .int .i64 m.g, m.dc, m.dv, m.dp, m.ds, .bool m.b], .agg [x.da, x.dv, x.dc, .int .i64 st.hold], .agg [.int .i64 0, .int .i64 (w.proc : Int), .int .i64 (w.edge : Int), .int .i64 (w.chan : Int)]] (.agg [x2.da, x2.dv, x2.dc, .int .i64 st2.hold]) := hdo2
  have hdo3 : Eqc vfs 18 [.agg [m.dt, .int .i64 m.g, m.dc, m.dv, m.dp, m.ds, .bool m.b], .agg [x1.da, x1.dv, x1.dc, .int .i64 st1.hold], .agg [.int .i64 0, .int .i64 (w.proc : Int), .int .i64 (w.edge : Int), .int .i64 (w.chan : Int)]] (.agg [x3.da, x3.dv, x3.dc, .int .i64 st4.hold]) := hdo3
  have hdo4 : Eqc vfs 18 [.agg [m.dt, .int .i64 m.g, m.dc, m.dv, m.dp, m.ds, .bool m.b], .agg [x2.da, x2.dv, x2.dc, .int .i64 st2.hold], .agg [.int .i64 0, .int .i64 (v.proc : Int), .int .i64 (v.edge : Int), .int .i64 (v.chan : Int)]] (.agg [x4.da, x4.dv, x4.dc, .int .i64 st4.hold]) := hdo4
  rw [ka] at c2 fe
  rw [kb] at c1 fg
  simp (maxSteps := 2000000) (disch := (first|exact Rf.mk rfl|with_reducible assumption|omega|((repeat (first|rw [nP]|rw [nS]|rw [nx_empty]))<;>omega)|decide)) only [go_sem, ↓reduceIte, hE', ck, hfl, hww, w0, hpq, ci, hvv, g0, g1, ga, gb, om, oe, pe, cp, ce, dp, de, fm, hev, heg, ka, kb, hap, hdo2, hdo3, hdo4, c1, c2, hsm, ox, ox1, ox2, fx, fx1, fx2, fx3, fx4, pw, pv, k0]
theorem footTurns18 {d0 d1 : D} (h0 : ArgT Ty.tree d0) (h1 : ArgT (.slice 1 (.int .i64)) d1) : EvP vfs 5 [d0, d1] Store.empty fun r _ => r = .bool true := by
 obtain ⟨t, hT⟩ := tree_of h0
 obtain ⟨l, hl, hn, hi⟩ := intsA_of h1
 exact footTurns_v hT hl hi hn
end Go.Proofs.Ytlaeblilmppodaa
