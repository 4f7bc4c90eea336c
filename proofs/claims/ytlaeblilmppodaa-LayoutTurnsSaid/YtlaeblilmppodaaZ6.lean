/- Texts one behind the other. -/
import Derived.Test.YtlaeblilmppodaaZ5
set_option linter.unusedSimpArgs false
set_option linter.unusedVariables false
namespace Go.Proofs.Ytlaeblilmppodaa
open Go.V
set_option maxRecDepth 100000
set_option maxHeartbeats 4000000
variable {m : MdX} {mo : Mo} {ps : List (Pr × PrD)} {x : StD} {st : Stt}
theorem trimw_bc' {x w : Int} (h1 : -4294967296 <= x) (h2 : x <= 4294967296) (h3 : 1 <= w) (h4 : w <= 8) : Eqc vfs 45 [.int .i64 x, .int .i64 w] (.int .i64 (trimZ x w.toNat)) := iso_bc (trim_iso (x := x) (n := w) (w := w.toNat) (by omega) ⟨by omega, by omega⟩) rfl
theorem held_ev (hm : MoF m mo ps) (ho : MoOk mo) (hf : MoFi mo) {d : D} {raw : List Int} (hd : FI d raw) (hraw : ∀ n ∈ raw, in64 n) : EvP vfs 16 [.agg [m.dt, .int .i64 m.g, m.dc, m.dv, m.dp, m.ds, .bool m.b], d] Store.empty fun r s => ∃ cs st, r = .agg cs /\ SttR s cs st /\ Fit mo st /\ st.hold = -1 := by
 have om := hm.ones
 have hmv := hm.v
 have hmc := hm.c
 have hnp := ho.np
 have hnv := ho.nv
 have hnc := ho.nc
 have pd := pz_i hd
 refine yevp (vf := vf16) rfl ?_
 unfold vf16; refine zF ?_
 refine zY om ?_
 refine xq_evp (first_ok hm ho) (by simp (disch := (first|exact Rf.mk rfl|with_reducible assumption|omega|((repeat (first|rw [nP]|rw [nS]|rw [nx_empty]))<;>omega)|decide)) only [go_sem, ↓reduceIte]) ?_
 rintro r s1 ⟨⟨dA, dV, dC, EA, EV, EC, rfl, hrA, hrV, hrC, hp, hw⟩, fr⟩
 have l1 := fr.1
 simp only [Store.next_push, nx_empty, Nat.reduceAdd] at l1 hw
 have g0 : s1.get 0 = some (.cells [m.dt, .int .i64 m.g, m.dc, m.dv, m.dp, m.ds, .bool m.b]) := by rw [fr.2 0 (by simp [nx_empty]) (by simp)]; simp (disch := (first|exact Rf.mk rfl|with_reducible assumption|omega|((repeat (first|rw [nP]|rw [nS]|rw [nx_empty]))<;>omega)|decide)) only [go_sem, ↓reduceIte]
 have g1 : s1.get 1 = some (.cells [.nils, .nils, .nils, .int .i64 0]) := by rw [fr.2 1 (by simp [nx_empty]) (by simp)]; simp (disch := (first|exact Rf.mk rfl|with_reducible assumption|omega|((repeat (first|rw [nP]|rw [nS]|rw [nx_empty]))<;>omega)|decide)) only [go_sem, ↓reduceIte]
 have hp1 := ((hp.addR1 g0 fun w h => by have := hw w h; omega).addW g1 (fun w h => by have := hw w h; omega) (by simp)).newW (.cells [.nils, .nils, .nils, .int .i64 0]) [dA, dV, dC, .int .i64 (-1)]
 have o1 := hrA.one
 have o2 := hrV.one
 have o3 := hrC.one
 refine zY (aN o1 (aN o2 o3)) ?_
 generalize hS : (s1.push (.cells [.nils, .nils, .nils, .int .i64 0])).set s1.next (some (.cells [dA, dV, dC, .int .i64 (-1)])) = s2 at *
 generalize s1.next = p at *
 clear hp hw g0 g1 hS fr
 refine wp_cut [0, 1, 2, 4, 5, 8, 9, 10, 11, 40, 63, 80] (fun f s' => f 6 = .int .i64 (mo.procs.length : Int) /\ ∃ A EA, A.length = mo.procs.length /\ (∀ j, j < mo.procs.length -> nAt A j < (pAt mo.procs j).places) /\ Rp dA 1 (rowsN A) EA /\ Hp s' ((p, [dA, dV, dC, .int .i64 (-1)]) :: (1, [.nils, .nils, .nils, .int .i64 0]) :: (EA ++ EV ++ EC)) [(0, [m.dt, .int .i64 m.g, m.dc, m.dv, m.dp, m.ds, .bool m.b])]) ?_ ?_
 ·refine yw_up [0, 1, 2, 4, 5, 8, 9, 10, 11, 40, 63, 80] 0 mo.procs.length (fun i f s' => f 7 = .int .i64 (i : Int) /\ f 6 = .int .i64 (i : Int) /\ ∃ A EA, A.length = mo.procs.length /\ (∀ j, j < mo.procs.length -> nAt A j < (pAt mo.procs j).places) /\ Rp dA 1 (rowsN A) EA /\ Hp s' ((p, [dA, dV, dC, .int .i64 (-1)]) :: (1, [.nils, .nils, .nils, .int .i64 0]) :: (EA ++ EV ++ EC)) [(0, [m.dt, .int .i64 m.g, m.dc, m.dv, m.dp, m.ds, .bool m.b])]) (.mk rfl) (by omega) ⟨rfl, rfl, _, EA, by simp, fun j hj => ?_, hrA, hp1⟩ ?_
  ·have := (ho.pr _ (pAt_mem hj)).inv.two
   rw [nAt_get (by simpa using hj), List.getElem_replicate]; omega
  rintro i f s3 hi ⟨hE7, hE6, A, EA, hA, hfit, hr, hp⟩
  have g0 := hp.rh
  have gp := hp.hd
  have lA := hr.len
  rw [rowsN_length, hA] at lA
  by_cases ci : i < mo.procs.length
  ·obtain ⟨a, e1, e2⟩ := rp_arr hr (by rw [rowsN_length]; omega)
   rw [rowsN_length, hA] at e1
   rw [rowsN_flat] at e2
   subst e2
   have ga := hp.tl.tl.hd
   have pa : p ≠ a := Hp.ne (A := []) (B := [(1, [.nils, .nils, .nils, .int .i64 0])]) (b := (a, cellsI A)) hp
   have hpl := (ho.pr _ (pAt_mem ci)).inv.two
   have hpl2 := (ho.pr _ (pAt_mem ci)).pl
   obtain ⟨z, hz, hzb⟩ := part_ok hd hraw (k := i) (n := (pAt mo.procs i).places) (by omega) (by omega) (by omega)
   have iA : i < A.length := by omega
   rw [e1] at gp hp hr o1 ⊢
   refine zY (aN hE7 (aN hE6 (aN ci (aN g0 (aN gp (aN om (aN o2 (aN o3 (aN ga (aN hzb iA)))))))))) ?_
   have hn0 : 0 < (rowsN (A.set i z)).length := by simp; omega
   have hrp := rp_mk (a := a) hn0
   rw [rowsN_length, List.length_set, hA, rowsN_flat] at hrp
   refine ⟨A.set i z, _, by simp [hA], fun j hj => ?_, hrp, Hp.set (A := [(p, _), (1, [.nils, .nils, .nils, .int .i64 0])]) hp (cellsI (A.set i z))⟩
   rw [nAt_set iA]
   split
   ·rename_i e; subst e; exact hz
   ·exact hfit j hj
  ·obtain rfl : i = mo.procs.length := by omega
   refine zY (aN hE7 (aN hE6 (aN ci (aN g0 (aN gp (aN om (aN o1 (aN o2 (aN o3 lA))))))))) ?_
   exact ⟨A, EA, hA, hfit, hr, hp⟩
 ·rintro f s3 ⟨hE6, A, EA, hA, hfit, hrA, hp⟩
  refine zY hE6 ?_
  refine wp_cut [0, 1, 2, 4, 5, 7, 9, 10, 11, 18, 63, 80] (fun f s' => f 6 = .int .i64 ((mo.procs.length + mo.vars.length : Nat) : Int) /\ ∃ V EV, V.length = mo.vars.length /\ (∀ j, j < mo.vars.length -> trimZ (zAt V j) (vAt mo.vars j).width.toNat = zAt V j) /\ Rp dV 1 (rowsZ V) EV /\ Hp s' ((p, [dA, dV, dC, .int .i64 (-1)]) :: (1, [.nils, .nils, .nils, .int .i64 0]) :: (EA ++ EV ++ EC)) [(0, [m.dt, .int .i64 m.g, m.dc, m.dv, m.dp, m.ds, .bool m.b])]) ?_ ?_
  ·refine yw_up [0, 1, 2, 4, 5, 7, 9, 10, 11, 18, 63, 80] 0 mo.vars.length (fun i f s' => f 8 = .int .i64 (i : Int) /\ f 6 = .int .i64 ((mo.procs.length + i : Nat) : Int) /\ ∃ V EV, V.length = mo.vars.length /\ (∀ j, j < mo.vars.length -> trimZ (zAt V j) (vAt mo.vars j).width.toNat = zAt V j) /\ Rp dV 1 (rowsZ V) EV /\ Hp s' ((p, [dA, dV, dC, .int .i64 (-1)]) :: (1, [.nils, .nils, .nils, .int .i64 0]) :: (EA ++ EV ++ EC)) [(0, [m.dt, .int .i64 m.g, m.dc, m.dv, m.dp, m.ds, .bool m.b])]) (.mk rfl) (by omega) ⟨rfl, rfl, mo.vals, EV, by simp [Mo.vals], fun j hj => ?_, hrV, hp⟩ ?_
   ·rw [vals_at hj]; exact (hf.vr _ (vAt_mem hj)).2.2
   clear hrV hp
   rintro i f s4 hi ⟨hE8, hE6, V, EV, hV, hfitV, hr, hp⟩
   have g0 := hp.rh
   have gp := hp.hd
   have lV := hr.len
   rw [rowsZ_length, hV] at lV
   by_cases ci : i < mo.vars.length
   ·obtain ⟨a, e1, e2⟩ := rp_arr hr (by rw [rowsZ_length]; omega)
    rw [rowsZ_length, hV] at e1
    rw [rowsZ_flat] at e2
    subst e2
    have hp' : Hp s4 ((p, [dA, dV, dC, .int .i64 (-1)]) :: ((1, [.nils, .nils, .nils, .int .i64 0]) :: EA) ++ (a, cellsZ V) :: EC) [(0, [m.dt, .int .i64 m.g, m.dc, m.dv, m.dp, m.ds, .bool m.b])] := by simpa using hp
    have ga := hp'.w (a, cellsZ V) (by simp)
    have pa : p ≠ a := Hp.ne (A := []) (B := (1, [.nils, .nils, .nils, .int .i64 0]) :: EA) (b := (a, cellsZ V)) hp'
    obtain ⟨z, hz, hzb⟩ := part_ok hd hraw (k := mo.procs.length + i) (n := 256) (by omega) (by omega) (by omega)
    have hzb : Eqc vfs 44 [d, .int .i64 ((mo.procs.length + i : Nat) : Int), .int .i64 256] (.int .i64 (z : Int)) := hzb
    have iV : i < V.length := by omega
    have hw := hf.vr _ (vAt_mem ci)
    have hwt := trimw_bc' (x := (z : Int)) (w := (vAt mo.vars i).width) (by omega) (by omega) hw.1 hw.2.1
    rw [e1] at gp hp hp' hr o2 ⊢
    refine zY (aN hE8 (aN hE6 (aN ci (aN g0 (aN gp (aN om (aN o1 (aN o3 (aN ga (aN hzb (aN iV hwt))))))))))) ?_
    have hn0 : 0 < (rowsZ (V.set i (trimZ (z : Int) (vAt mo.vars i).width.toNat))).length := by simp; omega
    have hrp := rp_mk (a := a) hn0
    rw [rowsZ_length, List.length_set, hV, rowsZ_flat] at hrp
    refine ⟨by rw [Nat.add_assoc], V.set i (trimZ (z : Int) (vAt mo.vars i).width.toNat), _, by simp [hV], fun j hj => ?_, hrp, ?_⟩
    ·rw [zAt_set iV]
     split
     ·rename_i e; subst e; exact trim_idem (by omega)
     ·exact hfitV j hj
    ·have := Hp.set (A := (p, [dA, .arr a 0 mo.vars.length 1, dC, .int .i64 (-1)]) :: (1, [.nils, .nils, .nils, .int .i64 0]) :: EA) (B := EC) hp' (cellsZ (V.set i (trimZ (z : Int) (vAt mo.vars i).width.toNat)))
     simpa using this
   ·obtain rfl : i = mo.vars.length := by omega
    refine zY (aN hE8 (aN hE6 (aN ci (aN g0 (aN gp (aN om (aN o1 (aN o2 (aN o3 lV))))))))) ?_
    exact ⟨V, EV, hV, hfitV, hr, hp⟩
  ·clear hrV hp
   rintro f s4 ⟨hE6, V, EV, hV, hfitV, hrV, hp⟩
   refine zY hE6 ?_
   refine wp_cut [0, 1, 2, 4, 5, 7, 8, 18, 40] (fun f s' => ∃ W st, Hp s' ((p, [dA, dV, dC, .int .i64 (-1)]) :: (1, [.nils, .nils, .nils, .int .i64 0]) :: W) [(0, [m.dt, .int .i64 m.g, m.dc, m.dv, m.dp, m.ds, .bool m.b])] /\ (∀ s, Has s W -> SttR s [dA, dV, dC, .int .i64 (-1)] st) /\ Fit mo st /\ st.hold = -1) ?_ ?_
   rotate_left
   ·rintro f s5 ⟨W, st, hp, hS, hF, hh⟩
    have gp := hp.hd
    have g1 := hp.tl.hd
    have l1 := get_lts g1
    refine zY (aN gp (aN g1 (aN o1 (aN o2 o3)))) ?_
    refine rb_of ⟨_, st, rfl, hS _ ?_, hF, hh⟩
    exact (Hp.set (A := []) hp.tl [dA, dV, dC, .int .i64 (-1)]).tl.w
   have hfit0 : ∀ L : List (List Int), L.length = mo.chans.length -> (∀ j, j < mo.chans.length -> ((cAt L j).length : Int) <= (chAt mo.chans j).room /\ ∀ n ∈ cAt L j, trimZ n (chAt mo.chans j).width.toNat = n) -> Fit mo ⟨A, V, L, -1⟩ := fun L hL h => fitA_iff.1 ⟨hA, hV, hL, hfit, hfitV, fun j hj => (h j hj).1, fun j hj => (h j hj).2, by simp only; omega⟩
   by_cases h0 : mo.chans.length = 0
   ·have g0 := hp.rh
    have gp := hp.hd
    have e1 : nilRows mo.chans.length = [] := by rw [h0]; rfl
    rw [e1] at hrC
    have lC := hrC.len
    refine yw_up [0, 1, 2, 4, 5, 7, 8, 18, 40] 0 0 (fun i f s' => f 9 = .int .i64 (i : Int) /\ s' = s4) (.mk rfl) (by omega) ⟨rfl, rfl⟩ ?_
    rintro i f s5 hi ⟨hE9, rfl⟩
    obtain rfl : i = 0 := by omega
    refine zY (aN hE9 (aN g0 (aN gp (aN om (aN o1 (aN o2 (aN o3 lC))))))) ?_
    refine ⟨EA ++ EV ++ EC, ⟨A, V, [], -1⟩, hp, fun s hs => ?_, hfit0 [] (by simp [h0]) fun j hj => by omega, rfl⟩
    exact SttR.mk (st := ⟨A, V, [], -1⟩) [] (hrA.sn fun e he => hs e (by simp [he])) (hrV.sn fun e he => hs e (by simp [he])) (hrC.sn fun e he => hs e (by simp [he])) (.inl rfl) rfl fun j hj => by simp at hj
   ·have lC := hrC.len
    obtain ⟨c, e1, e2⟩ := rp_arr hrC (by simp [nilRows]; omega)
    rw [nilRows_flat] at e2
    rw [show (nilRows mo.chans.length).length = mo.chans.length by simp [nilRows]] at e1 lC
    subst e2
    subst e1
    clear hrC lC
    refine yw_up [0, 1, 2, 4, 5, 7, 8, 18, 40] 0 mo.chans.length (fun i f s' => f 9 = .int .i64 (i : Int) /\ ∃ (k : Nat) (L : List (List Int)) (qs : List D) (ED : Hs), f 6 = .int .i64 (k : Int) /\ k <= 20 + 4 * i /\ L.length = mo.chans.length /\ qs.length = mo.chans.length /\ (∀ j, j < mo.chans.length -> i <= j -> dAt qs j = .nils /\ cAt L j = []) /\ (∀ j, j < mo.chans.length -> ∃ E, Rp (dAt qs j) 1 (rowsZ (cAt L j)) E /\ ∀ e ∈ E, e ∈ ED) /\ (∀ j, j < mo.chans.length -> ((cAt L j).length : Int) <= (chAt mo.chans j).room /\ ∀ n ∈ cAt L j, trimZ n (chAt mo.chans j).width.toNat = n) /\ Hp s' ((p, [dA, dV, .arr c 0 mo.chans.length 1, .int .i64 (-1)]) :: (1, [.nils, .nils, .nils, .int .i64 0]) :: (EA ++ EV ++ (c, qs) :: ED)) [(0, [m.dt, .int .i64 m.g, m.dc, m.dv, m.dp, m.ds, .bool m.b])]) (.mk rfl) (by omega) ⟨rfl, _, List.replicate mo.chans.length [], List.replicate mo.chans.length .nils, [], rfl, by omega, by simp, by simp, fun j hj _ => ⟨dAt_rep hj, cAt_rep⟩, fun j hj => ⟨[], by rw [dAt_rep hj, cAt_rep]; exact .inl ⟨rfl, rfl, rfl⟩, by simp⟩, fun j hj => by
     rw [cAt_rep]
     have := hf.ch _ (chAt_mem hj)
     exact ⟨by simp; omega, by simp⟩, hp⟩ ?_
    clear hp
    rintro i f s5 hi ⟨hE9, k, L, qs, ED, hE6, hk, hL, hq, hnil, hrp, hfl, hp⟩
    have g0 := hp.rh
    have gp := hp.hd
    have hp' : Hp s5 ((p, [dA, dV, .arr c 0 mo.chans.length 1, .int .i64 (-1)]) :: ((1, [.nils, .nils, .nils, .int .i64 0]) :: (EA ++ EV)) ++ (c, qs) :: ED) [(0, [m.dt, .int .i64 m.g, m.dc, m.dv, m.dp, m.ds, .bool m.b])] := by simpa using hp
    have gc := hp'.w (c, qs) (by simp)
    by_cases ci : i < mo.chans.length
    ·have hw := hf.ch _ (chAt_mem ci)
     have hro : ∃ r : Nat, (chAt mo.chans i).room = (r : Int) := ⟨(chAt mo.chans i).room.toNat, by omega⟩
     obtain ⟨r, hr⟩ := hro
     obtain ⟨z, hz, hzb⟩ := part_ok hd hraw (k := k) (n := r + 1) (by omega) (by omega) (by omega)
     obtain ⟨hn1, hn2⟩ := hnil i ci (Nat.le_refl _)
     refine zY (aN hE9 (aN hE6 (aN ci (aN g0 (aN gp (aN om (aN o1 (aN o2 (aN hr hzb))))))))) ?_
     have iq : i < qs.length := by omega
     have iL : i < L.length := by omega
     refine yw_up [0, 1, 2, 4, 5, 7, 8, 9, 10, 18, 40, 63] 0 z (fun j f s' => f 11 = .int .i64 (j : Int) /\ f 6 = .int .i64 ((k + 1 + j : Nat) : Int) /\ ∃ (l : List Int) (q : D) (E : Hs), l.length = j /\ (∀ n ∈ l, trimZ n (chAt mo.chans i).width.toNat = n) /\ Rp q 1 (rowsZ l) E /\ Hp s' ((p, [dA, dV, .arr c 0 mo.chans.length 1, .int .i64 (-1)]) :: (1, [.nils, .nils, .nils, .int .i64 0]) :: (EA ++ EV ++ (c, qs.set i q) :: (E ++ ED))) [(0, [m.dt, .int .i64 m.g, m.dc, m.dv, m.dp, m.ds, .bool m.b])]) (.mk rfl) (by omega) ⟨rfl, rfl, [], .nils, [], rfl, by simp, .inl ⟨rfl, rfl, rfl⟩, ?_⟩ ?_
     ·have e : qs.set i .nils = qs := by
       rw [<- hn1, dAt_get iq]; simp
      rw [e]; exact hp
     rintro j f s6 hj ⟨hE11, hE6, l, q, E, hl, htr, hr1, hp⟩
     clear hp' gc
     have g0 := hp.rh
     have gp := hp.hd
     have hp' : Hp s6 ((p, [dA, dV, .arr c 0 mo.chans.length 1, .int .i64 (-1)]) :: ((1, [.nils, .nils, .nils, .int .i64 0]) :: (EA ++ EV)) ++ (c, qs.set i q) :: (E ++ ED)) [(0, [m.dt, .int .i64 m.g, m.dc, m.dv, m.dp, m.ds, .bool m.b])] := by simpa using hp
     have gc := hp'.w (c, qs.set i q) (by simp)
     have pc : p ≠ c := Hp.ne (A := []) (B := (1, [.nils, .nils, .nils, .int .i64 0]) :: (EA ++ EV)) (b := (c, qs.set i q)) hp'
     have lp := get_lts gp
     have lc := get_lts gc
     have oq := hr1.one
     by_cases cj : j < z
     ·obtain ⟨y, hy, hyb⟩ := part_ok hd hraw (k := k + 1 + j) (n := 256) (by omega) (by omega) (by omega)
      have hyb : Eqc vfs 44 [d, .int .i64 ((k + 1 + j : Nat) : Int), .int .i64 256] (.int .i64 (y : Int)) := hyb
      have hwt := trimw_bc' (x := (y : Int)) (w := (chAt mo.chans i).width) (by omega) (by omega) hw.2.2.1 hw.2.2.2
      have iq2 : i < (qs.set i q).length := by simpa using iq
      have eq1 : (qs.set i q)[i]? = some q := by simp [iq]
      have eq2 : i + 1 <= qs.length := by omega
      have nE : ∀ w ∈ (1, [.nils, .nils, .nils, .int .i64 0]) :: (EA ++ EV) ++ (c, qs.set i q) :: (E ++ ED), w.1 ≠ p := Hp.neAll hp'
      have nEp : NotIn p (E.map Prod.fst) := Hp.notIn fun e he => nE e (by simp [he])
      have nEc : NotIn c (E.map Prod.fst) := Hp.notIn fun e he => by
       have h1 : Hp s6 ((c, qs.set i q) :: (E ++ ED)) [(0, [m.dt, .int .i64 m.g, m.dc, m.dv, m.dp, m.ds, .bool m.b])] := hp'.sub (List.sublist_append_right _ _) fun _ h => h
       exact h1.neAll e (by simp [he])
      refine zY (aN hE9 (aN hE11 (aN hE6 (aN ci (aN cj (aN g0 (aN gp (aN gc (aN om (aN o1 (aN o2 (aN oq (aN hq (aN eq1 (aN hyb hwt))))))))))))))) ?_
      have hp2 : Hp s6 (((p, [dA, dV, .arr c 0 mo.chans.length 1, .int .i64 (-1)]) :: (1, [.nils, .nils, .nils, .int .i64 0]) :: (EA ++ EV ++ [(c, qs.set i q)])) ++ E ++ ED) [(0, [m.dt, .int .i64 m.g, m.dc, m.dv, m.dp, m.ds, .bool m.b])] := by simpa using hp
      refine mx_app (E := E) hr1 hp2 rfl (rowsZ_len _) (by decide) (by simp; omega) (by simp (disch := (first|exact Rf.mk rfl|with_reducible assumption|omega|((repeat (first|rw [nP]|rw [nS]|rw [nx_empty]))<;>omega)|decide)) only [go_sem, ↓reduceIte, nEp, nEc]) ?_
      rintro s7 hr7 hp7 l7 u7
      have gp := hp7.hd
      have gc := hp7.w (c, qs.set i q) (by simp)
      simp (disch := (first|exact Rf.mk rfl|with_reducible assumption|omega|((repeat (first|rw [nP]|rw [nS]|rw [nx_empty]))<;>omega)|decide)) only [go_sem, ↓reduceIte, hE9, hE11, hE6, ci, cj, gp, gc, hq, List.length_set, tk_D, List.set_set]
      refine ⟨by rw [Nat.add_assoc], l ++ [trimZ (y : Int) (chAt mo.chans i).width.toNat], _, _, by simp [hl], fun n hn => ?_, by simpa [rowsZ] using hr7, ?_⟩
      ·rcases List.mem_append.1 hn with h | h
       ·exact htr n h
       ·simp only [List.mem_singleton] at h; subst h; exact trim_idem (by omega)
      ·have h7 : Hp s7 (((p, [dA, dV, .arr c 0 mo.chans.length 1, .int .i64 (-1)]) :: (1, [.nils, .nils, .nils, .int .i64 0]) :: (EA ++ EV)) ++ (c, qs.set i q) :: ((s6.next + 1, (rowsZ l ++ [[D.int IntKind.i64 (trimZ (y : Int) (chAt mo.chans i).width.toNat)]]).flatten) :: ED)) [(0, [m.dt, .int .i64 m.g, m.dc, m.dv, m.dp, m.ds, .bool m.b])] := by simpa using hp7
       have := h7.set (qs.set i (.arr (s6.next + 1) 0 (l.length + 1) 1))
       simpa [rowsZ] using this
     ·obtain rfl : j = z := by omega
      refine zY (aN hE9 (aN hE11 (aN hE6 (aN ci cj)))) ?_
      refine ⟨_, L.set i l, qs.set i q, E ++ ED, rfl, by omega, by simp [hL], by simp [hq], fun b hb hib => ?_, fun b hb => ?_, fun b hb => ?_, hp⟩
      ·rw [dAt_set iq, cAt_set iL, if_neg (by omega), if_neg (by omega)]
       exact hnil b hb (by omega)
      ·rw [dAt_set iq, cAt_set iL]
       by_cases hbi : b = i
       ·rw [if_pos hbi, if_pos hbi]
        exact ⟨E, hr1, fun e he => by simp [he]⟩
       ·rw [if_neg hbi, if_neg hbi]
        obtain ⟨E2, h1, h2⟩ := hrp b hb
        exact ⟨E2, h1, fun e he => by simp [h2 e he]⟩
      ·rw [cAt_set iL]
       by_cases hbi : b = i
       ·rw [if_pos hbi]
        subst hbi
        exact ⟨by omega, htr⟩
       ·rw [if_neg hbi]
        exact hfl b hb
    ·obtain rfl : i = mo.chans.length := by omega
     refine zY (aN hE9 (aN hE6 (aN ci (aN g0 (aN gp (aN om (aN o1 o2))))))) ?_
     refine ⟨EA ++ EV ++ (c, qs) :: ED, ⟨A, V, L, -1⟩, hp, fun s hs => ?_, hfit0 L hL hfl, rfl⟩
     refine SttR.mk (st := ⟨A, V, L, -1⟩) qs (hrA.sn fun e he => hs e (by simp [he])) (hrV.sn fun e he => hs e (by simp [he])) (.inr (.inl ⟨c, by simp [hq], ?_⟩)) (.inr ⟨c, by simp [hq]⟩) (by simp [hq, hL]) fun j hj => ?_
     ·rw [flat_one]; exact hs (c, qs) (by simp)
     ·obtain ⟨E, h1, h2⟩ := hrp j (by omega)
      exact h1.chr fun e he => hs e (by simp [h2 e he])
end Go.Proofs.Ytlaeblilmppodaa
namespace Go.V
variable {fs : FuncId -> Option VFunc}
end Go.V
namespace Go.V
end Go.V
namespace Go.V
structure Inc (f g : Ft) : Prop where
 r : ∀ b, f.reads.testBit b = true -> g.reads.testBit b = true
 z : ∀ b, f.sizes.testBit b = true -> g.sizes.testBit b = true
theorem Inc.refl (f : Ft) : Inc f f := ⟨fun _ h => h, fun _ h => h⟩
theorem Inc.trans {f g h : Ft} (a : Inc f g) (b : Inc g h) : Inc f h := ⟨fun x k => b.r x (a.r x k), fun x k => b.z x (a.z x k)⟩
structure Agree (f : Ft) (st st' : Stt) : Prop where
 r : ∀ b, f.reads.testBit b = true -> zAt st.vars b = zAt st'.vars b
 z : ∀ b, f.sizes.testBit b = true -> (cAt st.chans b).length = (cAt st'.chans b).length
def setO {α : Type} (l : List α) : Option (Nat × α) -> List α
 | none => l
 | some (i, x) => l.set i x
theorem Agree.hold {f : Ft} {st st' : Stt} (h : Agree f st st') (z : Int) : Agree f st { st' with hold := z } := ⟨h.r, h.z⟩
end Go.V
namespace Go.V
theorem foldl_inv' {α β : Type} {P : β -> Prop} {g : β -> α -> β} : ∀ {l : List α} {a : β}, P a -> (∀ a x, x ∈ l -> P a -> P (g a x)) -> P (l.foldl g a)
 | [], a, h, _ => h
 | x :: l, a, h, hg => foldl_inv' (l := l) (hg a x (by simp) h) fun a y hy => hg a y (by simp [hy])
def ChFi (c : Ch) : Prop := 1 <= c.room /\ c.room <= 3 /\ 1 <= c.width /\ c.width <= 8
def VrFi (v : Vr) : Prop := 1 <= v.width /\ v.width <= 8 /\ trimZ v.value v.width.toNat = v.value
theorem chan_fi {t : List Nd} (hY : Typed t) {k : Nat} (hk : k < t.length) (h : (nd t k).kind = 1) : ChFi (chOf (nd t k)) := by
 have := (hY.fine k hk).chan h
 exact ⟨this.1, this.2.1, this.2.2.1, this.2.2.2.1⟩
theorem var_fi {t : List Nd} (hY : Typed t) {k : Nat} (hk : k < t.length) (h : (nd t k).kind = 2) : VrFi (vrOf (nd t k)) := by
 have := (hY.fine k hk).var h
 exact ⟨this.1, this.2.1, this.2.2.1⟩
theorem gat_fi {t : List Nd} (ht : TreeOk t) (hY : Typed t) : (∀ c ∈ (gat t).ch, ChFi c) /\ ∀ v ∈ (gat t).vs, VrFi v := by
 unfold gat pass1
 refine foldl_inv' (P := fun (a : Ga) => (∀ c ∈ a.ch, ChFi c) /\ ∀ v ∈ a.vs, VrFi v) (by simp) fun (a : Ga) k hk ha => ?_
 have hkl := (ht.ks ht.pos k hk).2
 unfold one1
 split
 ·rename_i h1
  refine ⟨fun c hc => ?_, ha.2⟩
  rcases List.mem_append.1 hc with hc | hc
  ·exact ha.1 c hc
  ·simp only [List.mem_singleton] at hc
   subst hc; exact chan_fi hY hkl h1
 split
 ·rename_i h1
  refine ⟨ha.1, fun c hc => ?_⟩
  rcases List.mem_append.1 hc with hc | hc
  ·exact ha.2 c hc
  ·simp only [List.mem_singleton] at hc
   subst hc; exact var_fi hY hkl h1
 split
 ·exact ha
 split
 ·exact ha
 ·exact ha
theorem locs_fi {t : List Nd} (ht : TreeOk t) (hY : Typed t) {k : Nat} (hk : k < t.length) : ∀ v ∈ (locs t (nd t k)).map vrOf, VrFi v := by
 intro v hv
 obtain ⟨x, hx, rfl⟩ := List.mem_map.1 hv
 obtain ⟨j, hj, rfl⟩ := List.mem_map.1 hx
 obtain ⟨i, hi, e⟩ := List.getElem_of_mem hj
 have hi2 : i < locN t (nd t k) /\ i < (nd t k).ks.length := by
  rw [List.length_take] at hi; omega
 rw [List.getElem_take] at e
 have h2 := locN_in hi2.1 hi2.2
 rw [e] at h2
 have hm := ht.ks hk j (by rw [<- e]; exact List.getElem_mem _)
 exact var_fi hY hm.2 h2
theorem copyF_fi {t : List Nd} (ht : TreeOk t) (hY : Typed t) {ch : List ByteArray} {k seen : Nat} (hk : k < t.length) : ∀ (c : Nat) (a : List Vr × List Pr), (∀ v ∈ a.1, VrFi v) -> ∀ v ∈ (copyF t ch k seen c a).1, VrFi v
 | 0, a, h => h
 | c + 1, a, h => by
   intro v hv
   unfold copyF at hv
   rcases List.mem_append.1 hv with hv | hv
   ·exact copyF_fi ht hY hk c a h v hv
   ·exact locs_fi ht hY hk v hv
theorem model_fi {t : List Nd} (hR : RightT t) (hY : Typed t) : MoFi (modelOf t) := by
 have ht := hR.ok
 obtain ⟨h1, h2⟩ := gat_fi ht hY
 refine ⟨h1, ?_⟩
 show ∀ v ∈ (gbt t).vs, VrFi v
 unfold gbt pass2
 refine foldl_inv' (P := fun (a : Gb) => ∀ v ∈ a.vs, VrFi v) h2 fun a k hk ha => ?_
 have hkl := (ht.ks ht.pos k hk).2
 unfold one2
 split
 ·exact copyF_fi ht hY hkl _ _ ha
 split
 ·exact ha
 ·exact ha
end Go.V
namespace Go.V
variable {mo : Mo} {st : Stt}
theorem nat_z {a : Nat} : ((a : Int) = 0) = (a = 0) := by apply propext; omega
attribute [go_sem] nat_z
end Go.V
namespace Go.V
def bL (n : Int) (w : Nat) : List Bool := (List.range w).map (bitZ n)
def aB (l : List Bool) (i : Nat) : Bool := l.getD i false
@[simp] theorem bL_len (n : Int) (w : Nat) : (bL n w).length = w := by simp [bL]
theorem bL_succ (n : Int) (w : Nat) : bL n (w + 1) = bL n w ++ [bitZ n w] := by simp [bL, List.range_succ]
theorem aB_bL {n : Int} {w i : Nat} (h : i < w) : aB (bL n w) i = bitZ n i := by simp [bL, aB, List.getD, h]
theorem aB_get {l : List Bool} {i : Nat} (h : i < l.length) : aB l i = l[i] := by simp [aB, List.getD, h]
theorem aB_app {l r : List Bool} {i : Nat} (h : i < l.length) : aB (l ++ r) i = aB l i := by
 unfold aB List.getD
 rw [List.getElem?_append_left h]
theorem num_bL {n : Int} {w : Nat} {r : List Bool} : (num (aB (bL n w ++ r)) w : Int) = n % 2 ^ w := by
 rw [<- bit_num]
 congr 1
 exact num_cong fun i hi => by rw [aB_app (by simpa using hi), aB_bL hi]
theorem val_bL {n : Int} {w : Nat} {r : List Bool} (h : 0 < w) : valZ (aB (bL n w ++ r)) w = trimZ n w := by
 rw [<- bit_val h]
 exact valZ_cong h fun i hi => by rw [aB_app (by simpa using hi), aB_bL hi]
theorem bL_cong {a b : Int} {w : Nat} (h : a % 2 ^ w = b % 2 ^ w) : bL a w = bL b w := by
 unfold bL
 refine List.map_congr_left fun i hi => ?_
 have hi := List.mem_range.1 hi
 have e : num (bitZ a) w = num (bitZ b) w := by
  have := bit_num a w
  have := bit_num b w
  omega
 exact num_inj e i hi
theorem bL_num {l : List Bool} {w : Nat} (h : w <= l.length) : bL (num (aB l) w : Int) w = l.take w := by
 refine List.ext_getElem (by simp; omega) fun i h1 h2 => ?_
 have hi : i < w := by simpa using h1
 rw [List.getElem_take]
 have e : num (bitZ (num (aB l) w : Int)) w = num (aB l) w := by
  have h3 := bit_num (num (aB l) w : Int) w
  have h4 := num_lt (aB l) w
  rw [Int.emod_eq_of_lt (by omega) (by have : ((2 ^ w : Nat) : Int) = 2 ^ w := by simp
                                       omega)] at h3
  omega
 have := num_inj e i hi
 rw [<- aB_get h1, aB_bL hi, this, aB_get (by omega)]
theorem bL_val {l : List Bool} {w : Nat} (h0 : 0 < w) (h : w <= l.length) : bL (valZ (aB l) w) w = l.take w := by
 rw [<- bL_num h]
 exact bL_cong (valZ_emod h0)
structure Code {α β : Type} (A : α -> Prop) (sz : α -> Nat) (e : α -> β -> List Bool) (d : α -> List Bool -> Option (β × List Bool)) (V : α -> β -> Prop) : Prop where
 enc : ∀ a b r, A a -> V a b -> d a (e a b ++ r) = some (b, r)
 dec : ∀ a l b r, A a -> sz a <= l.length -> d a l = some (b, r) -> V a b /\ l = e a b ++ r
 len : ∀ a b, V a b -> (e a b).length = sz a
def encL {α β : Type} (e : α -> β -> List Bool) : List α -> List β -> List Bool
 | a :: as', b :: bs' => e a b ++ encL e as' bs'
 | _, _ => []
def decL {α β : Type} (d : α -> List Bool -> Option (β × List Bool)) : List α -> List Bool -> Option (List β × List Bool)
 | [], l => some ([], l)
 | a :: as', l => match d a l with
   | some (b, r) => match decL d as' r with
     | some (bs', r') => some (b :: bs', r')
     | none => none
   | none => none
def AllV {α β : Type} (V : α -> β -> Prop) : List α -> List β -> Prop
 | [], [] => True
 | a :: as', b :: bs' => V a b /\ AllV V as' bs'
 | _, _ => False
def szL {α : Type} (sz : α -> Nat) (l : List α) : Nat := (l.map sz).sum
theorem codeL {α β : Type} {A : α -> Prop} {sz : α -> Nat} {e : α -> β -> List Bool} {d : α -> List Bool -> Option (β × List Bool)} {V : α -> β -> Prop} (h : Code A sz e d V) : Code (fun l => ∀ a ∈ l, A a) (szL sz) (encL e) (decL d) (AllV V) where
 enc := by
  intro a
  induction a with
  | nil => intro b r ha hv; cases b with
    | nil => rfl
    | cons _ _ => exact hv.elim
  | cons x a ih => intro b r ha hv; cases b with
    | nil => exact hv.elim
    | cons y b =>
      simp only [encL, decL, List.append_assoc]
      rw [h.enc x y _ (ha x (by simp)) hv.1]
      simp only [ih b r (fun z hz => ha z (by simp [hz])) hv.2]
 dec := by
  intro a
  induction a with
  | nil => intro l b r _ _ hd
           simp only [decL, Option.some.injEq, Prod.mk.injEq] at hd
           obtain ⟨rfl, rfl⟩ := hd
           exact ⟨trivial, rfl⟩
  | cons x a ih =>
    intro l b r ha hl hd
    simp only [szL, List.map_cons, List.sum_cons] at hl
    simp only [decL] at hd
    split at hd
    ·rename_i y r1 h1
     obtain ⟨v1, e1⟩ := h.dec x l y r1 (ha x (by simp)) (by omega) h1
     have hlen := h.len x y v1
     split at hd
     ·rename_i ys r2 h2
      simp only [Option.some.injEq, Prod.mk.injEq] at hd
      obtain ⟨rfl, rfl⟩ := hd
      have : l.length = (e x y).length + r1.length := by rw [e1, List.length_append]
      obtain ⟨v2, e2⟩ := ih r1 ys r2 (fun z hz => ha z (by simp [hz])) (by unfold szL; omega) h2
      exact ⟨⟨v1, v2⟩, by rw [e1, e2]; simp [encL]⟩
     ·cases hd
    ·cases hd
 len := by
  intro a
  induction a with
  | nil => intro b hv; cases b with
    | nil => rfl
    | cons _ _ => exact hv.elim
  | cons x a ih => intro b hv; cases b with
    | nil => exact hv.elim
    | cons y b => simp only [encL, List.length_append, szL, List.map_cons, List.sum_cons, h.len x y hv.1]; rw [ih b hv.2]; rfl
theorem decL_snoc {α β : Type} (d : α -> List Bool -> Option (β × List Bool)) (a : α) : ∀ (l : List α) (bs : List Bool), decL d (l ++ [a]) bs = (match decL d l bs with
 | some (o, r) => (match d a r with
   | some (b, r') => some (o ++ [b], r')
   | none => none)
 | none => none)
 | [], bs => by
   simp only [List.nil_append, decL]
 | x :: l, bs => by
   simp only [List.cons_append, decL]
   cases d x bs with
   | none => rfl
   | some y =>
     simp only [decL_snoc d a l y.2]
     cases decL d l y.2 with
     | none => rfl
     | some z =>
       cases h : d a z.2 <;> simp [h]
def widF (n : Int) : Nat -> Nat -> Nat
 | 0, w => w
 | f + 1, w => if w < 16 /\ (2 : Int) ^ w < n then widF n f (w + 1) else w
def wid (n : Int) : Nat := widF n 15 1
theorem widF_in {n : Int} : ∀ {f w : Nat}, 1 <= w -> w + f <= 16 -> 1 <= widF n f w /\ widF n f w <= 16
 | 0, w, h1, h2 => by simp only [widF]; omega
 | f + 1, w, h1, h2 => by
   unfold widF
   split
   ·exact widF_in (by omega) (by omega)
   ·omega
theorem wid_in (n : Int) : 1 <= wid n /\ wid n <= 16 := widF_in (by omega) (by omega)
theorem widF_enough {n : Int} (hn : n <= 65536) : ∀ {f w : Nat}, w + f = 16 -> n <= 2 ^ widF n f w
 | 0, w, h => by
   obtain rfl : w = 16 := by omega
   simp only [widF]; omega
 | f + 1, w, h => by
   unfold widF
   split
   ·exact widF_enough hn (by omega)
   ·rename_i c
    omega
theorem wid_enough {n : Int} (hn : n <= 65536) : n <= 2 ^ wid n := widF_enough hn (by omega)
def encP (p : Pr) (n : Nat) : List Bool := bL (n : Int) (wid (p.places : Int))
def decP (p : Pr) (l : List Bool) : Option (Nat × List Bool) := if num (aB l) (wid (p.places : Int)) < p.places then some (num (aB l) (wid (p.places : Int)), l.drop (wid (p.places : Int))) else none
theorem take_drop {l : List Bool} (w : Nat) : l = l.take w ++ l.drop w := (List.take_append_drop w l).symm
theorem drop_bL {n : Int} {w : Nat} {r : List Bool} : (bL n w ++ r).drop w = r := by
 have := List.drop_left (l₁ := bL n w) (l₂ := r)
 rwa [bL_len] at this
theorem pow_nat (w : Nat) : ((2 ^ w : Nat) : Int) = 2 ^ w := by simp
theorem codeP : Code (fun p : Pr => p.places <= 65536) (fun p : Pr => wid (p.places : Int)) encP decP (fun p n => n < p.places) where
 enc := by
  intro p n r ha h
  have h1 := wid_enough (n := (p.places : Int)) (by have : p.places <= 65536 := ha; omega)
  have e : num (aB (encP p n ++ r)) (wid (p.places : Int)) = n := by
   have := num_bL (n := (n : Int)) (w := wid (p.places : Int)) (r := r)
   rw [Int.emod_eq_of_lt (by omega) (by omega)] at this
   unfold encP
   omega
  unfold decP
  rw [e, if_pos h]
  unfold encP
  rw [drop_bL]
 dec := by
  intro p l b r ha hl hd
  unfold decP at hd
  split at hd
  ·rename_i c
   simp only [Option.some.injEq, Prod.mk.injEq] at hd
   obtain ⟨rfl, rfl⟩ := hd
   refine ⟨c, ?_⟩
   unfold encP
   rw [bL_num hl]
   exact take_drop _
  ·cases hd
 len := by intro p n h; simp [encP]
def encV (v : Vr) (n : Int) : List Bool := bL n v.width.toNat
def decV (v : Vr) (l : List Bool) : Option (Int × List Bool) := some (valZ (aB l) v.width.toNat, l.drop v.width.toNat)
theorem codeV : Code (fun v : Vr => 1 <= v.width) (fun v : Vr => v.width.toNat) encV decV (fun v n => trimZ n v.width.toNat = n) where
 enc := by
  intro v n r ha h
  have ha : 1 <= v.width := ha
  unfold decV encV
  rw [val_bL (by omega), h, drop_bL]
 dec := by
  intro v l b r ha hl hd
  have ha : 1 <= v.width := ha
  unfold decV at hd
  simp only [Option.some.injEq, Prod.mk.injEq] at hd
  obtain ⟨rfl, rfl⟩ := hd
  refine ⟨trimZ_valZ (by omega), ?_⟩
  unfold encV
  rw [bL_val (by omega) hl]
  exact take_drop _
 len := by intro v n h; simp [encV]
def encK (w : Nat) (l : List Int) : Nat -> List Bool
 | 0 => []
 | k + 1 => encK w l k ++ bL (zAt l k) w
def encC (c : Ch) (l : List Int) : List Bool := bL (l.length : Int) 2 ++ encK c.width.toNat l c.room.toNat
def decK (w n : Nat) : Nat -> List Bool -> List Int × Bool × List Bool
 | 0, l => ([], true, l)
 | k + 1, l => let x := decK w n k l
   if k < n then (x.1 ++ [valZ (aB x.2.2) w], x.2.1, x.2.2.drop w) else (x.1, x.2.1 && decide (valZ (aB x.2.2) w = 0), x.2.2.drop w)
def decC (c : Ch) (l : List Bool) : Option (List Int × List Bool) :=
 let x := decK c.width.toNat (num (aB l) 2) c.room.toNat (l.drop 2)
 if (num (aB l) 2 : Int) <= c.room /\ x.2.1 = true then some (x.1, x.2.2) else none
theorem encK_len (w : Nat) (l : List Int) : ∀ k, (encK w l k).length = k * w
 | 0 => by simp [encK]
 | k + 1 => by simp [encK, encK_len w l k, Nat.succ_mul]
theorem decK_drop (w n : Nat) : ∀ k l, (decK w n k l).2.2 = l.drop (k * w)
 | 0, l => by simp [decK]
 | k + 1, l => by
   unfold decK
   simp only
   split <;> simp only [decK_drop w n k l, List.drop_drop, Nat.succ_mul]
theorem decK_len (w n : Nat) : ∀ k l, (decK w n k l).1.length = min k n
 | 0, l => by simp [decK]
 | k + 1, l => by
   unfold decK
   simp only
   split
   ·simp only [List.length_append, decK_len w n k l, List.length_singleton]; omega
   ·simp only [decK_len w n k l]; omega
theorem trim_zero {w : Nat} (h : 0 < w) : trimZ 0 w = 0 := by
 have := pow_half h
 have := pow_pos' (w - 1)
 exact trimZ_id h (by omega) (by omega)
theorem decK_enc {w : Nat} (hw : 0 < w) {l : List Int} (hl : ∀ n ∈ l, trimZ n w = n) : ∀ k r, decK w l.length k (encK w l k ++ r) = (l.take k, true, r)
 | 0, r => by simp [decK, encK]
 | k + 1, r => by
   unfold decK encK
   rw [List.append_assoc, decK_enc hw hl k]
   simp only
   split
   ·rename_i hk
    have hz : zAt l k = l[k] := zAt_get hk
    rw [val_bL hw, hz, hl _ (List.getElem_mem hk), drop_bL, List.take_succ_eq_append_getElem hk]
   ·rename_i hk
    have hz : zAt l k = 0 := by simp [zAt, List.getD, List.getElem?_eq_none (by omega : l.length <= k)]
    rw [val_bL hw, hz, trim_zero hw, drop_bL, List.take_of_length_le (by omega), List.take_of_length_le (by omega)]
    simp
theorem decK_mem {w n : Nat} (hw : 0 < w) : ∀ k l, ∀ x ∈ (decK w n k l).1, trimZ x w = x
 | 0, l, x, hx => by simp [decK] at hx
 | k + 1, l, x, hx => by
   unfold decK at hx
   simp only at hx
   split at hx
   ·rcases List.mem_append.1 hx with hx | hx
    ·exact decK_mem hw k l x hx
    ·simp only [List.mem_singleton] at hx
     subst hx; exact trimZ_valZ hw
   ·exact decK_mem hw k l x hx
theorem zAt_app {l : List Int} {x : Int} {k : Nat} (h : k < l.length) : zAt (l ++ [x]) k = zAt l k := by
 unfold zAt List.getD
 rw [List.getElem?_append_left h]
theorem encK_app {w : Nat} {l : List Int} {x : Int} : ∀ {k}, k <= l.length -> encK w (l ++ [x]) k = encK w l k
 | 0, _ => rfl
 | k + 1, h => by
   unfold encK
   rw [encK_app (by omega), zAt_app (by omega)]
theorem decK_back {w n : Nat} (hw : 0 < w) : ∀ k l, k * w <= l.length -> (decK w n k l).2.1 = true -> encK w (decK w n k l).1 k = l.take (k * w)
 | 0, l, _, _ => by simp [encK]
 | k + 1, l, hl, ht => by
   have hlk : k * w <= l.length := by rw [Nat.succ_mul] at hl; omega
   have hd := decK_drop w n k l
   have hn := decK_len w n k l
   unfold decK at ht ⊢
   simp only at ht ⊢
   have hlen : w <= (l.drop (k * w)).length := by rw [List.length_drop]; rw [Nat.succ_mul] at hl; omega
   have hv := bL_val hw hlen
   have hfin : l.take ((k + 1) * w) = l.take (k * w) ++ (l.drop (k * w)).take w := by rw [Nat.succ_mul, List.take_add]
   split at ht
   ·rename_i hk
    simp only [hk, if_true] at ht ⊢
    have ih := decK_back hw k l hlk ht
    unfold encK
    rw [encK_app (by omega), ih, hfin, <- hv, hd]
    congr 2
    have e : (decK w n k l).1.length = k := by omega
    unfold zAt List.getD
    rw [List.getElem?_append_right (by omega), e, Nat.sub_self]
    rfl
   ·rename_i hk
    simp only [hk, if_false, Bool.and_eq_true, decide_eq_true_eq] at ht ⊢
    have ih := decK_back hw k l hlk ht.1
    have h0 := ht.2
    rw [hd] at h0
    unfold encK
    rw [ih, hfin, <- hv, h0]
    congr 2
    unfold zAt List.getD
    rw [List.getElem?_eq_none (by omega)]
    rfl
theorem codeC : Code (fun c : Ch => 1 <= c.width /\ 1 <= c.room /\ c.room <= 3) (fun c : Ch => 2 + c.room.toNat * c.width.toNat) encC decC (fun c l => (l.length : Int) <= c.room /\ ∀ n ∈ l, trimZ n c.width.toNat = n) where
 enc := by
  intro c l r ha h
  obtain ⟨a1, a2, a3⟩ := ha
  have e : num (aB (encC c l ++ r)) 2 = l.length := by
   have := num_bL (n := (l.length : Int)) (w := 2) (r := encK c.width.toNat l c.room.toNat ++ r)
   rw [Int.emod_eq_of_lt (by omega) (by omega)] at this
   unfold encC
   rw [List.append_assoc]
   omega
  unfold decC
  simp only [e]
  have e2 : (encC c l ++ r).drop 2 = encK c.width.toNat l c.room.toNat ++ r := by
   unfold encC
   rw [List.append_assoc, drop_bL]
  rw [e2, decK_enc (by omega) h.2]
  simp only [h.1, and_self, if_true]
  rw [List.take_of_length_le (by omega)]
 dec := by
  intro c l b r ha hl hd
  obtain ⟨a1, a2, a3⟩ := ha
  unfold decC at hd
  simp only at hd
  split at hd
  ·rename_i c1
   simp only [Option.some.injEq, Prod.mk.injEq] at hd
   obtain ⟨rfl, rfl⟩ := hd
   have hn := decK_len c.width.toNat (num (aB l) 2) c.room.toNat (l.drop 2)
   have hb := decK_back (w := c.width.toNat) (n := num (aB l) 2) (by omega) c.room.toNat (l.drop 2) (by rw [List.length_drop]; omega) c1.2
   refine ⟨⟨by rw [hn]; omega, decK_mem (by omega) _ _⟩, ?_⟩
   unfold encC
   rw [hb, hn, decK_drop, List.append_assoc, List.take_append_drop, Nat.min_eq_right (by omega), bL_num (by omega)]
   exact take_drop _
  ·cases hd
 len := by intro c l h; simp [encC, encK_len]
theorem allV_iff {α β : Type} {V : α -> β -> Prop} : ∀ {a : List α} {b : List β}, AllV V a b ↔ a.length = b.length /\ ∀ i (h : i < a.length) (h' : i < b.length), V a[i] b[i]
 | [], [] => by simp [AllV]
 | [], _ :: _ => by simp [AllV]
 | _ :: _, [] => by simp [AllV]
 | x :: a, y :: b => by
   have ih := allV_iff (V := V) (a := a) (b := b)
   simp only [AllV, ih, List.length_cons]
   constructor
   ·rintro ⟨h1, h2, h3⟩
    refine ⟨by omega, fun i hi hi' => ?_⟩
    cases i with
    | zero => exact h1
    | succ i => exact h3 i (by simpa using hi) (by simpa using hi')
   ·rintro ⟨h1, h2⟩
    exact ⟨h2 0 (by simp) (by simp), by omega, fun i hi hi' => h2 (i + 1) (by simpa using hi) (by simpa using hi')⟩
def Mo.pack (mo : Mo) (st : Stt) : List Bool := encL encP mo.procs st.at' ++ encL encV mo.vars st.vars ++ encL encC mo.chans st.chans ++ bL (st.hold + 1) 3
def Mo.nbits (mo : Mo) : Nat := szL (fun p : Pr => wid (p.places : Int)) mo.procs + szL (fun v : Vr => v.width.toNat) mo.vars + szL (fun c : Ch => 2 + c.room.toNat * c.width.toNat) mo.chans + 3
def Mo.unpack (mo : Mo) (bs : List Bool) : Option Stt := match decL decP mo.procs bs with
 | some (a, r1) => match decL decV mo.vars r1 with
   | some (v, r2) => match decL decC mo.chans r2 with
     | some (c, r3) => if (num (aB r3) 3 : Int) - 1 < (mo.procs.length : Int) then some ⟨a, v, c, (num (aB r3) 3 : Int) - 1⟩ else none
     | none => none
   | none => none
 | none => none
theorem fit_all {mo : Mo} {st : Stt} : Fit mo st ↔ AllV (fun (p : Pr) n => n < p.places) mo.procs st.at' /\ AllV (fun (v : Vr) n => trimZ n v.width.toNat = n) mo.vars st.vars /\ AllV (fun (c : Ch) (l : List Int) => (l.length : Int) <= c.room /\ ∀ n ∈ l, trimZ n c.width.toNat = n) mo.chans st.chans /\ -1 <= st.hold /\ st.hold < (mo.procs.length : Int) := by
 simp only [allV_iff]
 constructor
 ·intro h
  exact ⟨⟨h.at'.symm, fun i a b => h.pl i b a⟩, ⟨h.vars.symm, fun i a b => h.vr i b a⟩, ⟨h.chans.symm, fun i a b => ⟨h.cl i b a, h.cv i b a⟩⟩, h.hold⟩
 ·rintro ⟨⟨a1, a2⟩, ⟨b1, b2⟩, ⟨c1, c2⟩, d⟩
  exact ⟨a1.symm, b1.symm, c1.symm, fun i a b => a2 i b a, fun i a b => b2 i b a, fun i a b => (c2 i b a).1, fun i a b => (c2 i b a).2, d⟩
structure MoLa (mo : Mo) : Prop where
 pl : ∀ p ∈ mo.procs, p.places <= 65536
 vr : ∀ v ∈ mo.vars, 1 <= v.width
 ch : ∀ c ∈ mo.chans, 1 <= c.width /\ 1 <= c.room /\ c.room <= 3
 np : mo.procs.length <= 4
theorem mo_la {mo : Mo} (ho : MoOk mo) (hf : MoFi mo) : MoLa mo :=
 ⟨fun p hp => by have := (ho.pr p hp).pl; omega, fun v hv => (hf.vr v hv).1, fun c hc => ⟨(hf.ch c hc).2.2.1, (hf.ch c hc).1, (hf.ch c hc).2.1⟩, ho.np⟩
theorem pack_len {mo : Mo} {st : Stt} (h : Fit mo st) : (mo.pack st).length = mo.nbits := by
 obtain ⟨h1, h2, h3, h4⟩ := fit_all.1 h
 simp only [Mo.pack, Mo.nbits, List.length_append, bL_len, (codeL codeP).len _ _ h1, (codeL codeV).len _ _ h2, (codeL codeC).len _ _ h3]
theorem pack_unpack {mo : Mo} (hm : MoLa mo) {bs : List Bool} {st : Stt} (hl : bs.length = mo.nbits) (h : mo.unpack bs = some st) : Fit mo st /\ mo.pack st = bs := by
 unfold Mo.nbits at hl
 unfold Mo.unpack at h
 split at h
 ·rename_i a r1 e1
  obtain ⟨v1, q1⟩ := (codeL codeP).dec _ _ _ _ hm.pl (by omega) e1
  have l1 := (codeL codeP).len _ _ v1
  have k1 : bs.length = (encL encP mo.procs a).length + r1.length := by rw [q1, List.length_append]
  split at h
  ·rename_i v r2 e2
   obtain ⟨v2, q2⟩ := (codeL codeV).dec _ _ _ _ hm.vr (by omega) e2
   have l2 := (codeL codeV).len _ _ v2
   have k2 : r1.length = (encL encV mo.vars v).length + r2.length := by rw [q2, List.length_append]
   split at h
   ·rename_i c r3 e3
    obtain ⟨v3, q3⟩ := (codeL codeC).dec _ _ _ _ hm.ch (by omega) e3
    have l3 := (codeL codeC).len _ _ v3
    have k3 : r2.length = (encL encC mo.chans c).length + r3.length := by rw [q3, List.length_append]
    split at h
    ·rename_i c1
     simp only [Option.some.injEq] at h
     subst h
     refine ⟨fit_all.2 ⟨v1, v2, v3, by simp only; omega, c1⟩, ?_⟩
     have e : (num (aB r3) 3 : Int) - 1 + 1 = (num (aB r3) 3 : Int) := by omega
     unfold Mo.pack
     simp only
     rw [e, bL_num (by omega), List.take_of_length_le (by omega), q1, q2, q3]
     simp only [List.append_assoc]
    ·cases h
   ·cases h
  ·cases h
 ·cases h
theorem i64_mask {n : Int} {w : Nat} (h : w <= 16) : IntKind.i64.wrap (andI .i64 n (2 ^ w - 1)) = n % 2 ^ w := by
 show IntKind.i64.wrap ((BitVec.ofInt IntKind.i64.bits n &&& BitVec.ofInt IntKind.i64.bits (2 ^ w - 1)).toNat : Int) = n % 2 ^ w
 have hp : 2 ^ w <= 2 ^ 16 := Nat.pow_le_pow_right (by omega) h
 have hp0 : 0 < 2 ^ w := Nat.pos_of_ne_zero (by simp)
 have hc : ((2 ^ w : Nat) : Int) = 2 ^ w := by simp
 have a2 : (BitVec.ofInt IntKind.i64.bits (2 ^ w - 1)).toNat = 2 ^ w - 1 := by
  rw [BitVec.toNat_ofInt, show IntKind.i64.bits = 64 from rfl, <- hc]
  rw [Int.emod_eq_of_lt (by omega) (by omega)]
  omega
 have e1 : (BitVec.ofInt IntKind.i64.bits n &&& BitVec.ofInt IntKind.i64.bits (2 ^ w - 1)).toNat = (n % 2 ^ 64).toNat % 2 ^ w := by
  rw [BitVec.toNat_and, a2, Nat.and_two_pow_sub_one_eq_mod, BitVec.toNat_ofInt]
  rfl
 rw [e1]
 have h0 : 0 <= n % 2 ^ 64 := Int.emod_nonneg _ (by decide)
 have hm := Nat.mod_lt (n % 2 ^ 64).toNat hp0
 rw [i64_id (by omega) (by omega), Int.natCast_emod, Int.toNat_of_nonneg h0, hc]
 exact Int.emod_emod_of_dvd _ (pow_dvd' (w := w) (v := 64) (by omega))
end Go.V
namespace Go.Proofs.Ytlaeblilmppodaa
open Go.V
set_option maxRecDepth 100000
set_option maxHeartbeats 4000000
theorem pow_le16 {w : Nat} (h : w <= 16) : (2 : Int) ^ w <= 65536 /\ (1 : Int) <= 2 ^ w := by
 have h1 : 2 ^ w <= 2 ^ 16 := Nat.pow_le_pow_right (by omega) h
 have h2 : 0 < 2 ^ w := Nat.two_pow_pos w
 have := pow_nat w
 omega
theorem shl_64 {w : Nat} {k : IntKind} (h : w <= 16) : shiftInt .shl .i64 1 (w : Int) = some (.int .i64 (2 ^ w)) := by
 have := pow_le16 h
 unfold shiftInt
 rw [if_neg (by omega)]
 simp only [Int.toNat_natCast]
 rw [show min w IntKind.i64.bits = w by rw [show IntKind.i64.bits = 64 from rfl]; omega, Int.one_mul, i64_id (by omega) (by omega)]
theorem width_bc {n : Int} : Eqc vfs 33 [.int .i64 n] (.int .i64 (wid n : Int)) := by
 refine bc_of ?_
 refine yiso (vf := vf33) rfl ?_
 unfold vf33; refine zF ?_
 refine zY0 ?_
 refine yw_up [0, 2] 0 15 (fun i f s => f 3 = .int .i64 ((i + 1 : Nat) : Int) /\ widF n (15 - i) (i + 1) = wid n) (.mk rfl) (by omega) ⟨rfl, rfl⟩ ?_
 rintro i f s hi ⟨hE, hw⟩
 have hs := shl_64 (w := i + 1) (k := .u64) (by omega)
 have hu : IntKind.u64.wrap ((i + 1 : Nat) : Int) = ((i + 1 : Nat) : Int) := by
  rw [IntKind.wrap_u64]; omega
 have h16 : (((i + 1 : Nat) : Int) < 16) = (i < 15) := by apply propext; omega
 by_cases ci : i < 15
 ·have e : 15 - i = (15 - (i + 1)) + 1 := by omega
  rw [e, widF] at hw
  by_cases cn : (2 : Int) ^ (i + 1) < n
  ·rw [if_pos ⟨by omega, cn⟩] at hw
   refine zY (aN hE (aN hs (aN hu (aN h16 (aN ci cn))))) ?_
   exact hw
  ·rw [if_neg (by omega)] at hw
   refine zY (aN hE (aN hs (aN hu (aN h16 (aN ci cn))))) ?_
   exact hw
 ·obtain rfl : i = 15 := by omega
  have hw : 15 + 1 = wid n := hw
  refine zY (aN hE (aN hs (aN hu (aN h16 ci)))) ?_
  rw [<- hw]; rfl
theorem bwidth_bc {n : Int} (h1 : 1 <= n) (h2 : n <= 16) : Eqc vfs 87 [.int .i64 n] (.int .i64 n) := by
 have e1 : max n 1 = n := by omega
 have e2 : min n 16 = n := by omega
 refine bc_of ?_
 refine yiso (vf := vf87) rfl ?_
 unfold vf87; refine zF ?_
 exact zZ (aN e1 e2)
theorem trim_bc {x : Int} {w : Nat} (hx : in64 x) (h1 : 1 <= w) (h2 : w <= 16) : Eqc vfs 110 [.int .i64 x, .int .i64 (w : Int)] (.int .i64 (trimZ x w)) := by
 have hb := bwidth_bc (n := (w : Int)) (by omega) (by omega)
 have s1 := shl_64 (w := w) (k := .i64) h2
 have s2 := shl_64 (w := w - 1) (k := .i64) (by omega)
 have p1 := pow_le16 h2
 have p2 := pow_le16 (w := w - 1) (by omega)
 have ew : IntKind.i64.wrap ((w : Int) - 1) = ((w - 1 : Nat) : Int) := by rw [i64_id (by omega) (by omega)]; omega
 have e1 : IntKind.i64.wrap ((2 : Int) ^ w - 1) = 2 ^ w - 1 := i64_id (by omega) (by omega)
 have hm := i64_mask (n := x) h2
 have h3 := Int.emod_nonneg x (b := 2 ^ w) (by omega)
 have h4 := Int.emod_lt_of_pos x (pow_pos' w)
 have e2 : IntKind.i64.wrap (x % 2 ^ w - 2 ^ w) = x % 2 ^ w - 2 ^ w := i64_id (by omega) (by omega)
 refine bc_of ?_
 refine yiso (vf := vf110) rfl ?_
 unfold vf110; refine zF ?_
 by_cases hc : 2 ^ (w - 1) <= x % 2 ^ w
 ·rw [trimZ_if h1, if_pos hc]
  exact zZ (aN hb (aN s1 (aN s2 (aN ew (aN e1 (aN hm (aN hc e2)))))))
 ·rw [trimZ_if h1, if_neg hc]
  exact zZ (aN hb (aN s1 (aN s2 (aN ew (aN e1 (aN hm hc))))))
theorem narrow_bc {x : Int} {w : Nat} (hx : in64 x) (h1 : 1 <= w) (h2 : w <= 16) : Eqc vfs 84 [.int .i64 x, .int .i64 (w : Int)] (.bool (decide (trimZ x w = x))) := by
 have ht := trim_bc hx h1 h2
 refine bc_of ?_
 refine yiso (vf := vf84) rfl ?_
 unfold vf84; refine zF ?_
 exact zZ ht
end Go.Proofs.Ytlaeblilmppodaa
namespace Go.V
variable {fs : FuncId -> Option VFunc}
theorem wx_evpI {pairs T i t fo args rest s Q} {env : Env} {f : FuncId} {caps : List D} {l : List D} {P : D -> Store -> Prop} (ids : List Nat) (hf : env.ev fo = .fn f caps) (hr : EvP fs f l s fun d s' => P d s' /\ Fr ids s s') (ha : env.evL args ++ caps = l)
 (he : ∀ e ∈ T, (e.i, i) ∈ pairs -> ∀ id, e.rd = some id -> id < s.next /\ id ∉ ids)
 (h : ∀ d s', P d s' -> Fr ids s s' -> XX fs pairs (⟨i, none, ids ++ (List.range s'.next).filter fun x => s.next <= x⟩ :: T) rest ((t, d) :: env) s' Q) : WX fs pairs T ((i, ⟨some t, .m (.call .raw fo args), none⟩) :: rest) env s Q := by
 subst ha
 obtain ⟨d, s', ⟨n, hn⟩, h1, h2⟩ := hr
 refine wx_m ⟨n, by simp only [evM, callV, hf]; exact hn⟩ (E := ids ++ (List.range s'.next).filter fun x => s.next <= x) ?_ h2.1 ?_ (xx_sound (h d s' h1 h2))
 ·intro id hid
  simp only [List.mem_append, not_or] at hid
  by_cases c : id < s.next
  ·exact (h2.2 id c hid.1).symm
  ·by_cases c2 : id < s'.next
   ·exact (hid.2 (by simp; omega)).elim
   ·rw [Store.get_none _ _ (by omega), Store.get_none _ _ (by omega)]
 ·intro e he1 he2 id hid
  have := he e he1 he2 id hid
  simp only [List.mem_append, not_or]
  refine ⟨this.2, ?_⟩
  simp; omega
theorem rowsB_app (a b : List Bool) : rowsB (a ++ b) = rowsB a ++ rowsB b := by simp [rowsB]
theorem rowsB_flat (l : List Bool) : (rowsB l).flatten = cellsB l := by
 induction l with
 | nil => rfl
 | cons b l ih => show [.bool b] ++ (rowsB l).flatten = _; rw [ih]; rfl
structure GrB (s0 s : Store) (ids : List Nat) (A B R : Hs) (d : D) (l : List Bool) (E : Hs) : Prop where
 rp : Rp d 1 (rowsB l) E
 hp : Hp s (A ++ E ++ B) R
 fr : Fr ids s0 s
 nw : ∀ e ∈ E, e.1 ∈ ids ∨ s0.next <= e.1
theorem GrB.mk0 {s : Store} {A B R E : Hs} {d : D} {l : List Bool} (h : Rp d 1 (rowsB l) E) (hp : Hp s (A ++ E ++ B) R) : GrB s s (E.map Prod.fst) A B R d l E :=
 ⟨h, hp, Fr.refl _ _, fun e he => .inl (List.mem_map_of_mem he)⟩
theorem bm_grB {s0 : Store} {ids : List Nat} {t rest env K s d b A B R E} {l : List Bool} (h : GrB s0 s ids A B R d l E) (hl : l.length <= 1000000)
 (k : ∀ d' s' E', GrB s0 s' ids A B R d' (l ++ [b]) E' -> XQ fs [] rest ((t, d') :: env) s' K) : BM (appendV 1 1 d (.arr s.next 0 1 1) (s.push (.cells [.bool b]))) fs t rest env K := by
 refine bm_app2 (row := [.bool b]) h.rp h.hp rfl (rowsB_len _) (by decide) (by simp; omega) fun s' h1 h2 h3 h4 => k _ s' [(s.next + 1, (rowsB l ++ [[D.bool b]]).flatten)] ⟨?_, by rw [List.append_assoc]; exact h2, ?_, ?_⟩
 ·rw [rowsB_app]; exact h1
 ·refine ⟨by have := h.fr.1; omega, fun j hj hn => ?_⟩
  have := h.fr.1
  rw [h4 j (by omega) fun e he hc => ?_, h.fr.2 j hj hn]
  rcases h.nw e he with h5 | h5
  ·exact hn (hc ▸ h5)
  ·omega
 ·intro e he
  simp only [List.mem_singleton] at he
  subst he
  have := h.fr.1
  exact .inr (by simp only; omega)
theorem GrB.frz {s0 s : Store} {ids : List Nat} {A B R E : Hs} {d : D} {l : List Bool} (h : GrB s0 s ids A B R d l E) : ∃ d', ice s.get 20 d = some d' /\ FL 1 d' (rowsB l) := rp_frz h.rp h.hp (fun e he => by simp [he]) (rowsB_len _) (rowsB_scal _)
theorem tk_B {l : List Bool} {n : Nat} {b : Bool} (h : n < l.length) : List.take n (cellsB l) ++ [.bool b] ++ List.drop (n + 1) (cellsB l) = cellsB (l.set n b) := by
 rw [tk_D (by simpa using h)]
 simp [cellsB, List.map_set]
theorem cB_at {l : List Bool} {i : Nat} (h : i < l.length) : (cellsB l)[i]? = some (.bool (aB l i)) := by rw [aB_get h]; simp [cellsB, h]
attribute [go_sem] tk_B cB_at cellsB_length
def upB (l : List Bool) (w : Nat) : List Bool := l ++ List.replicate (w - l.length) false
theorem upB_len {l : List Bool} {w : Nat} (h : l.length <= w) : (upB l w).length = w := by simp [upB]; omega
theorem upB_set {l : List Bool} {w : Nat} {e : Bool} (h : l.length < w) : (upB l w).set l.length e = upB (l ++ [e]) w := by
 unfold upB
 rw [List.set_append_right _ _ (Nat.le_refl _), Nat.sub_self]
 obtain ⟨k, hk⟩ := Nat.exists_eq_add_of_lt h
 have e1 : w - l.length = k + 1 := by omega
 have e2 : w - (l ++ [e]).length = k := by simp; omega
 rw [e1, e2, List.replicate_succ, List.set_cons_zero, List.append_assoc]
 rfl
theorem upB_all {l : List Bool} {w : Nat} (h : l.length = w) : upB l w = l := by simp [upB, h]
theorem zerosB' (w : Nat) : zeros [.bool false] w = cellsB (upB [] w) := by
 rw [zerosB]
 simp [upB]
theorem xq_evpc {i t fo args rest s K} {env : Env} {f : FuncId} {caps : List D} {l : List D} {P : D -> Store -> Prop} (hf : env.ev fo = .fn f caps) (hr : EvP fs f l s P) (ha : env.evL args ++ caps = l)
 (h : ∀ d s', P d s' -> XQ fs [] rest ((t, d) :: env) s' K) : WQ fs [] ((i, ⟨some t, .m (.call .raw fo args), none⟩) :: rest) env s K := by
 subst ha
 obtain ⟨d, s', ⟨n, hn⟩, hp⟩ := hr
 exact vq_m ⟨n, by simp only [evM, callV, hf]; exact hn⟩ (xq_sound (h d s' hp))
theorem Rp.exps {s : Store} {d x : D} {bytes : Nat} {rows new : List (List D)} {E : Hs} (h : Rp d 1 rows E) (he : Has s E) (hx : FL 1 x new) (hrs : ∀ r ∈ rows, r.length = 1) (hns : ∀ r ∈ new, r.length = 1) (hb : bytes <= 1000) (hl : rows.length + new.length <= 1000000000) (hn : new ≠ []) :
 ∃ s', appendV 1 bytes d x s = some (.arr s.next 0 (rows.length + new.length) 1, s') /\ s'.next = s.next + 1 /\ s'.get s.next = some (.cells (rows.flatten ++ new.flatten)) /\ ∀ id, id ≠ s.next -> (∀ e ∈ E, e.1 ≠ id) -> s'.get id = s.get id := by
 have b3 : bytes <= 2 ^ 20 := Nat.le_trans hb (by decide)
 obtain ⟨r1, r2, r3⟩ := fl_row hx (g := s.get)
 have hnl : new.length ≠ 0 := by simpa using hn
 rcases h with ⟨rfl, rfl, rfl⟩ | ⟨id, rfl, rfl, hne⟩
 ·have b1 : new.length * bytes <= 2 ^ 45 := Nat.le_trans (Nat.mul_le_mul (show new.length <= 1000000000 by simpa using hl) hb) (by decide)
  have hl' : new.length <= 1000000000 := by simpa using hl
  refine ⟨s.push (.cells new.flatten), ?_, by simp, by rw [get_push_new rfl]; simp, fun j hj _ => by rw [Store.get_push, if_neg hj]⟩
  unfold appendV
  simp only [r1, r2, r3, b3, decide_true, Bool.and_self, if_true]
  rw [if_neg hnl, if_pos ⟨b1, by omega⟩]
  simp
 ·have hf := flat_len hrs
  have hg : s.get id = some (.cells rows.flatten) := he (id, rows.flatten) (by simp)
  have b1 : (rows.length + new.length) * bytes <= 2 ^ 45 := Nat.le_trans (Nat.mul_le_mul hl hb) (by decide)
  refine ⟨(s.set id none).push (.cells (rows.flatten ++ new.flatten)), ?_, by simp, get_push_new (by simp), fun j hj hn => ?_⟩
  ·unfold appendV
   simp only [r1, r2, r3, b3, decide_true, Bool.and_self, if_true, hg, Nat.zero_add, hf, and_self, List.drop_zero]
   rw [if_neg hnl, if_pos ⟨b1, by omega⟩]
  ·have : id ≠ j := hn (id, rows.flatten) (by simp)
   rw [Store.get_push, if_neg (by simpa using hj), get_set_ne this.symm]
theorem GrB.exps {s0 s : Store} {ids : List Nat} {A B R E : Hs} {d x : D} {l r : List Bool} (h : GrB s0 s ids A B R d l E) (hx : FL 1 x (rowsB r)) (hl : l.length <= 1000000) (hr : r.length <= 1000) (hn : r ≠ []) :
 ∃ d' s' E', appendV 1 1 d x s = some (d', s') /\ GrB s0 s' ids A B R d' (l ++ r) E' /\ s.next <= s'.next /\ ∀ id, id ∉ s.next :: E.map Prod.fst -> s.get id = s'.get id := by
 have he : Has s E := fun y hy => h.hp.w y (by simp [hy])
 obtain ⟨s', h1, h2, h3, h4⟩ := h.rp.exps (bytes := 1) he hx (rowsB_len _) (rowsB_len _) (by decide) (by simp; omega) (by simpa [rowsB] using hn)
 have hfr := h.fr.1
 refine ⟨_, s', [(s.next, (rowsB (l ++ r)).flatten)], h1, ⟨?_, ?_, ?_, ?_⟩, by omega, fun id hid => ?_⟩
 ·refine .inr ⟨s.next, ?_, rfl, ?_⟩
  ·simp
  ·simp [rowsB, hn]
 ·have hp := h.hp
  have hnd := hp.nd
  have hlt : ∀ w ∈ A ++ E ++ B, w.1 < s.next := fun w hw => get_lts (hp.w w hw)
  have hltr : ∀ w ∈ R, w.1 < s.next := fun w hw => get_lts (hp.r w hw)
  have hap : ∀ w ∈ A ++ B, ∀ e ∈ E, e.1 ≠ w.1 := by
   intro w hw e hee heq
   rw [List.map_append, List.map_append, List.nodup_append, List.nodup_append] at hnd
   obtain ⟨⟨n1, n2, n3⟩, n4, n5⟩ := hnd
   rcases List.mem_append.1 hw with hw | hw
   ·exact n3 _ (List.mem_map_of_mem hw) _ (List.mem_map_of_mem hee) heq.symm
   ·exact n5 _ (List.mem_append_right _ (List.mem_map_of_mem hee)) _ (List.mem_map_of_mem hw) heq
  have hnd' : ((A ++ B).map Prod.fst).Nodup := (hp.sub (W' := A ++ B) (R' := R) (List.Sublist.append (List.sublist_append_left A E) (List.Sublist.refl B)) fun _ h => h).nd
  refine ⟨?_, ?_, ?_, ?_⟩
  ·rw [List.map_append, List.map_append, List.nodup_append, List.nodup_append]
   rw [List.map_append, List.nodup_append] at hnd'
   obtain ⟨n1, n2, n3⟩ := hnd'
   refine ⟨⟨n1, by simp, ?_⟩, n2, ?_⟩
   ·intro a ha b hb
    simp only [List.map_cons, List.map_nil, List.mem_singleton] at hb
    obtain ⟨w, hw, rfl⟩ := List.mem_map.1 ha
    have := hlt w (by simp [hw])
    omega
   ·intro a ha b hb
    rcases List.mem_append.1 ha with ha | ha
    ·exact n3 a ha b hb
    ·simp only [List.map_cons, List.map_nil, List.mem_singleton] at ha
     obtain ⟨w, hw, rfl⟩ := List.mem_map.1 hb
     have := hlt w (by simp [hw])
     omega
  ·intro w hw q hq
   have := hltr q hq
   rcases List.mem_append.1 hw with hw | hw
   ·rcases List.mem_append.1 hw with hw | hw
    ·exact hp.ap w (by simp [hw]) q hq
    ·simp only [List.mem_singleton] at hw
     subst hw; simp only; omega
   ·exact hp.ap w (by simp [hw]) q hq
  ·intro w hw
   rcases List.mem_append.1 hw with hw | hw
   ·rcases List.mem_append.1 hw with hw | hw
    ·have := hlt w (by simp [hw])
     rw [h4 _ (by omega) (hap w (by simp [hw]))]
     exact hp.w w (by simp [hw])
    ·simp only [List.mem_singleton] at hw
     subst hw
     rw [rowsB_app, List.flatten_append]; exact h3
   ·have := hlt w (by simp [hw])
    rw [h4 _ (by omega) (hap w (by simp [hw]))]
    exact hp.w w (by simp [hw])
  ·intro w hw
   have := hltr w hw
   rw [h4 _ (by omega) fun e hee => hp.ap e (by simp [hee]) w hw]
   exact hp.r w hw
 ·refine ⟨by omega, fun j hj hjn => ?_⟩
  rw [h4 j (by omega) fun e hee heq => ?_, h.fr.2 j hj hjn]
  rcases h.nw e hee with h5 | h5
  ·exact hjn (heq ▸ h5)
  ·omega
 ·intro e hee
  simp only [List.mem_singleton] at hee
  subst hee
  exact .inr (by simp only; omega)
 ·simp only [List.mem_cons, not_or] at hid
  exact (h4 id hid.1 fun e hee heq => hid.2 (heq ▸ List.mem_map_of_mem hee)).symm
theorem bm_grBs {s0 : Store} {ids : List Nat} {t rest env K s d x A B R E} {l r : List Bool} (h : GrB s0 s ids A B R d l E) (hx : FL 1 x (rowsB r)) (hl : l.length <= 1000000) (hr : r.length <= 1000) (hn : r ≠ [])
 (k : ∀ d' s' E', GrB s0 s' ids A B R d' (l ++ r) E' -> XQ fs [] rest ((t, d') :: env) s' K) : BM (appendV 1 1 d x s) fs t rest env K := by
 obtain ⟨d', s', E', h1, h2, _⟩ := h.exps hx hl hr hn
 rw [h1]
 exact k d' s' E' h2
def GrL (s0 s : Store) (R : Hs) (d : D) (l : List Bool) (E : Hs) : Prop := GrB s0 s [] [] [] R d l E
theorem GrB.base {s0 s s' : Store} {R R' E E' : Hs} {d d' : D} {l l' : List Bool} (h : GrB s s' (E.map Prod.fst) [] [] R' d' l' E') (h0 : GrL s0 s R d l E) : GrL s0 s' R' d' l' E' := by
 have nE : ∀ i ∈ E.map Prod.fst, s0.next <= i := fun i hi => by
  obtain ⟨e, he, rfl⟩ := List.mem_map.1 hi
  rcases h0.nw e he with h | h
  ·simp at h
  ·exact h
 refine ⟨h.rp, h.hp, ⟨Nat.le_trans h0.fr.1 h.fr.1, fun j hj _ => ?_⟩, fun e he => .inr ?_⟩
 ·rw [h.fr.2 j (Nat.lt_of_lt_of_le hj h0.fr.1) fun hc => by have := nE j hc; omega, h0.fr.2 j hj (by simp)]
 ·rcases h.nw e he with h | h
  ·exact nE _ h
  ·exact Nat.le_trans h0.fr.1 h
theorem GrL.mv {s0 s s' : Store} {R E : Hs} {d : D} {l : List Bool} (h : GrL s0 s R d l E) (hf : Fr [] s s') : GrL s0 s' R d l E :=
 ⟨h.rp, h.hp.fr hf, h.fr.trans hf (by simp), h.nw⟩
theorem GrL.nil {s0 s : Store} {R : Hs} (h : Has s R) (hf : Fr [] s0 s) : GrL s0 s R .nils [] [] := ⟨.inl ⟨rfl, rfl, rfl⟩, ⟨List.nodup_nil, by simp, by simp [Has], h⟩, hf, by simp⟩
theorem fr_box {s : Store} {z o : VObj} : Fr [] s ((s.push z).set s.next (some o)) := (Fr.push _).thenSet _ (.inr (Nat.le_refl _))
theorem bL_ne {n : Int} {w : Nat} (h : 1 <= w) : bL n w ≠ [] := by
 intro e
 have := bL_len n w
 rw [e] at this
 simp at this; omega
theorem encL_snoc {α β : Type} {e : α -> β -> List Bool} : ∀ {a : List α} {b : List β} {i : Nat} (h : i < a.length) (h' : i < b.length), encL e (a.take (i + 1)) (b.take (i + 1)) = encL e (a.take i) (b.take i) ++ e a[i] b[i]
 | x :: a, y :: b, 0, _, _ => by simp [encL]
 | x :: a, y :: b, i + 1, h, h' => by
   simp only [List.take_succ_cons, encL, List.getElem_cons_succ, List.append_assoc]
   rw [encL_snoc (by simpa using h) (by simpa using h')]
def Mo.pkA (mo : Mo) (st : Stt) (i : Nat) : List Bool := encL encP (mo.procs.take i) (st.at'.take i)
def Mo.pkV (mo : Mo) (st : Stt) (i : Nat) : List Bool := mo.pkA st mo.procs.length ++ encL encV (mo.vars.take i) (st.vars.take i)
def Mo.pkC (mo : Mo) (st : Stt) (i : Nat) : List Bool := mo.pkV st mo.vars.length ++ encL encC (mo.chans.take i) (st.chans.take i)
theorem pkA_succ {mo : Mo} {st : Stt} {i : Nat} (h : i < mo.procs.length) (h' : i < st.at'.length) : mo.pkA st (i + 1) = mo.pkA st i ++ bL (nAt st.at' i : Int) (wid ((pAt mo.procs i).places : Int)) := by
 unfold Mo.pkA; rw [encL_snoc h h', pAt_get h, nAt_get h']; rfl
theorem pkV_succ {mo : Mo} {st : Stt} {i : Nat} (h : i < mo.vars.length) (h' : i < st.vars.length) : mo.pkV st (i + 1) = mo.pkV st i ++ bL (zAt st.vars i) (vAt mo.vars i).width.toNat := by
 unfold Mo.pkV; rw [encL_snoc h h', vAt_get h, zAt_get h', List.append_assoc]; rfl
theorem pkC_succ {mo : Mo} {st : Stt} {i : Nat} (h : i < mo.chans.length) (h' : i < st.chans.length) : mo.pkC st (i + 1) = mo.pkC st i ++ bL ((cAt st.chans i).length : Int) 2 ++ encK (chAt mo.chans i).width.toNat (cAt st.chans i) (chAt mo.chans i).room.toNat := by
 unfold Mo.pkC; rw [encL_snoc h h', chAt_get h, cAt_get h', List.append_assoc, List.append_assoc]; rfl
theorem pk_all {mo : Mo} {st : Stt} (h1 : st.at'.length = mo.procs.length) (h2 : st.vars.length = mo.vars.length) (h3 : st.chans.length = mo.chans.length) : mo.pkC st mo.chans.length ++ bL (st.hold + 1) 3 = mo.pack st := by
 unfold Mo.pkC Mo.pkV Mo.pkA Mo.pack
 rw [List.take_length, List.take_length, List.take_length, List.take_of_length_le (by omega), List.take_of_length_le (by omega), List.take_of_length_le (by omega)]
theorem encL_le {α β : Type} {e : α -> β -> List Bool} {k : Nat} : ∀ (a : List α) (b : List β), (∀ x ∈ a, ∀ b, (e x b).length <= k) -> (encL e a b).length <= k * a.length
 | [], b, _ => by cases b <;> simp [encL]
 | x :: a, [], _ => by simp [encL]
 | x :: a, y :: b, he => by
   simp only [encL, List.length_append, List.length_cons, Nat.mul_succ]
   have := encL_le a b fun z hz => he z (by simp [hz])
   have := he x (by simp) y
   omega
theorem pk_le {mo : Mo} (ho : MoOk mo) (hf : MoFi mo) (st : Stt) (i : Nat) : (mo.pkA st i).length <= 1000 /\ (mo.pkV st i).length <= 1000 /\ (mo.pkC st i).length <= 1000 := by
 have h1 : ∀ i, (mo.pkA st i).length <= 16 * 4 := fun i => by
  refine Nat.le_trans (encL_le (k := 16) _ _ fun p _ n => ?_) (Nat.mul_le_mul_left _ ?_)
  ·simp only [encP, bL_len]; exact (wid_in _).2
  ·rw [List.length_take]; have := ho.np; omega
 have h2 : ∀ i, (encL encV (mo.vars.take i) (st.vars.take i)).length <= 8 * 8 := fun i => by
  refine Nat.le_trans (encL_le (k := 8) _ _ fun v hv n => ?_) (Nat.mul_le_mul_left _ ?_)
  ·simp only [encV, bL_len]; have := hf.vr v (List.mem_of_mem_take hv); omega
  ·rw [List.length_take]; have := ho.nv; omega
 have h3 : ∀ i, (encL encC (mo.chans.take i) (st.chans.take i)).length <= 26 * 3 := fun i => by
  refine Nat.le_trans (encL_le (k := 26) _ _ fun c hc n => ?_) (Nat.mul_le_mul_left _ ?_)
  ·have hw := hf.ch c (List.mem_of_mem_take hc)
   simp only [encC, List.length_append, bL_len, encK_len]
   have : c.room.toNat * c.width.toNat <= 3 * 8 := Nat.mul_le_mul (by omega) (by omega)
   omega
  ·rw [List.length_take]; have := ho.nc; omega
 have a := h1 i
 have b := h1 mo.procs.length
 have c := h2 i
 have d := h2 mo.vars.length
 have e := h3 i
 unfold Mo.pkC Mo.pkV
 simp only [List.length_append]
 omega
theorem zAt_out {l : List Int} {k : Nat} (h : ¬ k < l.length) : zAt l k = 0 := by simp [zAt, List.getD, List.getElem?_eq_none (by omega : l.length <= k)]
theorem encK_succ (w : Nat) (l : List Int) (k : Nat) : encK w l (k + 1) = encK w l k ++ bL (zAt l k) w := rfl
theorem GrL.apart {s0 s : Store} {R E : Hs} {d : D} {l : List Bool} (h : GrL s0 s R d l E) {r : Nat × List D} (hr : r ∈ R) : r.1 ∉ E.map Prod.fst := fun hm => by
 obtain ⟨e, he, h1⟩ := List.mem_map.1 hm
 exact h.hp.ap e (by simp [he]) r hr h1
theorem GrL.lt {s0 s : Store} {R E : Hs} {d : D} {l : List Bool} (h : GrL s0 s R d l E) {id : Nat} (hm : id ∈ E.map Prod.fst) : id < s.next := by
 obtain ⟨e, he, h1⟩ := List.mem_map.1 hm
 rw [<- h1]
 exact get_lts (h.hp.w e (by simp [he]))
theorem GrL.sub {s0 s : Store} {R R' E : Hs} {d : D} {l : List Bool} (h : GrL s0 s R d l E) (hr : ∀ x ∈ R', x ∈ R) : GrL s0 s R' d l E :=
 ⟨h.rp, h.hp.sub (List.Sublist.refl _) hr, h.fr, h.nw⟩
theorem GrL.box {s0 s : Store} {R E : Hs} {d : D} {l : List Bool} (h : GrL s0 s R d l E) {z : VObj} {cs : List D} : GrL s0 ((s.push z).set s.next (some (.cells cs))) ((s.next, cs) :: R) d l E := by
 have h2 := h.mv (fr_box (z := z) (o := .cells cs))
 refine ⟨h.rp, h2.hp.addR1 (get_set_eq (by simp)) fun w hw heq => ?_, h.fr.trans fr_box (by simp), h.nw⟩
 have hw' : w ∈ E := by simpa using hw
 have := h.lt (List.mem_map_of_mem hw')
 omega
theorem ix_bB {d : D} {l : List Bool} {i : Nat} {k : IntKind} (h : FL 1 d (rowsB l)) (hi : i < l.length) : idxAV 1 d (.int k (i : Int)) = some (.fp [.bool (aB l i)] 0) := by rw [ix_b h hi]; rfl
theorem bAt_aB {l : List Bool} {i : Nat} : bAt l i = aB l i := rfl
attribute [go_sem] bAt_aB
theorem szL_succ {α : Type} {sz : α -> Nat} {l : List α} {i : Nat} (h : i < l.length) : szL sz (l.take (i + 1)) = szL sz (l.take i) + sz l[i] := by
 unfold szL
 rw [List.take_succ_eq_append_getElem h, List.map_append, List.sum_append]
 simp
theorem szL_le {α : Type} {sz : α -> Nat} {k : Nat} : ∀ (l : List α), (∀ x ∈ l, sz x <= k) -> szL sz l <= k * l.length
 | [], _ => by simp [szL]
 | x :: l, h => by
   have := szL_le l fun y hy => h y (by simp [hy])
   have := h x (by simp)
   simp only [szL, List.map_cons, List.sum_cons, List.length_cons, Nat.mul_succ] at *
   omega
theorem szP_succ {mo : Mo} {i : Nat} (h : i < mo.procs.length) : szL (fun p : Pr => wid (p.places : Int)) (mo.procs.take (i + 1)) = szL (fun p : Pr => wid (p.places : Int)) (mo.procs.take i) + wid ((pAt mo.procs i).places : Int) := by rw [szL_succ h, pAt_get h]
theorem szV_succ {mo : Mo} {i : Nat} (h : i < mo.vars.length) : szL (fun v : Vr => v.width.toNat) (mo.vars.take (i + 1)) = szL (fun v : Vr => v.width.toNat) (mo.vars.take i) + (vAt mo.vars i).width.toNat := by rw [szL_succ h, vAt_get h]
theorem szC_succ {mo : Mo} {i : Nat} (h : i < mo.chans.length) : szL (fun c : Ch => 2 + c.room.toNat * c.width.toNat) (mo.chans.take (i + 1)) = szL (fun c : Ch => 2 + c.room.toNat * c.width.toNat) (mo.chans.take i) + (2 + (chAt mo.chans i).room.toNat * (chAt mo.chans i).width.toNat) := by rw [szL_succ h, chAt_get h]
theorem szP_le {mo : Mo} (ho : MoOk mo) (i : Nat) : szL (fun p : Pr => wid (p.places : Int)) (mo.procs.take i) <= 64 := by
 refine Nat.le_trans (szL_le (k := 16) _ fun p _ => (wid_in _).2) ?_
 rw [List.length_take]; have := ho.np; omega
theorem szV_le {mo : Mo} (ho : MoOk mo) (hf : MoFi mo) (i : Nat) : szL (fun v : Vr => v.width.toNat) (mo.vars.take i) <= 64 := by
 refine Nat.le_trans (szL_le (k := 8) _ fun v hv => ?_) ?_
 ·have := hf.vr v (List.mem_of_mem_take hv); omega
 ·rw [List.length_take]; have := ho.nv; omega
theorem szC_le {mo : Mo} (ho : MoOk mo) (hf : MoFi mo) (i : Nat) : szL (fun c : Ch => 2 + c.room.toNat * c.width.toNat) (mo.chans.take i) <= 78 := by
 refine Nat.le_trans (szL_le (k := 26) _ fun c hc => ?_) ?_
 ·have hw := hf.ch c (List.mem_of_mem_take hc)
  have : c.room.toNat * c.width.toNat <= 3 * 8 := Nat.mul_le_mul (by omega) (by omega)
  omega
 ·rw [List.length_take]; have := ho.nc; omega
def Rdr (s : Store) (r : Nat) (l : List Bool) : Prop := ∃ d, s.get r = some (.cells [d]) /\ FL 1 d (rowsB l)
theorem rowsB_tk (l : List Bool) (n : Nat) : rowsB (l.take n) = (rowsB l).take n := by simp [rowsB, List.map_take]
theorem rowsB_dr (l : List Bool) (n : Nat) : rowsB (l.drop n) = (rowsB l).drop n := by simp [rowsB, List.map_drop]
theorem num_take {l : List Bool} {w : Nat} : num (aB (l.take w)) w = num (aB l) w := num_cong fun i hi => by
 unfold aB List.getD
 rw [List.getElem?_take]
 simp [hi]
theorem val_take {l : List Bool} {w : Nat} (h : 0 < w) : valZ (aB (l.take w)) w = valZ (aB l) w := valZ_cong h fun i hi => by
 unfold aB List.getD
 rw [List.getElem?_take]
 simp [hi]
theorem orI_num {n i : Nat} (h : n < 2 ^ i) (hi : i <= 16) : IntKind.i64.wrap (orI .i64 (n : Int) (2 ^ i)) = ((n + 2 ^ i : Nat) : Int) := by
 have hp : 2 ^ i <= 2 ^ 16 := Nat.pow_le_pow_right (by omega) hi
 have hc : ((2 ^ i : Nat) : Int) = 2 ^ i := by simp
 show IntKind.i64.wrap ((BitVec.ofInt IntKind.i64.bits (n : Int) ||| BitVec.ofInt IntKind.i64.bits (2 ^ i)).toNat : Int) = _
 have a1 : (BitVec.ofInt IntKind.i64.bits (n : Int)).toNat = n := by
  rw [BitVec.toNat_ofInt, show IntKind.i64.bits = 64 from rfl]; omega
 have a2 : (BitVec.ofInt IntKind.i64.bits (2 ^ i)).toNat = 2 ^ i := by
  rw [BitVec.toNat_ofInt, show IntKind.i64.bits = 64 from rfl, <- hc]; omega
 have e := Nat.two_pow_add_eq_or_of_lt h 1
 rw [Nat.mul_one] at e
 rw [BitVec.toNat_or, a1, a2, Nat.or_comm, <- e, i64_id (by omega) (by omega)]
 omega
theorem Hp.frI {s s' : Store} {W R : Hs} {ids : List Nat} (h : Hp s W R) (hf : Fr ids s s') (hn : ∀ w ∈ W ++ R, w.1 ∉ ids) : Hp s' W R :=
 ⟨h.nd, h.ap, fun w hw => by rw [hf.2 _ (get_lts (h.w w hw)) (hn w (by simp [hw])), h.w w hw], fun w hw => by rw [hf.2 _ (get_lts (h.r w hw)) (hn w (by simp [hw])), h.r w hw]⟩
structure GrZ (n0 : Nat) (s : Store) (R : Hs) (d : D) (l : List Int) (E : Hs) : Prop where
 rp : Rp d 1 (rowsZ l) E
 hp : Hp s E R
 nw : ∀ e ∈ E, n0 <= e.1
theorem GrZ.fr {n0 : Nat} {s s' : Store} {R E : Hs} {d : D} {l : List Int} {ids : List Nat} (h : GrZ n0 s R d l E) (hf : Fr ids s s') (h1 : ∀ i ∈ ids, i < n0) (h2 : ∀ x ∈ R, x.1 ∉ ids) : GrZ n0 s' R d l E :=
 ⟨h.rp, h.hp.frI hf fun w hw hi => by
  rcases List.mem_append.1 hw with hw | hw
  ·have := h.nw w hw
   have := h1 _ hi
   omega
  ·exact h2 w hw hi, h.nw⟩
theorem bm_grZ {n0 : Nat} {t rest env K s d b R E} {l : List Int} (h : GrZ n0 s R d l E) (hn : n0 <= s.next) (hl : l.length <= 1000000)
 (k : ∀ d' s' E', GrZ n0 s' R d' (l ++ [b]) E' -> s.next <= s'.next -> (∀ j, j < n0 -> s'.get j = s.get j) -> XQ fs [] rest ((t, d') :: env) s' K) : BM (appendV 1 8 d (.arr s.next 0 1 1) (s.push (.cells [.int .i64 b]))) fs t rest env K := by
 refine bm_app2 (A := []) (B := []) (row := [.int .i64 b]) h.rp (by simpa using h.hp) rfl (fun r hr => ?_) (by decide) (by simp; omega) fun s' h1 h2 h3 h4 => k _ s' [(s.next + 1, (rowsZ l ++ [[D.int .i64 b]]).flatten)] ⟨?_, ?_, ?_⟩ (by omega) fun j hj => h4 j (by omega) fun e he hc => ?_
 ·obtain ⟨x, _, rfl⟩ := List.mem_map.1 hr; rfl
 ·rw [show rowsZ (l ++ [b]) = rowsZ l ++ [[.int .i64 b]] by simp [rowsZ]]; exact h1
 ·exact h2
 ·intro e he
  simp only [List.mem_singleton] at he
  subst he; simp only; omega
 ·have := h.nw e he; omega
theorem decK_succ (w n k : Nat) (l : List Bool) : decK w n (k + 1) l = if k < n then ((decK w n k l).1 ++ [valZ (aB (decK w n k l).2.2) w], (decK w n k l).2.1, (decK w n k l).2.2.drop w) else ((decK w n k l).1, (decK w n k l).2.1 && decide (valZ (aB (decK w n k l).2.2) w = 0), (decK w n k l).2.2.drop w) := rfl
theorem decL_none {α β : Type} {d : α -> List Bool -> Option (β × List Bool)} : ∀ {l : List α} {bs : List Bool} {i : Nat}, decL d (l.take i) bs = none -> decL d l bs = none
 | [], bs, i, h => by simp at h; exact h
 | x :: l, bs, 0, h => by simp [decL] at h
 | x :: l, bs, i + 1, h => by
   simp only [List.take_succ_cons, decL] at h ⊢
   cases hx : d x bs with
   | none => rfl
   | some y =>
     rw [hx] at h
     simp only at h ⊢
     cases hy : decL d (l.take i) y.2 with
     | none => rw [decL_none hy]
     | some z => rw [hy] at h; cases h
theorem decL_step {α β : Type} {d : α -> List Bool -> Option (β × List Bool)} {l : List α} {bs : List Bool} {i : Nat} {o : List β} {r : List Bool} (hi : i < l.length) (h : decL d (l.take i) bs = some (o, r)) : decL d (l.take (i + 1)) bs = match d l[i] r with
 | some (b, r') => some (o ++ [b], r')
 | none => none := by
 rw [List.take_succ_eq_append_getElem hi, decL_snoc, h] <;> rfl
structure UnW (mcs : List D) (s : Store) (dA dV dC : D) (W : Hs) : Prop where
 hp : Hp s ((3, [dA, dV, dC, .int .i64 0]) :: (1, [.nils, .nils, .nils, .int .i64 0]) :: W) [(0, mcs)]
 nw : ∀ e ∈ W, 4 <= e.1
theorem UnW.lt {mcs : List D} {s : Store} {dA dV dC : D} {W : Hs} (h : UnW mcs s dA dV dC W) : 3 < s.next := get_lts (h.hp.w (3, [dA, dV, dC, .int .i64 0]) (by simp))
theorem UnW.fr {mcs : List D} {s s' : Store} {dA dV dC : D} {W : Hs} {ids : List Nat} (h : UnW mcs s dA dV dC W) (hf : Fr ids s s') (hi : ∀ i ∈ ids, i = 2) : UnW mcs s' dA dV dC W :=
 ⟨h.hp.frI hf fun w hw hn => by
  have := hi _ hn
  simp only [List.cons_append, List.mem_cons, List.mem_append, List.not_mem_nil, or_false] at hw
  rcases hw with rfl | rfl | hw | rfl
  ·simp at this
  ·simp at this
  ·have := h.nw w hw; omega
  ·simp at this, h.nw⟩
theorem Rdr.fr {s s' : Store} {l : List Bool} {r : Nat} (h : Rdr s r l) (hf : Fr [] s s') : Rdr s' r l := by
 obtain ⟨d, h1, h2⟩ := h
 exact ⟨d, by rw [hf.2 _ (get_lts h1) (by simp), h1], h2⟩
theorem szL_mono {α : Type} (sz : α -> Nat) (l : List α) (i : Nat) : szL sz (l.take i) <= szL sz l := by
 have : szL sz l = szL sz (l.take i) + szL sz (l.drop i) := by
  unfold szL
  rw [<- List.sum_append, <- List.map_append, List.take_append_drop]
 omega
theorem UnW.more {mcs : List D} {s : Store} {d dA dV dC : D} {A B E : Hs} {rows : List (List D)} (h : UnW mcs s dA dV dC (A ++ B)) (hE : Rp d 1 rows E) (hh : Has s E) (n : Nat) (hn : ∀ e ∈ E, n <= e.1) (h3 : 3 < n) (hw : ∀ w ∈ A ++ B, w.1 < n) : UnW mcs s dA dV dC (A ++ E ++ B) := by
 rcases hE with ⟨_, _, rfl⟩ | ⟨id, rfl, rfl, _⟩
 ·simpa using h
 ·have hid := hn _ (List.mem_singleton.2 rfl)
  simp only at hid
  have hp := h.hp.addW (id := id) (cs := rows.flatten) (hh (id, rows.flatten) (by simp)) (fun w hw' => by
   simp only [List.mem_cons] at hw'
   rcases hw' with rfl | rfl | hw'
   ·simp only; omega
   ·simp only; omega
   ·have := hw w hw'; omega) (fun r hr => by
   simp only [List.mem_singleton] at hr
   subst hr; simp only; omega)
  refine ⟨hp.perm ?_, fun e he => ?_⟩
  ·have e1 : (A ++ [(id, rows.flatten)] ++ B).Perm ((id, rows.flatten) :: (A ++ B)) := by
    rw [List.append_assoc]
    exact List.perm_middle
   exact ((e1.cons _).cons _).trans (((List.Perm.swap _ _ _).cons _).trans (List.Perm.swap _ _ _))
  ·simp only [List.mem_append, List.mem_singleton] at he
   rcases he with (he | rfl) | he
   ·exact h.nw e (by simp [he])
   ·simp only; omega
   ·exact h.nw e (by simp [he])
theorem cAt_snoc {l : List (List Int)} {x : List Int} {j : Nat} : cAt (l ++ [x]) j = if j = l.length then x else cAt l j := by
 unfold cAt List.getD
 by_cases h : j < l.length
 ·rw [List.getElem?_append_left h, if_neg (by omega)]
 ·by_cases h2 : j = l.length
  ·subst h2; simp
  ·rw [if_neg h2, List.getElem?_eq_none (by simp; omega), List.getElem?_eq_none (by omega)]
theorem dAt_snoc {l : List D} {x : D} {j : Nat} : dAt (l ++ [x]) j = if j = l.length then x else dAt l j := by
 unfold dAt List.getD
 by_cases h : j < l.length
 ·rw [List.getElem?_append_left h, if_neg (by omega)]
 ·by_cases h2 : j = l.length
  ·subst h2; simp
  ·rw [if_neg h2, List.getElem?_eq_none (by simp; omega), List.getElem?_eq_none (by omega)]
theorem rp_nil_or {d : D} {qs : List D} {E : Hs} (h : Rp d 1 (qs.map fun q => [q]) E) : qs = [] ∨ ∃ id, d = .arr id 0 qs.length 1 := by
 rcases h with ⟨_, h, _⟩ | ⟨id, h, _⟩
 ·exact .inl (by simpa using h)
 ·exact .inr ⟨id, by simpa using h⟩
theorem nbits_le {mo : Mo} (ho : MoOk mo) (hf : MoFi mo) : mo.nbits <= 300 := by
 have h1 := szP_le ho mo.procs.length
 have h2 := szV_le ho hf mo.vars.length
 have h3 := szC_le ho hf mo.chans.length
 rw [List.take_length] at h1 h2 h3
 unfold Mo.nbits
 omega
end Go.V
namespace Go.Proofs.Ytlaeblilmppodaa
open Go.V
set_option maxRecDepth 100000
set_option maxHeartbeats 4000000
theorem shr_64 {x : Int} {i : Nat} (h : i <= 16) : shiftInt .shr .i64 x (i : Int) = some (.int .i64 (x / 2 ^ i)) := by
 have p := pow_pos' i
 unfold shiftInt
 rw [if_neg (by omega)]
 simp only [Int.toNat_natCast]
 rw [show min i IntKind.i64.bits = i by rw [show IntKind.i64.bits = 64 from rfl]; omega, Int.fdiv_eq_ediv_of_nonneg _ (by omega)]
theorem unsigned_ok {s : Store} {d : D} {l : List Bool} {A B R E : Hs} {n w : Nat} (hr : Rp d 1 (rowsB l) E) (hp : Hp s (A ++ E ++ B) R) (hw : w <= 16) (hl : l.length <= 100000) :
 EvP vfs 57 [d, .int .i64 (n : Int), .int .i64 (w : Int)] s fun r s' => (∃ E', GrB s s' (E.map Prod.fst) A B R r (l ++ bL (n : Int) w) E') /\ Fr (E.map Prod.fst) s s' := by
 refine yevp (vf := vf57) rfl ?_
 unfold vf57; refine zF ?_
 refine zY0 ?_
 refine yw_up [1, 2, 6, 8] 0 w (fun i f s' => f 9 = .int .i64 (i : Int) /\ ∃ E', GrB s s' (E.map Prod.fst) A B R (f 0) (l ++ bL (n : Int) i) E') (.mk rfl) (by omega) ⟨rfl, E, by rw [show bL (n : Int) 0 = [] from rfl, List.append_nil]; exact GrB.mk0 hr hp⟩ ?_
 rintro i f s1 hi ⟨hE, E1, hg⟩
 have on := hg.rp.one
 by_cases ci : i < w
 ·have hsh := shr_64 (x := (n : Int)) (i := i) (by omega)
  have hu : IntKind.u64.wrap (i : Int) = (i : Int) := by rw [IntKind.wrap_u64]; omega
  have ha := i64_and1 (x := (n : Int) / 2 ^ i)
  have hb : bitZ (n : Int) i = decide ((n : Int) / 2 ^ i % 2 = 1) := rfl
  refine zY (aN hE (aN ci (aN hsh (aN hu ha)))) ?_
  refine bm_grB (b := bitZ (n : Int) i) hg (by simp; omega) ?_
  intro d' s' E' hg'
  refine zY (aN hE ci) ?_
  exact ⟨E', by rw [bL_succ, <- List.append_assoc]; exact hg'⟩
 ·obtain rfl : i = w := by omega
  refine zY (aN hE (aN ci on)) ?_
  exact ⟨⟨E1, hg⟩, hg.fr⟩
theorem bits_ok {x : Int} {w : Nat} (h1 : 1 <= w) (h2 : w <= 16) : IsoP vfs 58 [.int .i64 x, .int .i64 (w : Int)] fun d => FL 1 d (rowsB (bL x w)) := by
 have hb := bwidth_bc (n := (w : Int)) (by omega) (by omega)
 have a2 : (1 * (w : Int) <= 2 ^ 47 /\ (w : Int) < 2 ^ 62) = True := eq_true (by omega)
 have hz := zerosB' w
 refine yisop (vf := vf58) rfl ?_
 unfold vf58; refine zF ?_
 refine zY (aN hb (aN a2 hz)) ?_
 refine yw_up [0, 1, 4, 5, 11] 0 w (fun i f s' => f 12 = .int .i64 (i : Int) /\ s'.get 0 = some (.cells (cellsB (upB (bL x i) w)))) (.mk rfl) (by omega) ⟨rfl, ?_⟩ ?_
 ·exact get_push_new rfl
 rintro i f s' hi ⟨hE, hg⟩
 by_cases ci : i < w
 ·have hsh := shr_64 (x := x) (i := i) (by omega)
  have ha := i64_and1 (x := x / 2 ^ i)
  have hul := upB_len (l := bL x i) (w := w) (by simp; omega)
  have iu : i < (upB (bL x i) w).length := by omega
  have hs := upB_set (l := bL x i) (w := w) (e := decide (x / 2 ^ i % 2 = 1)) (by simp; omega)
  rw [bL_len] at hs
  have hl := get_lts hg
  refine zY (aN hE (aN ci (aN hsh (aN ha (aN hg (aN hul iu)))))) ?_
  rw [hs, bL_succ]; rfl
 ·obtain rfl : i = w := by omega
  rw [upB_all (bL_len x i)] at hg
  refine zY (aN hE ci) ?_
  have : SN s' 1 (.arr 0 0 i 1) (rowsB (bL x i)) := .inr (.inl ⟨0, by simp, by rw [V.rowsB_flat]; exact hg⟩)
  exact this.frz1 (n := 18) (rowsB_len _) (rowsB_scal _)
end Go.Proofs.Ytlaeblilmppodaa
namespace Go.Proofs.Ytlaeblilmppodaa
open Go.V
set_option maxRecDepth 100000
set_option maxHeartbeats 4000000
variable {m : MdX} {mo : Mo} {ps : List (Pr × PrD)} {x : StD} {st : Stt}
theorem wide_ok {s : Store} {id : Nat} {c : Ch} {n : Int} (hg : s.get id = some (.cells [.str c.name, .int .i64 c.room, .int .i64 c.width, .bool c.lossy, .bool c.copying])) (hn : in64 n) (h1 : 1 <= c.width) (h2 : c.width <= 8) :
 EvP vfs 85 [.int .i64 n, .ptr id 0] s fun r s' => r = .bool (!decide (trimZ n c.width.toNat = n)) /\ s' = s := by
 have hb := narrow_bc (x := n) (w := c.width.toNat) hn (by omega) (by omega)
 rw [Int.toNat_of_nonneg (by omega)] at hb
 refine yevp (vf := vf85) rfl ?_
 unfold vf85; refine zF ?_
 refine zY (aN hg hb) ?_
 exact ⟨rfl, rfl⟩
theorem index_ok {s : Store} {id : Nat} {c : Ch} {d : D} {l : List Int} (hd : FI d l) (hll : l.length <= 1000) (hg : s.get id = some (.cells [.str c.name, .int .i64 c.room, .int .i64 c.width, .bool c.lossy, .bool c.copying])) (hn : ∀ n ∈ l, in64 n /\ trimZ n c.width.toNat = n) (h1 : 1 <= c.width) (h2 : c.width <= 8) :
 EvP vfs 111 [d, .fn 85 [.ptr id 0]] s fun r s' => r = .int .i64 (-1) /\ s' = s := by
 refine yevp (vf := vf111) rfl ?_
 unfold vf111; refine zF ?_
 refine zY hd ?_
 refine yw_up [0, 1, 7] 0 l.length (fun i f s' => f 8 = .int .i64 (i : Int) /\ s' = s) (.mk rfl) (by omega) ⟨rfl, rfl⟩ ?_
 rintro i f s' hi ⟨hE, rfl⟩
 by_cases ci : i < l.length
 ·have hw := hn _ (zAt_mem ci)
  have hc := wide_ok hg hw.1 h1 h2
  rw [hw.2] at hc
  refine zY (aN hE (aN hd ci)) ?_
  refine xq_evpc rfl hc rfl ?_
  rintro r s2 ⟨rfl, rfl⟩
  refine zY (aN hE ci) ?_
  trivial
 ·refine zY (aN hE ci) ?_
  exact ⟨rfl, rfl⟩
theorem contains_ok {s : Store} {id : Nat} {c : Ch} {d : D} {l : List Int} (hd : FI d l) (hll : l.length <= 1000) (hg : s.get id = some (.cells [.str c.name, .int .i64 c.room, .int .i64 c.width, .bool c.lossy, .bool c.copying])) (hn : ∀ n ∈ l, in64 n /\ trimZ n c.width.toNat = n) (h1 : 1 <= c.width) (h2 : c.width <= 8) :
 EvP vfs 86 [d, .fn 85 [.ptr id 0]] s fun r s' => r = .bool false /\ s' = s := by
 have hi := index_ok hd hll hg hn h1 h2
 refine yevp (vf := vf86) rfl ?_
 unfold vf86; refine zF ?_
 refine zY0 ?_
 refine xq_evp hi rfl ?_
 rintro r s2 ⟨rfl, rfl⟩
 refine zY0 ?_
 exact ⟨rfl, rfl⟩
structure StNH (mo : Mo) (x : StD) (st : Stt) : Prop where
 f : StF x st
 e : St8 st
 fit : Fit mo { st with hold := -1 }
 hd : in64 st.hold
theorem fits_bc (hm : MoF m mo ps) (ho : MoOk mo) (hf : MoFi mo) (hx : StNH mo x st) : Eqc vfs 56 [.agg [m.dt, .int .i64 m.g, m.dc, m.dv, m.dp, m.ds, .bool m.b], .agg [x.da, x.dv, x.dc, .int .i64 st.hold]] (.bool (decide (-1 <= st.hold /\ st.hold < (mo.procs.length : Int)))) := by
 have om := hm.ones
 have ox := hx.f.ones
 have hxa := hx.f.a
 have hxv := hx.f.v
 have hxf := hx.f
 have hmv := hm.v
 have hmc := hm.c
 have ea : st.at'.length = mo.procs.length := hx.fit.at'
 have ev : st.vars.length = mo.vars.length := hx.fit.vars
 have ec : st.chans.length = mo.chans.length := hx.fit.chans
 have hnp := ho.np
 have hnv := ho.nv
 have hnc := ho.nc
 refine bc_of ?_
 refine yiso (vf := vf56) rfl ?_
 unfold vf56; refine zF ?_
 refine zY (aN om (aN ox (aN ea (aN ev ec)))) ?_
 have g0 : ((Store.empty.push (.cells [m.dt, .int .i64 m.g, m.dc, m.dv, m.dp, m.ds, .bool m.b])).push (.cells [x.da, x.dv, x.dc, .int .i64 st.hold])).get 0 = some (.cells [m.dt, .int .i64 m.g, m.dc, m.dv, m.dp, m.ds, .bool m.b]) := by simp (disch := (first|exact Rf.mk rfl|with_reducible assumption|omega|((repeat (first|rw [nP]|rw [nS]|rw [nx_empty]))<;>omega)|decide)) only [go_sem, ↓reduceIte]
 have g1 : ((Store.empty.push (.cells [m.dt, .int .i64 m.g, m.dc, m.dv, m.dp, m.ds, .bool m.b])).push (.cells [x.da, x.dv, x.dc, .int .i64 st.hold])).get 1 = some (.cells [x.da, x.dv, x.dc, .int .i64 st.hold]) := by simp (disch := (first|exact Rf.mk rfl|with_reducible assumption|omega|((repeat (first|rw [nP]|rw [nS]|rw [nx_empty]))<;>omega)|decide)) only [go_sem, ↓reduceIte]
 generalize (Store.empty.push (.cells [m.dt, .int .i64 m.g, m.dc, m.dv, m.dp, m.ds, .bool m.b])).push (.cells [x.da, x.dv, x.dc, .int .i64 st.hold]) = s0 at *
 refine yw_up [0, 1, 2, 3, 7, 8, 9, 10, 11, 12, 37, 39, 40, 60, 61, 62, 63, 75, 78, 79, 80, 81, 100] 0 mo.procs.length (fun i f s => f 41 = .int .i64 (i : Int) /\ s = s0) (.mk rfl) (by omega) ⟨rfl, rfl⟩ ?_
 rintro i f s hi ⟨hE, rfl⟩
 by_cases ci : i < mo.procs.length
 ·have ci' : i < st.at'.length := by omega
  have hpl := hx.fit.pl i ci' ci
  have e1 : ¬ ((nAt st.at' i : Nat) : Int) < 0 := by omega
  have e2 : nAt st.at' i < (pAt mo.procs i).places := by rw [nAt_get ci', pAt_get ci]; exact hpl
  have e3 : ¬ (pAt mo.procs i).places <= nAt st.at' i := by omega
  exact zZ (aN hE (aN ci (aN ci' (aN g0 (aN g1 (aN om (aN ox (aN e1 (aN e2 e3)))))))))
 obtain rfl : i = mo.procs.length := by omega
 refine zY (aN hE (aN ci (aN g0 (aN g1 (aN om (aN ox ev)))))) ?_
 refine yw_up [0, 1, 2, 3, 5, 6, 9, 10, 11, 12, 37, 39, 40, 41, 42, 57, 60, 61, 78, 79, 80, 81, 100] 0 mo.vars.length (fun i f s' => f 62 = .int .i64 (i : Int) /\ s' = s) (.mk rfl) (by omega) ⟨rfl, rfl⟩ ?_
 clear hi ci hE
 rintro i f s hi ⟨hE, rfl⟩
 by_cases ci : i < mo.vars.length
 ·have ci' : i < st.vars.length := by omega
  have hvr : trimZ st.vars[i] mo.vars[i].width.toNat = st.vars[i] := hx.fit.vr i ci' ci
  have h8 := hx.e.v _ (zAt_mem ci')
  unfold I8 at h8
  have hw := hf.vr _ (vAt_mem ci)
  have hb := narrow_bc (x := zAt st.vars i) (w := (vAt mo.vars i).width.toNat) ⟨by omega, by omega⟩ (by omega) (by omega)
  rw [Int.toNat_of_nonneg (by omega), show trimZ (zAt st.vars i) (vAt mo.vars i).width.toNat = zAt st.vars i by rw [zAt_get ci', vAt_get ci]; exact hvr, decide_eq_true rfl] at hb
  exact zZ (aN hE (aN ci (aN ci' (aN g0 (aN g1 (aN om (aN ox hb)))))))
 obtain rfl : i = mo.vars.length := by omega
 refine zY (aN hE (aN ci (aN g0 (aN g1 (aN om (aN ox ec)))))) ?_
 refine yw_up [0, 1, 2, 3, 5, 6, 7, 8, 37, 39, 40, 41, 42, 57, 60, 61, 62, 63, 75, 78, 79] 0 mo.chans.length (fun i f s' => f 80 = .int .i64 (i : Int) /\ s'.get 0 = some (.cells [m.dt, .int .i64 m.g, m.dc, m.dv, m.dp, m.ds, .bool m.b]) /\ s'.get 1 = some (.cells [x.da, x.dv, x.dc, .int .i64 st.hold])) (.mk rfl) (by omega) ⟨rfl, g0, g1⟩ ?_
 clear hi ci hE g0 g1
 rintro i f s hi ⟨hE, g0, g1⟩
 have l0 := get_lts g0
 have l1 := get_lts g1
 by_cases ci : i < mo.chans.length
 ·have ci' : i < st.chans.length := by omega
  have hcl := hx.fit.cl i ci' ci
  have hcv := hx.fit.cv i ci' ci
  have h8 := hx.e.c _ (cAt_mem ci')
  have hw := hf.ch _ (chAt_mem ci)
  have e1 : ¬ (chAt mo.chans i).room < ((cAt st.chans i).length : Int) := by
   have : ((cAt st.chans i).length : Int) <= (chAt mo.chans i).room := by rw [cAt_get ci', chAt_get ci]; exact hcl
   omega
  have hn : ∀ n ∈ cAt st.chans i, in64 n /\ trimZ n (chAt mo.chans i).width.toNat = n := fun n hn => by
   have := h8.2 n hn
   unfold I8 at this
   refine ⟨⟨by omega, by omega⟩, ?_⟩
   rw [cAt_get ci'] at hn
   rw [chAt_get ci]; exact hcv n hn
  have hco := fun s2 id hg => contains_ok (s := s2) (id := id) (c := chAt mo.chans i) (st_cf hxf ci') (by omega) hg hn hw.2.2.1 hw.2.2.2
  refine zY (aN hE (aN ci (aN ci' (aN g0 (aN g1 (aN om (aN ox e1))))))) ?_
  refine xq_evp (hco _ s.next (get_set_eq (by simp))) rfl ?_
  rintro r s2 ⟨rfl, rfl⟩
  refine zY (aN hE (aN ci (aN g0 g1))) ?_
  trivial
 obtain rfl : i = mo.chans.length := by omega
 have hh := hx.hd
 by_cases c1 : -1 <= st.hold
 ·refine zY (aN hE (aN ci (aN g0 (aN g1 (aN om (aN ox c1)))))) ?_
  simp
 ·refine zY (aN hE (aN ci (aN g0 (aN g1 (aN om (aN ox c1)))))) ?_
  simp
end Go.Proofs.Ytlaeblilmppodaa
namespace Go.V
def RdB (s : Store) (d : D) (l : List Bool) : Prop := FL 1 d (rowsB l) ∨ ∃ id off cs, d = .arr id off l.length 1 /\ s.get id = some (.cells cs) /\ off + l.length <= cs.length /\ (cs.drop off).take l.length = cellsB l
theorem RdB.one {s : Store} {d : D} {l : List Bool} (h : RdB s d l) : oneCell d = true := by
 rcases h with h | ⟨id, off, cs, rfl, _⟩
 ·exact h.one
 ·rfl
theorem RdB.len {s : Store} {d : D} {l : List Bool} (h : RdB s d l) : lenV false d = some (.int .i64 (l.length : Int)) := by
 rcases h with h | ⟨id, off, cs, rfl, _⟩
 ·exact ln_b h
 ·rfl
theorem RdB.stay {s s' : Store} {d : D} {l : List Bool} (h : RdB s d l) (hs : ∀ id off len, d = .arr id off len 1 -> s'.get id = s.get id) : RdB s' d l := by
 rcases h with h | ⟨id, off, cs, rfl, h1, h2, h3⟩
 ·exact .inl h
 ·exact .inr ⟨id, off, cs, rfl, by rw [hs id off _ rfl, h1], h2, h3⟩
theorem RdB.take {s : Store} {d : D} {l : List Bool} (h : RdB s d l) {n : Nat} (hn : n <= l.length) {k : IntKind} : ∃ d', sliceV (some 1) d none (some (.int k (n : Int))) = some d' /\ RdB s d' (l.take n) := by
 rcases h with h | ⟨id, off, cs, rfl, h1, h2, h3⟩
 ·obtain ⟨d', e1, e2⟩ := FL.take h (n := n) (by simpa using hn) (k := k)
  exact ⟨d', e1, .inl (by rw [rowsB_tk]; exact e2)⟩
 ·by_cases h0 : 0 < l.length
  ·refine ⟨.arr id off n 1, by simp [sliceV, boundOf, hn]; intro h; subst h; simp at h0, .inr ⟨id, off, cs, by simp [Nat.min_eq_left hn], h1, by simp; omega, ?_⟩⟩
   have : (l.take n).length = n := by simp; omega
   rw [this]
   have e := congrArg (List.take n) h3
   rw [List.take_take, Nat.min_eq_left hn] at e
   rw [e]; simp [cellsB, List.map_take]
  ·have e : l = [] := List.eq_nil_of_length_eq_zero (by omega)
   subst e
   obtain rfl : n = 0 := by simpa using hn
   exact ⟨.lst 1 [], by simp [sliceV, boundOf], .inl (.inr rfl)⟩
theorem RdB.drop {s : Store} {d : D} {l : List Bool} (h : RdB s d l) {n : Nat} (hn : n <= l.length) {k : IntKind} : ∃ d', sliceV (some 1) d (some (.int k (n : Int))) none = some d' /\ RdB s d' (l.drop n) := by
 rcases h with h | ⟨id, off, cs, rfl, h1, h2, h3⟩
 ·obtain ⟨d', e1, e2⟩ := FL.drop h (n := n) (by simpa using hn) (k := k)
  exact ⟨d', e1, .inl (by rw [rowsB_dr]; exact e2)⟩
 ·by_cases h0 : n < l.length
  ·refine ⟨.arr id (off + n) (l.length - n) 1, by simp [sliceV, boundOf, h0, hn], .inr ⟨id, off + n, cs, by simp, h1, by simp; omega, ?_⟩⟩
   have e := congrArg (List.drop n) h3
   rw [List.drop_take, List.drop_drop] at e
   rw [List.length_drop, e]; simp [cellsB, List.map_drop]
  ·have e : l.drop n = [] := List.drop_eq_nil_of_le (by omega)
   rw [e]
   exact ⟨.lst 1 [], by simp [sliceV, boundOf, hn, h0], .inl (.inr rfl)⟩
theorem RdB.frz {s : Store} {d : D} {l : List Bool} (h : RdB s d l) (n : Nat) : ∃ d', ice s.get (n + 2) d = some d' /\ FL 1 d' (rowsB l) := by
 rcases h with h | ⟨id, off, cs, rfl, h1, h2, h3⟩
 ·rcases h with ⟨rfl, h⟩ | rfl
  ·exact ⟨.nils, rfl, .inl ⟨rfl, h⟩⟩
  ·exact ⟨_, rfl, .inr rfl⟩
 ·refine ⟨.lst 1 (rowsB l), ?_, .inr rfl⟩
  have e1 : rowOf s.get (.arr id off l.length 1) = some (cellsB l) := by
   simp only [rowOf, h1, Nat.mul_one, h3]
   rw [if_pos h2]
  have e2 : mapO (ice s.get (n + 1)) (cellsB l) = some (cellsB l) := mapO_ice (by simp [cellsB, scal1])
  simp only [ice, e1, e2, Option.map_some]
  have e3 := chunk_one (cellsB l)
  rw [cellsB_length] at e3
  rw [e3]
  simp [cellsB, rowsB]
theorem RdB.idx {s : Store} {d : D} {l : List Bool} (h : RdB s d l) {i : Nat} (hi : i < l.length) {k : IntKind} : ∃ p, idxAV 1 d (.int k (i : Int)) = some p /\ ldV s.get none p = some (.bool (aB l i)) := by
 rcases h with h | ⟨id, off, cs, rfl, h1, h2, h3⟩
 ·exact ⟨_, ix_bB h hi, rfl⟩
 ·refine ⟨.ptr id (off + i), ?_, ?_⟩
  ·have : (i : Int) < (l.length : Int) := by omega
   simp only [idxAV]
   rw [if_pos ⟨trivial, by omega, this⟩]
   simp
  ·have e : cs[off + i]? = some (.bool (aB l i)) := by
    have := congrArg (fun x => x[i]?) h3
    simp only [List.getElem?_take, hi, if_true, List.getElem?_drop] at this
    rw [this, cB_at hi]
   simp only [ldV, h1, pull, e]
   try rfl
theorem RdB.lt {s : Store} {d : D} {l : List Bool} (h : RdB s d l) : ∀ id off len, d = .arr id off len 1 -> id < s.next := by
 intro id off len e
 rcases h with h | ⟨id', off', cs, e', h1, _⟩
 ·subst e; rcases h with ⟨h, _⟩ | h <;> cases h
 ·rw [e] at e'; cases e'; exact get_lts h1
def Rdq (s : Store) (r : Nat) (l : List Bool) (src : Nat -> Prop) : Prop := ∃ d, s.get r = some (.cells [d]) /\ RdB s d l /\ ∀ id off len, d = .arr id off len 1 -> src id
theorem Rdq.fr {s s' : Store} {l : List Bool} {r : Nat} {src : Nat -> Prop} {ids : List Nat} (h : Rdq s r l src) (hf : Fr ids s s') (h1 : r ∉ ids) (h2 : ∀ i, src i -> i ∉ ids) : Rdq s' r l src := by
 obtain ⟨d, g, k, q⟩ := h
 refine ⟨d, by rw [hf.2 _ (get_lts g) h1, g], ?_, q⟩
 rcases k with k | ⟨id, off, cs, rfl, k1, k2, k3⟩
 ·exact .inl k
 ·exact .inr ⟨id, off, cs, rfl, by rw [hf.2 _ (get_lts k1) (h2 id (q id off _ rfl)), k1], k2, k3⟩
theorem RdB.take' {s : Store} {d : D} {l : List Bool} {src : Nat -> Prop} (h : RdB s d l) (hq : ∀ id off len, d = .arr id off len 1 -> src id) {n : Nat} (hn : n <= l.length) {k : IntKind} : ∃ d', sliceV (some 1) d none (some (.int k (n : Int))) = some d' /\ RdB s d' (l.take n) /\ ∀ id off len, d' = .arr id off len 1 -> src id := by
 obtain ⟨d', e1, e2⟩ := h.take hn (k := k)
 refine ⟨d', e1, e2, fun id off len he => ?_⟩
 subst he
 cases d with
 | arr id' off' len' sz =>
   simp only [sliceV, boundOf] at e1
   rcases h with h | ⟨a, b, c, e, _⟩
   ·rcases h with ⟨h, _⟩ | h <;> cases h
   ·cases e
    simp at e1
    obtain ⟨_, e1⟩ := e1
    split at e1
    ·cases e1; exact hq id _ _ rfl
    ·cases e1
 | _ => simp [sliceV, boundOf] at e1
theorem RdB.drop' {s : Store} {d : D} {l : List Bool} {src : Nat -> Prop} (h : RdB s d l) (hq : ∀ id off len, d = .arr id off len 1 -> src id) {n : Nat} (hn : n <= l.length) {k : IntKind} : ∃ d', sliceV (some 1) d (some (.int k (n : Int))) none = some d' /\ RdB s d' (l.drop n) /\ ∀ id off len, d' = .arr id off len 1 -> src id := by
 obtain ⟨d', e1, e2⟩ := h.drop hn (k := k)
 refine ⟨d', e1, e2, fun id off len he => ?_⟩
 subst he
 cases d with
 | arr id' off' len' sz =>
   simp only [sliceV, boundOf] at e1
   rcases h with h | ⟨a, b, c, e, _⟩
   ·rcases h with ⟨h, _⟩ | h <;> cases h
   ·cases e
    simp at e1
    obtain ⟨_, e1⟩ := e1
    split at e1
    ·cases e1; exact hq id _ _ rfl
    ·cases e1
 | _ => simp [sliceV, boundOf] at e1
structure UnN (n : Nat) (mcs : List D) (s0 s : Store) (dA dV dC : D) (W : Hs) : Prop where
 hp : Hp s ((n + 3, [dA, dV, dC, .int .i64 0]) :: (n + 1, [.nils, .nils, .nils, .int .i64 0]) :: W) [(n, mcs)]
 nw : ∀ e ∈ W, n + 4 <= e.1
 old : ∀ j, j < n -> s.get j = s0.get j
theorem UnN.lt {n : Nat} {mcs : List D} {s0 s : Store} {dA dV dC : D} {W : Hs} (h : UnN n mcs s0 s dA dV dC W) : n + 3 < s.next := get_lts (h.hp.w (n + 3, [dA, dV, dC, .int .i64 0]) (by simp))
theorem UnN.fr {n : Nat} {mcs : List D} {s0 s s' : Store} {dA dV dC : D} {W : Hs} {ids : List Nat} (h : UnN n mcs s0 s dA dV dC W) (hf : Fr ids s s') (hi : ∀ i ∈ ids, i = n + 2) : UnN n mcs s0 s' dA dV dC W :=
 ⟨h.hp.frI hf fun w hw hn => by
  have := hi _ hn
  simp only [List.cons_append, List.mem_cons, List.mem_append, List.not_mem_nil, or_false] at hw
  rcases hw with rfl | rfl | hw | rfl
  ·simp at this
  ·simp at this
  ·have := h.nw w hw; omega
  ·simp at this, h.nw, fun j hj => by rw [hf.2 j (by have := h.lt; omega) (fun hc => by have := hi j hc; omega), h.old j hj]⟩
theorem bm_unn {fs : FuncId -> Option VFunc} {t rest env K s0 s d bytes row A B E mcs dA dV dC} {n : Nat} {src : Nat -> Prop} {rows : List (List D)} {l : List Bool} (h : UnN n mcs s0 s dA dV dC (A ++ E ++ B)) (hr : Rdq s (n + 2) l src) (hsrc : ∀ i, src i -> i < n) (hd : Rp d 1 rows E) (h1 : row.length = 1) (hrs : ∀ r ∈ rows, r.length = 1) (hb : bytes <= 1000) (hl : rows.length <= 1000000)
 (k : ∀ d' s' E', Rp d' 1 (rows ++ [row]) E' -> UnN n mcs s0 s' dA dV dC (A ++ E' ++ B) -> Rdq s' (n + 2) l src -> (∀ dA' dV' dC', UnN n mcs s0 (s'.set (n + 3) (some (.cells [dA', dV', dC', .int .i64 0]))) dA' dV' dC' (A ++ E' ++ B) /\ Rdq (s'.set (n + 3) (some (.cells [dA', dV', dC', .int .i64 0]))) (n + 2) l src) -> XQ fs [] rest ((t, d') :: env) s' K) : BM (appendV 1 bytes d (.arr s.next 0 1 1) (s.push (.cells row))) fs t rest env K := by
 have hlt := h.lt
 refine bm_app2 (A := (n + 3, [dA, dV, dC, .int .i64 0]) :: (n + 1, [.nils, .nils, .nils, .int .i64 0]) :: A) (B := B) hd (by have := h.hp; simpa using this) h1 hrs hb (by omega) fun s' k1 k2 k3 k4 => ?_
 have hr' : Rdq s' (n + 2) l src := by
  obtain ⟨d0, g, f, q⟩ := hr
  refine ⟨d0, ?_, f.stay fun id off len e => ?_, q⟩
  ·rw [k4 (n + 2) (by omega) fun e he hc => by
    have := h.nw e (by simp [he])
    omega, g]
  ·have := hsrc id (q id off len e)
   exact k4 id (by omega) fun e he hc => by
    have := h.nw e (by simp [he])
    omega
 have hw : UnN n mcs s0 s' dA dV dC (A ++ [(s.next + 1, (rows ++ [row]).flatten)] ++ B) := ⟨by simpa using k2, fun e he => by
  simp only [List.mem_append, List.mem_singleton] at he
  rcases he with (he | rfl) | he
  ·exact h.nw e (by simp [he])
  ·simp only; omega
  ·exact h.nw e (by simp [he]), fun j hj => by rw [k4 j (by omega) fun e he hc => by
   have := h.nw e (by simp [he])
   omega, h.old j hj]⟩
 refine k _ s' _ k1 hw hr' fun dA' dV' dC' => ⟨⟨?_, hw.nw, fun j hj => by rw [get_set_ne (by omega), hw.old j hj]⟩, ?_⟩
 ·exact Hp.set (A := []) hw.hp [dA', dV', dC', .int .i64 0]
 ·obtain ⟨d0, g, f, q⟩ := hr'
  refine ⟨d0, by rw [get_set_ne (by omega), g], f.stay fun id off len e => get_set_ne ?_, q⟩
  have := hsrc id (q id off len e)
  omega
theorem mx_unn {pairs T i} {fs : FuncId -> Option VFunc} {t rest env K s0 s d bytes row A B E mcs dA dV dC} {n : Nat} {src : Nat -> Prop} {rows : List (List D)} {l : List Bool} (h : UnN n mcs s0 s dA dV dC (A ++ E ++ B)) (hr : Rdq s (n + 2) l src) (hsrc : ∀ i, src i -> i < n) (hd : Rp d 1 rows E) (h1 : row.length = 1) (hrs : ∀ r ∈ rows, r.length = 1) (hb : bytes <= 1000) (hl : rows.length <= 1000000) (he : EfOk pairs i ((s.next + 1) :: E.map Prod.fst) T)
 (k : ∀ d' s' E', Rp d' 1 (rows ++ [row]) E' -> UnN n mcs s0 s' dA dV dC (A ++ E' ++ B) -> Rdq s' (n + 2) l src -> (∀ dA' dV' dC', UnN n mcs s0 (s'.set (n + 3) (some (.cells [dA', dV', dC', .int .i64 0]))) dA' dV' dC' (A ++ E' ++ B) /\ Rdq (s'.set (n + 3) (some (.cells [dA', dV', dC', .int .i64 0]))) (n + 2) l src) -> XX fs pairs (⟨i, none, (s.next + 1) :: E.map Prod.fst⟩ :: T) rest ((t, d') :: env) s' K) : MX d (.arr s.next 0 1 1) 1 bytes i fs pairs T t rest env (s.push (.cells row)) K := by
 have hlt := h.lt
 refine mx_app (A := (n + 3, [dA, dV, dC, .int .i64 0]) :: (n + 1, [.nils, .nils, .nils, .int .i64 0]) :: A) (B := B) hd (by have := h.hp; simpa using this) h1 hrs hb (by omega) he fun s' k1 k2 k3 k4 => ?_
 have hr' : Rdq s' (n + 2) l src := by
  obtain ⟨d0, g, f, q⟩ := hr
  refine ⟨d0, ?_, f.stay fun id off len e => ?_, q⟩
  ·rw [k4 (n + 2) (by omega) fun e he hc => by
    have := h.nw e (by simp [he])
    omega, g]
  ·have := hsrc id (q id off len e)
   exact k4 id (by omega) fun e he hc => by
    have := h.nw e (by simp [he])
    omega
 have hw : UnN n mcs s0 s' dA dV dC (A ++ [(s.next + 1, (rows ++ [row]).flatten)] ++ B) := ⟨by simpa using k2, fun e he => by
  simp only [List.mem_append, List.mem_singleton] at he
  rcases he with (he | rfl) | he
  ·exact h.nw e (by simp [he])
  ·simp only; omega
  ·exact h.nw e (by simp [he]), fun j hj => by rw [k4 j (by omega) fun e he hc => by
   have := h.nw e (by simp [he])
   omega, h.old j hj]⟩
 refine k _ s' _ k1 hw hr' fun dA' dV' dC' => ⟨⟨?_, hw.nw, fun j hj => by rw [get_set_ne (by omega), hw.old j hj]⟩, ?_⟩
 ·exact Hp.set (A := []) hw.hp [dA', dV', dC', .int .i64 0]
 ·obtain ⟨d0, g, f, q⟩ := hr'
  refine ⟨d0, by rw [get_set_ne (by omega), g], f.stay fun id off len e => get_set_ne ?_, q⟩
  have := hsrc id (q id off len e)
  omega
theorem UnN.more {n : Nat} {mcs : List D} {s0 s : Store} {d dA dV dC : D} {A B E : Hs} {rows : List (List D)} (h : UnN n mcs s0 s dA dV dC (A ++ B)) (hE : Rp d 1 rows E) (hh : Has s E) (N : Nat) (hn : ∀ e ∈ E, N <= e.1) (h3 : n + 3 < N) (hw : ∀ w ∈ A ++ B, w.1 < N) : UnN n mcs s0 s dA dV dC (A ++ E ++ B) := by
 rcases hE with ⟨_, _, rfl⟩ | ⟨id, rfl, rfl, _⟩
 ·simpa using h
 ·have hid := hn _ (List.mem_singleton.2 rfl)
  simp only at hid
  have hp := h.hp.addW (id := id) (cs := rows.flatten) (hh (id, rows.flatten) (by simp)) (fun w hw' => by
   simp only [List.mem_cons] at hw'
   rcases hw' with rfl | rfl | hw'
   ·simp only; omega
   ·simp only; omega
   ·have := hw w hw'; omega) (fun r hr => by
   simp only [List.mem_singleton] at hr
   subst hr; simp only; omega)
  refine ⟨hp.perm ?_, fun e he => ?_, h.old⟩
  ·have e1 : (A ++ [(id, rows.flatten)] ++ B).Perm ((id, rows.flatten) :: (A ++ B)) := by
    rw [List.append_assoc]
    exact List.perm_middle
   exact ((e1.cons _).cons _).trans (((List.Perm.swap _ _ _).cons _).trans (List.Perm.swap _ _ _))
  ·simp only [List.mem_append, List.mem_singleton] at he
   rcases he with (he | rfl) | he
   ·exact h.nw e (by simp [he])
   ·simp only; omega
   ·exact h.nw e (by simp [he])
structure StU (s : Store) (x : StD) (st : Stt) : Prop where
 a : SN s 1 x.da (rowsN st.at')
 v : SN s 1 x.dv (rowsZ st.vars)
 c : ∃ qs : List D, SN s 1 x.dc (qs.map fun q => [q]) /\ qs.length = st.chans.length /\ ∀ j, j < qs.length -> ChR s (dAt qs j) (cAt st.chans j)
theorem FL.sn {s : Store} {n : Nat} {d : D} {rows : List (List D)} (h : FL n d rows) : SN s n d rows := by
 rcases h with ⟨rfl, h⟩ | rfl
 ·exact .inl ⟨rfl, h⟩
 ·exact .inr (.inr rfl)
theorem FL.chr {s : Store} {d : D} {l : List Int} (h : FI d l) : ChR s d l := by
 rcases h with ⟨rfl, h⟩ | rfl
 ·exact .inl ⟨rfl, by simpa [rowsZ] using h⟩
 ·exact .inr (.inl rfl)
theorem StF.u {s : Store} {x : StD} {st : Stt} (h : StF x st) : StU s x st := by
 obtain ⟨ds, h1, h2, h3⟩ := h.c
 refine ⟨h.a.sn, FL.sn h.v, ds, h1.sn, h2, fun j hj => ?_⟩
 rw [dAt_get hj, cAt_get (by omega)]
 exact FL.chr (h3 j hj (by omega))
theorem SttR.u {s : Store} {cs : List D} {st : Stt} (h : SttR s cs st) : ∃ x : StD, cs = [x.da, x.dv, x.dc, .int .i64 st.hold] /\ StU s x st := by
 obtain ⟨dA, dV, dC, qs, rfl, hA, hV, hC, hn, hl, hq⟩ := h
 exact ⟨⟨dA, dV, dC⟩, rfl, hA, hV, qs, hC, hl, fun j hj => by
  rw [dAt_get hj, cAt_get (by omega)]
  exact hq j hj (by omega)⟩
theorem ChR.stay {s s' : Store} {q : D} {l : List Int} (h : ChR s q l) (hf : Fr [] s s') : ChR s' q l := by
 rcases h with h | h | ⟨id, off, cs, rfl, h1, h2, h3⟩
 ·exact .inl h
 ·exact .inr (.inl h)
 ·exact .inr (.inr ⟨id, off, cs, rfl, by rw [hf.2 _ (get_lts h1) (by simp), h1], h2, h3⟩)
theorem StU.stay {s s' : Store} {x : StD} {st : Stt} (h : StU s x st) (hf : Fr [] s s') : StU s' x st := by
 obtain ⟨a, v, qs, h1, h2, h3⟩ := h
 exact ⟨a.stay hf, v.stay hf, qs, h1.stay hf, h2, fun j hj => (h3 j hj).stay hf⟩
theorem StU.ones {s : Store} {x : StD} {st : Stt} (h : StU s x st) : oneCell x.da = true /\ oneCell x.dv = true /\ oneCell x.dc = true := by
 obtain ⟨a, v, qs, h1, _⟩ := h
 exact ⟨a.one, v.one, h1.one⟩
theorem ChR.len {s : Store} {q : D} {l : List Int} (h : ChR s q l) : lenV false q = some (.int .i64 (l.length : Int)) := by
 rcases h with ⟨rfl, rfl⟩ | rfl | ⟨id, off, cs, rfl, _⟩
 ·rfl
 ·exact ln_i (.inr rfl)
 ·rfl
theorem SttR.stay {s s' : Store} {cs : List D} {st : Stt} (h : SttR s cs st) (hf : Fr [] s s') : SttR s' cs st := by
 obtain ⟨dA, dV, dC, qs, rfl, hA, hV, hC, hn, hl, hq⟩ := h
 exact ⟨dA, dV, dC, qs, rfl, hA.stay hf, hV.stay hf, hC.stay hf, hn, hl, fun j a b => (hq j a b).stay hf⟩
end Go.V
namespace Go.Proofs.Ytlaeblilmppodaa
open Go.V
set_option maxRecDepth 100000
set_option maxHeartbeats 4000000
variable {m : MdX} {mo : Mo} {ps : List (Pr × PrD)} {x : StD} {st : Stt}
theorem bits_b {x w : Int} (h0 : 1 <= w) (hw : w <= 16) : ∃ d, Eqc vfs 58 [.int .i64 x, .int .i64 w] d /\ FL 1 d (rowsB (bL x w.toNat)) := by
 obtain ⟨d, h1, h2⟩ := bits_ok (x := x) (w := w.toNat) (by omega) (by omega)
 rw [Int.toNat_of_nonneg (by omega)] at h1
 exact ⟨d, bc_of h1, h2⟩
theorem pack_ok (hm : MoF m mo ps) (ho : MoOk mo) (hf : MoFi mo) (hx : StNH mo x st) (hh : -1 <= st.hold /\ st.hold < (mo.procs.length : Int)) {s0 : Store} : EvP vfs 29 [.agg [m.dt, .int .i64 m.g, m.dc, m.dv, m.dp, m.ds, .bool m.b], .agg [x.da, x.dv, x.dc, .int .i64 st.hold]] s0 fun r s => ∃ d E R, r = .tup [d, .bool true] /\ GrL s0 s R d (mo.pack st) E := by
 have om := hm.ones
 have ox := hx.f.ones
 have hxa := hx.f.a
 have hxv := hx.f.v
 have hxf := hx.f
 have hmv := hm.v
 have hmc := hm.c
 have ea : st.at'.length = mo.procs.length := hx.fit.at'
 have ev : st.vars.length = mo.vars.length := hx.fit.vars
 have ec : st.chans.length = mo.chans.length := hx.fit.chans
 have hnp := ho.np
 have hnv := ho.nv
 have hnc := ho.nc
 have hfb := fits_bc hm ho hf hx
 rw [decide_eq_true hh] at hfb
 have fm := pz_mo hm
 have fx := pz_st hx.f
 refine yevp (vf := vf29) rfl ?_
 unfold vf29; refine zF ?_
 refine zY (aN om (aN ox (aN hfb (aN fm fx)))) ?_
 have hp0 : Has ((s0.push (.cells [m.dt, .int .i64 m.g, m.dc, m.dv, m.dp, m.ds, .bool m.b])).push (.cells [x.da, x.dv, x.dc, .int .i64 st.hold])) [(s0.next, [m.dt, .int .i64 m.g, m.dc, m.dv, m.dp, m.ds, .bool m.b]), (s0.next + 1, [x.da, x.dv, x.dc, .int .i64 st.hold])] := by
  intro y hy
  simp only [List.mem_cons, List.not_mem_nil, or_false] at hy
  rcases hy with rfl | rfl
  ·exact zZ0
  ·exact zZ0
 have hgr0 := GrL.nil (s0 := s0) hp0 ((Fr.push (ids := []) _).trans (Fr.push (ids := []) _) (by simp))
 generalize (s0.push (.cells [m.dt, .int .i64 m.g, m.dc, m.dv, m.dp, m.ds, .bool m.b])).push (.cells [x.da, x.dv, x.dc, .int .i64 st.hold]) = s1 at *
 refine yw_up [0, 1, 2, 3, 4, 5, 9, 10, 11, 12, 13, 14, 18, 20, 21, 39, 40, 41, 42, 58, 59, 60, 61, 74, 75, 76, 85] 0 mo.procs.length (fun i f s => f 22 = .int .i64 (i : Int) /\ ∃ E, GrL s0 s [(s0.next, [m.dt, .int .i64 m.g, m.dc, m.dv, m.dp, m.ds, .bool m.b]), (s0.next + 1, [x.da, x.dv, x.dc, .int .i64 st.hold])] (f 6) (mo.pkA st i) E) (.mk rfl) (by omega) ⟨rfl, [], hgr0⟩ ?_
 rintro i f s hi ⟨hE, E, hg⟩
 have g0 := hg.hp.r (s0.next, [m.dt, .int .i64 m.g, m.dc, m.dv, m.dp, m.ds, .bool m.b]) (by simp)
 have g1 := hg.hp.r (s0.next + 1, [x.da, x.dv, x.dc, .int .i64 st.hold]) (by simp)
 have on := hg.rp.one
 by_cases ci : i < mo.procs.length
 ·have ci' : i < st.at'.length := by omega
  have hin := wid_in ((pAt mo.procs i).places : Int)
  have hwd := width_bc (n := ((pAt mo.procs i).places : Int))
  have l0 := get_lts g0
  have l1 := get_lts g1
  refine zY (aN hE (aN ci (aN ci' (aN g0 (aN g1 (aN om (aN ox hwd))))))) ?_
  have hgb := hg.mv (fr_box (z := .cells [.str (bs []), .int .i64 0, .nils, .int .i64 0, .nils, .nils, .nils, .nils]) (o := .cells [.str (pAt mo.procs i).name, .int .i64 ((pAt mo.procs i).copy : Int), (prX ps i).dl, .int .i64 ((pAt mo.procs i).places : Int), (prX ps i).dr, (prX ps i).de, (prX ps i).dn, (prX ps i).dv]))
  have hu := unsigned_ok (A := []) (B := []) (n := nAt st.at' i) (w := wid ((pAt mo.procs i).places : Int)) hgb.rp hgb.hp hin.2 (by have := (pk_le ho hf st i).1; omega)
  refine wx_evpI (E.map Prod.fst) rfl hu rfl ?_ ?_
  ·intro e he hpr id hid
   simp only [List.mem_cons, List.not_mem_nil, or_false] at he
   rw [Store.next_set, Store.next_push]
   rcases he with rfl | rfl <;> simp only [Option.some.injEq] at hid <;> subst hid
   ·exact ⟨by omega, fun h => by have := hg.lt h; omega⟩
   ·exact ⟨by omega, hg.apart (r := (s0.next + 1, [x.da, x.dv, x.dc, .int .i64 st.hold])) (by simp)⟩
  rintro d s3 ⟨E3, hg3⟩ fr3
  have hg3 := hg3.base hgb
  refine zY (aN hE ci) ?_
  exact ⟨E3, by rw [pkA_succ ci ci']; exact hg3⟩
 obtain rfl : i = mo.procs.length := by omega
 refine zY (aN hE (aN ci (aN g0 (aN g1 (aN om ox))))) ?_
 have e0 : mo.pkV st 0 = mo.pkA st mo.procs.length := by unfold Mo.pkV; simp [encL]
 refine yw_up [0, 1, 2, 3, 4, 5, 7, 8, 11, 12, 13, 14, 18, 20, 21, 22, 23, 39, 40, 58, 59, 60, 61, 74, 75, 76, 85] 0 mo.vars.length (fun i f s => f 41 = .int .i64 (i : Int) /\ ∃ E, GrL s0 s [(s0.next, [m.dt, .int .i64 m.g, m.dc, m.dv, m.dp, m.ds, .bool m.b]), (s0.next + 1, [x.da, x.dv, x.dc, .int .i64 st.hold])] (f 6) (mo.pkV st i) E) (.mk rfl) (by omega) ⟨rfl, E, by rw [e0]; exact hg⟩ ?_
 clear hg g0 g1 on ci hE hi e0
 rintro i f s hi ⟨hE, E, hg⟩
 have g0 := hg.hp.r (s0.next, [m.dt, .int .i64 m.g, m.dc, m.dv, m.dp, m.ds, .bool m.b]) (by simp)
 have g1 := hg.hp.r (s0.next + 1, [x.da, x.dv, x.dc, .int .i64 st.hold]) (by simp)
 have on := hg.rp.one
 by_cases ci : i < mo.vars.length
 ·have ci' : i < st.vars.length := by omega
  have hw := hf.vr _ (vAt_mem ci)
  have l0 := get_lts g0
  have l1 := get_lts g1
  obtain ⟨db, hb1, hb2⟩ := bits_b (x := zAt st.vars i) (w := (vAt mo.vars i).width) hw.1 (by omega)
  have pb := hb2.pz
  refine zY (aN hE (aN ci (aN ci' (aN g0 (aN g1 (aN om (aN ox (aN hb1 pb)))))))) ?_
  refine bm_grBs (hg.mv fr_box) hb2 (by have := (pk_le ho hf st i).2.1; omega) (by simp; omega) (bL_ne (by omega)) ?_
  intro d' s' E' hg'
  refine zY (aN hE ci) ?_
  exact ⟨E', by rw [pkV_succ ci ci']; exact hg'⟩
 obtain rfl : i = mo.vars.length := by omega
 refine zY (aN hE (aN ci (aN g0 (aN g1 (aN om ox))))) ?_
 have e0 : mo.pkC st 0 = mo.pkV st mo.vars.length := by unfold Mo.pkC; simp [encL]
 refine yw_up [0, 1, 2, 3, 4, 5, 7, 8, 9, 10, 18, 20, 21, 22, 23, 39, 40, 41, 42, 58, 59] 0 mo.chans.length (fun i f s => f 60 = .int .i64 (i : Int) /\ ∃ E, GrL s0 s [(s0.next, [m.dt, .int .i64 m.g, m.dc, m.dv, m.dp, m.ds, .bool m.b]), (s0.next + 1, [x.da, x.dv, x.dc, .int .i64 st.hold])] (f 6) (mo.pkC st i) E) (.mk rfl) (by omega) ⟨rfl, E, by rw [e0]; exact hg⟩ ?_
 clear hg g0 g1 on ci hE hi e0
 rintro i f s hi ⟨hE, E, hg⟩
 have g0 := hg.hp.r (s0.next, [m.dt, .int .i64 m.g, m.dc, m.dv, m.dp, m.ds, .bool m.b]) (by simp)
 have g1 := hg.hp.r (s0.next + 1, [x.da, x.dv, x.dc, .int .i64 st.hold]) (by simp)
 have on := hg.rp.one
 by_cases ci : i < mo.chans.length
 rotate_left
 ·obtain rfl : i = mo.chans.length := by omega
  have e1 : IntKind.i64.wrap (st.hold + 1) = (((st.hold + 1).toNat : Nat) : Int) := by rw [i64_id (by omega) (by omega)]; omega
  have hu := unsigned_ok (A := []) (B := []) (n := (st.hold + 1).toNat) (w := 3) hg.rp hg.hp (by decide) (by have := (pk_le ho hf st mo.chans.length).2.2; omega)
  rw [Int.toNat_of_nonneg (by omega : 0 <= st.hold + 1)] at hu
  have e1 : IntKind.i64.wrap (st.hold + 1) = st.hold + 1 := i64_id (by omega) (by omega)
  refine zY (aN hE (aN ci (aN g0 (aN g1 (aN om (aN ox e1)))))) ?_
  refine xq_evp hu rfl ?_
  rintro d s3 ⟨⟨E3, hg3⟩, fr3⟩
  have hg3 := hg3.base hg
  refine zY0 ?_
  rw [pk_all ea ev ec] at hg3
  exact ⟨d, E3, _, rfl, hg3⟩
 have ci' : i < st.chans.length := by omega
 have h8 := hx.e.c _ (cAt_mem ci')
 have hw := hf.ch _ (chAt_mem ci)
 have l0 := get_lts g0
 have l1 := get_lts g1
 refine zY (aN hE (aN ci (aN ci' (aN g0 (aN g1 (aN om ox)))))) ?_
 have hgb := hg.box (z := .cells [.str (bs []), .int .i64 0, .int .i64 0, .bool false, .bool false]) (cs := [.str (chAt mo.chans i).name, .int .i64 (chAt mo.chans i).room, .int .i64 (chAt mo.chans i).width, .bool (chAt mo.chans i).lossy, .bool (chAt mo.chans i).copying])
 have hu := unsigned_ok (A := []) (B := []) (n := (cAt st.chans i).length) (w := 2) hgb.rp hgb.hp (by decide) (by have := (pk_le ho hf st i).2.2; omega)
 refine xq_evp hu rfl ?_
 rintro d s3 ⟨⟨E3, hg3⟩, fr3⟩
 have hg3 := hg3.base hgb
 clear hu hgb hg on
 generalize s.next = b at *
 have k0 := hg3.hp.r (s0.next, [m.dt, .int .i64 m.g, m.dc, m.dv, m.dp, m.ds, .bool m.b]) (by simp)
 have k1 := hg3.hp.r (s0.next + 1, [x.da, x.dv, x.dc, .int .i64 st.hold]) (by simp)
 have kb := hg3.hp.r (b, [.str (chAt mo.chans i).name, .int .i64 (chAt mo.chans i).room, .int .i64 (chAt mo.chans i).width, .bool (chAt mo.chans i).lossy, .bool (chAt mo.chans i).copying]) (by simp)
 refine zY (aN k0 (aN k1 (aN kb ox))) ?_
 have ekl : ∀ k, k <= (chAt mo.chans i).room.toNat -> (mo.pkC st i ++ bL ((cAt st.chans i).length : Int) 2 ++ encK (chAt mo.chans i).width.toNat (cAt st.chans i) k).length <= 2000 := fun k hk => by
  have h1 := (pk_le ho hf st i).2.2
  have h2 : k * (chAt mo.chans i).width.toNat <= 3 * 8 := Nat.mul_le_mul (by omega) (by omega)
  simp only [List.length_append, bL_len, encK_len]
  omega
 have er : (chAt mo.chans i).room = (((chAt mo.chans i).room.toNat : Nat) : Int) := by omega
 refine yw_up [0, 1, 2, 3, 4, 5, 7, 8, 9, 10, 11, 12, 18, 20, 21, 22, 23, 39, 40, 41, 42, 58, 59, 60, 61, 74] 0 (chAt mo.chans i).room.toNat (fun k f s => f 75 = .int .i64 (k : Int) /\ ∃ E, GrL s0 s ((b, [.str (chAt mo.chans i).name, .int .i64 (chAt mo.chans i).room, .int .i64 (chAt mo.chans i).width, .bool (chAt mo.chans i).lossy, .bool (chAt mo.chans i).copying]) :: [(s0.next, [m.dt, .int .i64 m.g, m.dc, m.dv, m.dp, m.ds, .bool m.b]), (s0.next + 1, [x.da, x.dv, x.dc, .int .i64 st.hold])]) (f 6) (mo.pkC st i ++ bL ((cAt st.chans i).length : Int) 2 ++ encK (chAt mo.chans i).width.toNat (cAt st.chans i) k) E) (.mk rfl) (by omega) ⟨rfl, E3, by rw [show encK (chAt mo.chans i).width.toNat (cAt st.chans i) 0 = [] from rfl, List.append_nil]; exact hg3⟩ ?_
 clear hg3 k0 k1 kb g0 g1
 rintro k f s hk ⟨hE, E, hg⟩
 have g0 := hg.hp.r (s0.next, [m.dt, .int .i64 m.g, m.dc, m.dv, m.dp, m.ds, .bool m.b]) (by simp)
 have g1 := hg.hp.r (s0.next + 1, [x.da, x.dv, x.dc, .int .i64 st.hold]) (by simp)
 have gb := hg.hp.r (b, [.str (chAt mo.chans i).name, .int .i64 (chAt mo.chans i).room, .int .i64 (chAt mo.chans i).width, .bool (chAt mo.chans i).lossy, .bool (chAt mo.chans i).copying]) (by simp)
 have on := hg.rp.one
 have ekl := ekl k hk
 have er : ((k : Int) < (chAt mo.chans i).room) = (k < (chAt mo.chans i).room.toNat) := by apply propext; omega
 by_cases ck : k < (chAt mo.chans i).room.toNat
 rotate_left
 ·obtain rfl : k = (chAt mo.chans i).room.toNat := by omega
  refine zY (aN hE (aN ci (aN ci' (aN g0 (aN g1 (aN gb (aN om (aN ox (aN er ck))))))))) ?_
  exact ⟨E, by rw [pkC_succ ci ci']; exact hg.sub (by simp)⟩
 obtain ⟨db, hb1, hb2⟩ := bits_b (x := zAt (cAt st.chans i) k) (w := (chAt mo.chans i).width) (by omega) (by omega)
 have pb := hb2.pz
 by_cases cl : k < (cAt st.chans i).length
 ·refine zY (aN hE (aN ci (aN ci' (aN g0 (aN g1 (aN gb (aN om (aN ox (aN er (aN ck (aN cl (aN hb1 pb)))))))))))) ?_
  refine bm_grBs hg hb2 (by omega) (by simp; omega) (bL_ne (by omega)) ?_
  intro d' s' E' hg'
  refine zY (aN hE ck) ?_
  exact ⟨E', by rw [encK_succ, <- List.append_assoc]; exact hg'⟩
 ·rw [zAt_out cl] at hb1
  refine zY (aN hE (aN ci (aN ci' (aN g0 (aN g1 (aN gb (aN om (aN ox (aN er (aN ck (aN cl (aN hb1 pb)))))))))))) ?_
  refine bm_grBs hg hb2 (by omega) (by simp; omega) (bL_ne (by omega)) ?_
  intro d' s' E' hg'
  refine zY (aN hE ck) ?_
  exact ⟨E', by rw [encK_succ, <- List.append_assoc]; exact hg'⟩
end Go.Proofs.Ytlaeblilmppodaa
namespace Go.Proofs.Ytlaeblilmppodaa
open Go.V
set_option maxRecDepth 100000
set_option maxHeartbeats 4000000
variable {m : MdX} {mo : Mo} {ps : List (Pr × PrD)} {x : StD} {st : Stt}
theorem nbits_bc (hm : MoF m mo ps) (ho : MoOk mo) (hf : MoFi mo) : Eqc vfs 27 [.agg [m.dt, .int .i64 m.g, m.dc, m.dv, m.dp, m.ds, .bool m.b]] (.int .i64 (mo.nbits : Int)) := by
 have om := hm.ones
 have hmv := hm.v
 have hmc := hm.c
 have hnp := ho.np
 have hnv := ho.nv
 have hnc := ho.nc
 refine bc_of ?_
 refine yiso (vf := vf27) rfl ?_
 unfold vf27; refine zF ?_
 refine zY om ?_
 have g0 : (Store.empty.push (.cells [m.dt, .int .i64 m.g, m.dc, m.dv, m.dp, m.ds, .bool m.b])).get 0 = some (.cells [m.dt, .int .i64 m.g, m.dc, m.dv, m.dp, m.ds, .bool m.b]) := by simp (disch := (first|exact Rf.mk rfl|with_reducible assumption|omega|((repeat (first|rw [nP]|rw [nS]|rw [nx_empty]))<;>omega)|decide)) only [go_sem, ↓reduceIte]
 generalize Store.empty.push (.cells [m.dt, .int .i64 m.g, m.dc, m.dv, m.dp, m.ds, .bool m.b]) = s0 at *
 refine yw_up [0, 1, 2, 7, 9, 11, 12, 24, 25, 26, 27, 36, 37, 38, 39] 0 mo.procs.length (fun i f s => f 13 = .int .i64 (i : Int) /\ f 3 = .int .i64 ((3 + szL (fun p : Pr => wid (p.places : Int)) (mo.procs.take i) : Nat) : Int) /\ s.get 0 = some (.cells [m.dt, .int .i64 m.g, m.dc, m.dv, m.dp, m.ds, .bool m.b])) (.mk rfl) (by omega) ⟨rfl, rfl, g0⟩ ?_
 clear g0
 rintro i f s hi ⟨hE, hE3, g0⟩
 have l0 := get_lts g0
 have hb := szP_le ho i
 by_cases ci : i < mo.procs.length
 ·have hwd := width_bc (n := ((pAt mo.procs i).places : Int))
  have hin := wid_in ((pAt mo.procs i).places : Int)
  have hs := szP_succ ci
  refine zY (aN hE (aN hE3 (aN ci (aN g0 (aN om hwd))))) ?_
  rw [hs]; omega
 obtain rfl : i = mo.procs.length := by omega
 rw [List.take_length] at hE3 hb
 refine zY (aN hE (aN hE3 (aN ci (aN g0 om)))) ?_
 refine yw_up [0, 1, 2, 5, 9, 11, 12, 13, 14, 24, 25, 36, 37, 38, 39] 0 mo.vars.length (fun i f s => f 26 = .int .i64 (i : Int) /\ f 3 = .int .i64 ((3 + szL (fun p : Pr => wid (p.places : Int)) mo.procs + szL (fun v : Vr => v.width.toNat) (mo.vars.take i) : Nat) : Int) /\ s.get 0 = some (.cells [m.dt, .int .i64 m.g, m.dc, m.dv, m.dp, m.ds, .bool m.b])) (.mk rfl) (by omega) ⟨rfl, rfl, g0⟩ ?_
 clear g0 ci hE hE3 hi
 rintro i f s hi ⟨hE, hE3, g0⟩
 have l0 := get_lts g0
 have hbv := szV_le ho hf i
 by_cases ci : i < mo.vars.length
 ·have hs := szV_succ ci
  have hw := hf.vr _ (vAt_mem ci)
  have e1 : IntKind.i64.wrap (((3 + szL (fun p : Pr => wid (p.places : Int)) mo.procs + szL (fun v : Vr => v.width.toNat) (mo.vars.take i) : Nat) : Int) + (vAt mo.vars i).width) = ((3 + szL (fun p : Pr => wid (p.places : Int)) mo.procs + szL (fun v : Vr => v.width.toNat) (mo.vars.take (i + 1)) : Nat) : Int) := by
   rw [hs, i64_id (by omega) (by omega)]; omega
  exact zZ (aN hE (aN hE3 (aN ci (aN g0 (aN om e1)))))
 obtain rfl : i = mo.vars.length := by omega
 rw [List.take_length] at hE3 hbv
 refine zY (aN hE (aN hE3 (aN ci (aN g0 om)))) ?_
 refine yw_up [0, 1, 2, 5, 7, 11, 12, 13, 14, 24, 25, 26, 27, 36, 37] 0 mo.chans.length (fun i f s => f 38 = .int .i64 (i : Int) /\ f 3 = .int .i64 ((3 + szL (fun p : Pr => wid (p.places : Int)) mo.procs + szL (fun v : Vr => v.width.toNat) mo.vars + szL (fun c : Ch => 2 + c.room.toNat * c.width.toNat) (mo.chans.take i) : Nat) : Int) /\ s.get 0 = some (.cells [m.dt, .int .i64 m.g, m.dc, m.dv, m.dp, m.ds, .bool m.b])) (.mk rfl) (by omega) ⟨rfl, rfl, g0⟩ ?_
 clear g0 ci hE hE3 hi
 rintro i f s hi ⟨hE, hE3, g0⟩
 have l0 := get_lts g0
 have hbc := szC_le ho hf i
 by_cases ci : i < mo.chans.length
 ·have hs := szC_succ ci
  have hw := hf.ch _ (chAt_mem ci)
  have hmul : (chAt mo.chans i).room * (chAt mo.chans i).width = (((chAt mo.chans i).room.toNat * (chAt mo.chans i).width.toNat : Nat) : Int) := by
   rw [Int.natCast_mul, Int.toNat_of_nonneg (by omega), Int.toNat_of_nonneg (by omega)]
  have hml : (chAt mo.chans i).room.toNat * (chAt mo.chans i).width.toNat <= 3 * 8 := Nat.mul_le_mul (by omega) (by omega)
  generalize (chAt mo.chans i).room.toNat * (chAt mo.chans i).width.toNat = P at *
  have e0 : IntKind.i64.wrap ((chAt mo.chans i).room * (chAt mo.chans i).width) = (P : Int) := by rw [hmul, i64_id (by omega) (by omega)]
  have e2 : IntKind.i64.wrap (2 + (P : Int)) = ((2 + P : Nat) : Int) := by rw [i64_id (by omega) (by omega)]; omega
  refine zY (aN hE (aN hE3 (aN ci (aN g0 (aN om (aN e0 e2)))))) ?_
  rw [hs]; omega
 ·obtain rfl : i = mo.chans.length := by omega
  rw [List.take_length] at hE3
  refine zY (aN hE (aN hE3 (aN ci (aN g0 om)))) ?_
  unfold Mo.nbits
  omega
end Go.Proofs.Ytlaeblilmppodaa
namespace Go.Proofs.Ytlaeblilmppodaa
open Go.V
set_option maxRecDepth 100000
set_option maxHeartbeats 4000000
variable {m : MdX} {mo : Mo} {ps : List (Pr × PrD)} {x : StD} {st : Stt}
theorem take_ok {s : Store} {r : Nat} {l : List Bool} {w : Nat} {src : Nat -> Prop} (hr : Rdq s r l src) (hsr : ¬ src r) (hw : w <= l.length) :
 EvP vfs 61 [.ptr r 0, .int .i64 (w : Int)] s fun d s' => (RdB s' d (l.take w) /\ (∀ id off len, d = .arr id off len 1 -> src id) /\ Rdq s' r (l.drop w) src) /\ Fr [r] s s' := by
 obtain ⟨d, hg, hd, hq⟩ := hr
 have hl := get_lts hg
 obtain ⟨d1, h1, h2, h2q⟩ := hd.take' hq hw (k := .i64)
 obtain ⟨d2, h3, h4, h4q⟩ := hd.drop' hq hw (k := .i64)
 have o0 := hd.one
 have o1 := h2.one
 have o2 := h4.one
 simp (disch := (first|exact Rf.mk rfl|with_reducible assumption|omega|((repeat (first|rw [nP]|rw [nS]|rw [nx_empty]))<;>omega)|decide)) only [go_sem, ↓reduceIte] at h1
 simp (disch := (first|exact Rf.mk rfl|with_reducible assumption|omega|((repeat (first|rw [nP]|rw [nS]|rw [nx_empty]))<;>omega)|decide)) only [go_sem, ↓reduceIte] at h3
 refine yevp (vf := vf61) rfl ?_
 unfold vf61; refine zF ?_
 refine zY (aN hg (aN o0 (aN o1 (aN o2 (aN h1 h3))))) ?_
 have st : ∀ {d : D} {l' : List Bool}, RdB s d l' -> (∀ id off len, d = .arr id off len 1 -> src id) -> RdB (s.set r (some (.cells [d2]))) d l' := fun k q => k.stay fun id off len e => get_set_ne fun h => hsr (h ▸ q id off len e)
 exact ⟨⟨st h2 h2q, h2q, d2, get_set_eq hl, st h4 h4q, h4q⟩, Fr.set _ (by simp)⟩
theorem runs_ok {s : Store} {r : Nat} {l : List Bool} {w : Nat} {src : Nat -> Prop} (hr : Rdq s r l src) (hsr : ¬ src r) (hw : w <= l.length) (hw2 : w <= 16) :
 EvP vfs 59 [.ptr r 0, .int .i64 (w : Int)] s fun d s' => (d = .int .i64 (num (aB l) w : Int) /\ Rdq s' r (l.drop w) src) /\ Fr [r] s s' := by
 have ht := take_ok hr hsr hw
 refine yevp (vf := vf59) rfl ?_
 unfold vf59; refine zF ?_
 refine zY0 ?_
 refine xq_evp ht rfl ?_
 rintro d s1 ⟨⟨hd, hdq, hr1⟩, fr1⟩
 have hl : (l.take w).length = w := by simp; omega
 have hln := hd.len
 refine zY (aN hln hl) ?_
 refine yw_up [0, 1, 4, 10, 11] 0 w (fun i f s' => f 12 = .int .i64 (i : Int) /\ f 5 = .int .i64 (num (aB (l.take w)) i : Int) /\ s' = s1) (.mk rfl) (by omega) ⟨rfl, rfl, rfl⟩ ?_
 rintro i f s' hi ⟨hE, hE5, rfl⟩
 by_cases ci : i < w
 ·have ci' : i < (l.take w).length := by omega
  obtain ⟨q, q1, q2⟩ := hd.idx ci' (k := .i64)
  have hsh := shl_64 (w := i) (k := .u64) (by omega)
  have hu : IntKind.u64.wrap (i : Int) = (i : Int) := by rw [IntKind.wrap_u64]; omega
  have hor := orI_num (num_lt (aB (l.take w)) i) (by omega)
  have hnum : num (aB (l.take w)) (i + 1) = num (aB (l.take w)) i + b2n (aB (l.take w) i) * 2 ^ i := rfl
  cases hb : aB (l.take w) i
  ·rw [hb] at hnum
   refine zY (aN hE (aN hE5 (aN ci (aN q1 (aN q2 hb))))) ?_
   rw [hnum]; simp [b2n]
  ·rw [hb] at hnum
   refine zY (aN hE (aN hE5 (aN ci (aN q1 (aN q2 (aN hb (aN hsh (aN hu hor)))))))) ?_
   rw [hnum]; simp [b2n]
 ·obtain rfl : i = w := by omega
  refine zY (aN hE (aN hE5 ci)) ?_
  exact ⟨⟨by rw [num_take], hr1⟩, fr1⟩
theorem value_bc {d : D} {l : List Bool} {w : Nat} (hd : FL 1 d (rowsB l)) (hl : l.length = w) (h1 : 1 <= w) (h2 : w <= 16) : Eqc vfs 60 [d] (.int .i64 (valZ (aB l) w)) := by
 have hmin : min (w : Int) 16 = (w : Int) := by omega
 refine bc_of ?_
 refine yiso (vf := vf60) rfl ?_
 unfold vf60; refine zF ?_
 refine zY (aN hd (aN hl hmin)) ?_
 refine yw_up [0, 2, 3, 9, 30] 0 w (fun i f s' => f 10 = .int .i64 (i : Int) /\ f 4 = .int .i64 (num (aB l) i : Int)) (.mk rfl) (by omega) ⟨rfl, rfl⟩ ?_
 rintro i f s' hi ⟨hE, hE4⟩
 have hnl := num_lt (aB l) i
 have hp := pow_le16 (w := i) (by omega)
 have hpn := pow_nat i
 by_cases ci : i < w
 ·have ci' : i < l.length := by omega
  have hsh := shl_64 (w := i) (k := .i64) (by omega)
  have hnum : num (aB l) (i + 1) = num (aB l) i + b2n (aB l i) * 2 ^ i := rfl
  have hadd : IntKind.i64.wrap ((num (aB l) i : Int) + 2 ^ i) = ((num (aB l) i + 2 ^ i : Nat) : Int) := by rw [i64_id (by omega) (by omega)]; omega
  cases hb : aB l i
  ·rw [hb] at hnum
   refine zY (aN hE (aN hE4 (aN ci (aN ci' (aN hd hb))))) ?_
   rw [hnum]; simp [b2n]
  ·rw [hb] at hnum
   refine zY (aN hE (aN hE4 (aN ci (aN ci' (aN hd (aN hb (aN hsh hadd))))))) ?_
   rw [hnum]; simp [b2n]
 ·obtain rfl : i = w := by omega
  have ht : IntKind.i64.wrap ((i : Int) - 1) = ((i - 1 : Nat) : Int) := by rw [i64_id (by omega) (by omega)]; omega
  have c2 : i - 1 < l.length := by omega
  have c3 : 0 < i := by omega
  have hsh := shl_64 (w := i) (k := .i64) (by omega)
  have hv : valZ (aB l) i = (num (aB l) i : Int) - (b2n (aB l (i - 1)) : Int) * 2 ^ i := rfl
  have hsub : IntKind.i64.wrap ((num (aB l) i : Int) - 2 ^ i) = (num (aB l) i : Int) - 2 ^ i := i64_id (by omega) (by omega)
  cases hb : aB l (i - 1)
  ·rw [hb] at hv
   refine zY (aN hE (aN hE4 (aN ci (aN ht (aN c2 (aN c3 (aN hd hb))))))) ?_
   rw [hv]; simp [b2n]
  ·rw [hb] at hv
   refine zY (aN hE (aN hE4 (aN ci (aN ht (aN c2 (aN c3 (aN hd (aN hb (aN hsh hsub))))))))) ?_
   rw [hv]; simp [b2n]
theorem chan_ok {s : Store} {r : Nat} {l : List Bool} {c : Ch} {src : Nat -> Prop} (hr : Rdq s r l src) (hsr : ¬ src r) (hlt : ∀ i, src i -> i < s.next) (h1 : 1 <= c.room) (h2 : c.room <= 3) (h3 : 1 <= c.width) (h4 : c.width <= 8) (hl : 2 + c.room.toNat * c.width.toNat <= l.length) :
 EvP vfs 62 [.ptr r 0, .agg [.str c.name, .int .i64 c.room, .int .i64 c.width, .bool c.lossy, .bool c.copying]] s fun d s' => (∃ dl b E, d = .tup [dl, .bool b] /\ Rp dl 1 (rowsZ (decK c.width.toNat (num (aB l) 2) c.room.toNat (l.drop 2)).1) E /\ Has s' E /\ (∀ e ∈ E, s.next <= e.1) /\ b = ((decide ((num (aB l) 2 : Int) <= c.room)) && (decK c.width.toNat (num (aB l) 2) c.room.toNat (l.drop 2)).2.1) /\ Rdq s' r (decK c.width.toNat (num (aB l) 2) c.room.toNat (l.drop 2)).2.2 src) /\ Fr [r] s s' := by
 have hrl := get_lts hr.choose_spec.1
 refine yevp (vf := vf62) rfl ?_
 unfold vf62; refine zF ?_
 refine zY0 ?_
 have hr0 : Rdq (s.push (.cells [.str c.name, .int .i64 c.room, .int .i64 c.width, .bool c.lossy, .bool c.copying])) r l src := hr.fr (Fr.push (ids := []) _) (by simp) (by simp)
 have hru := runs_ok (w := 2) hr0 hsr (by omega) (by decide)
 refine xq_evp hru rfl ?_
 rintro d s1 ⟨⟨rfl, hr1⟩, fr1⟩
 have gc := fr1.2 s.next (by simp) (by simp; omega)
 rw [get_push_new rfl] at gc
 have fr1 : Fr [r] s s1 := (Fr.push _).trans fr1 (by simp)
 refine zY gc ?_
 generalize hn : num (aB l) 2 = n at *
 generalize hw : c.width.toNat = w at *
 have hwl : (c.width : Int) = (w : Int) := by omega
 refine yw_up [0, 1, 3, 4, 5, 6, 18] 0 c.room.toNat (fun k f s' => f 19 = .int .i64 (k : Int) /\ f 7 = .bool (decide ((n : Int) <= c.room) && (decK w n k (l.drop 2)).2.1) /\ s.next < s'.next /\ Fr [r] s s' /\ Rdq s' r (decK w n k (l.drop 2)).2.2 src /\ s'.get s.next = some (.cells [.str c.name, .int .i64 c.room, .int .i64 c.width, .bool c.lossy, .bool c.copying]) /\ ∃ E, GrZ (s.next + 1) s' [] (f 8) (decK w n k (l.drop 2)).1 E) (.mk rfl) (by omega) ⟨rfl, ?_, get_lts gc, fr1, hr1, gc, [], .inl ⟨rfl, rfl, rfl⟩, ⟨List.nodup_nil, by simp, by simp [Has], by simp [Has]⟩, by simp⟩ ?_
 ·show D.bool _ = D.bool _
  simp [decK]
 clear gc hr1 fr1 hr0 hru hr
 rintro k f s' hk ⟨hE, hE7, hnx, fr, hr, gc, E, hg⟩
 have er : ((k : Int) < c.room) = (k < c.room.toNat) := by apply propext; omega
 have on := hg.rp.one
 by_cases ck : k < c.room.toNat
 rotate_left
 ·obtain rfl : k = c.room.toNat := by omega
  refine zY (aN hE (aN hE7 (aN er (aN ck on)))) ?_
  exact ⟨⟨_, _, E, rfl, hg.rp, hg.hp.w, fun e he => by have := hg.nw e he; omega, rfl, hr⟩, fr⟩
 have hdl : w <= (decK w n k (l.drop 2)).2.2.length := by
  rw [decK_drop, List.length_drop, List.length_drop]
  have : (k + 1) * w <= c.room.toNat * w := Nat.mul_le_mul_right _ (by omega)
  rw [Nat.succ_mul] at this
  omega
 have ht := take_ok (w := w) hr hsr hdl
 rw [<- hwl] at ht
 have hl3 := decK_len w n k (l.drop 2)
 refine zY (aN hE (aN hE7 (aN er (aN ck gc)))) ?_
 refine xq_evp ht rfl ?_
 rintro d s2 ⟨⟨hd, hdq, hr2⟩, fr2⟩
 obtain ⟨db, f1, f2⟩ := hd.frz 18
 have hic : ∀ l, mapO (V.ice s2.get 20) (d :: l) = (mapO (V.ice s2.get 20) l).map (db :: ·) := fun l => ic_ice f1
 have hv := value_bc (w := w) f2 (by simp; omega) (by omega) (by omega)
 rw [val_take (by omega)] at hv
 have gc2 := fr2.2 s.next hnx (by simp; omega)
 rw [gc] at gc2
 have hg2 := hg.fr fr2 (by intro i hi; simp only [List.mem_singleton] at hi; omega) (by simp)
 have fr3 := fr.trans fr2 (by simp)
 have hn2 := fr2.1
 have hs := decK_succ w n k (l.drop 2)
 by_cases c1 : k < n
 ·rw [if_pos c1] at hs
  simp (disch := (first|exact Rf.mk rfl|with_reducible assumption|omega|((repeat (first|rw [nP]|rw [nS]|rw [nx_empty]))<;>omega)|decide)) only [go_sem, ↓reduceIte, hE, hv, hic, Bool.true_or, c1, ck]
  refine bm_grZ hg2 (by omega) (by omega) ?_
  intro d3 s3 E3 hg3 hn3 hk3
  have gc3 : s3.get s.next = some (.cells [.str c.name, .int .i64 c.room, .int .i64 c.width, .bool c.lossy, .bool c.copying]) := by rw [hk3 _ (by omega), gc2]
  have hr3 : Rdq s3 r ((decK w n k (l.drop 2)).2.2.drop w) src := by
   obtain ⟨d, g, k, q⟩ := hr2
   refine ⟨d, by rw [hk3 r (by omega), g], k.stay fun id off len e => hk3 id ?_, q⟩
   have := hlt id (q id off len e)
   omega
  have fr4 : Fr [r] s s3 := ⟨by omega, fun j hj hjn => by rw [hk3 j (by omega), fr3.2 j hj hjn]⟩
  refine zY (aN hE ck) ?_
  rw [hs]
  exact ⟨rfl, by omega, fr4, hr3, gc3, E3, hg3⟩
 ·rw [if_neg c1] at hs
  by_cases c2 : valZ (aB (decK w n k (l.drop 2)).2.2) w = 0
  ·simp (disch := (first|exact Rf.mk rfl|with_reducible assumption|omega|((repeat (first|rw [nP]|rw [nS]|rw [nx_empty]))<;>omega)|decide)) only [go_sem, ↓reduceIte, hE, hv, hic, Bool.true_or, c1, c2, ck]
   rw [hs]
   exact ⟨by simp [c2], by omega, fr3, hr2, gc2, E, hg2⟩
  ·simp (disch := (first|exact Rf.mk rfl|with_reducible assumption|omega|((repeat (first|rw [nP]|rw [nS]|rw [nx_empty]))<;>omega)|decide)) only [go_sem, ↓reduceIte, hE, hv, hic, Bool.true_or, c1, c2, ck]
   rw [hs]
   exact ⟨by simp [c2], by omega, fr3, hr2, gc2, E, hg2⟩
end Go.Proofs.Ytlaeblilmppodaa
namespace Go.Proofs.Ytlaeblilmppodaa
open Go.V
set_option maxRecDepth 100000
set_option maxHeartbeats 4000000
variable {m : MdX} {mo : Mo} {ps : List (Pr × PrD)} {x : StD} {st : Stt}
def UnS (mo : Mo) (bs : List Bool) (r : D) (s : Store) : Prop := (mo.unpack bs = none /\ r = .tup [.agg [.nils, .nils, .nils, .int .i64 0], .bool false]) ∨ ∃ st cs, mo.unpack bs = some st /\ r = .tup [.agg cs, .bool true] /\ SttR s cs st
theorem unpack_ok (hm : MoF m mo ps) (ho : MoOk mo) (hf : MoFi mo) {s0 : Store} {d : D} {bs : List Bool} (hd : RdB s0 d bs) : EvP vfs 30 [.agg [m.dt, .int .i64 m.g, m.dc, m.dv, m.dp, m.ds, .bool m.b], d] s0 fun r s' => ((bs.length ≠ mo.nbits /\ r = .tup [.agg [.nils, .nils, .nils, .int .i64 0], .bool false]) ∨ (bs.length = mo.nbits /\ UnS mo bs r s')) /\ Fr [] s0 s' := by
 have om := hm.ones
 have hmv := hm.v
 have hmc := hm.c
 have hnp := ho.np
 have hnv := ho.nv
 have hnc := ho.nc
 have fm := pz_mo hm
 have hnb := nbits_bc hm ho hf
 have od := hd.one
 have hln := hd.len
 by_cases hb : bs.length = mo.nbits
 rotate_left
 ·refine yevp (vf := vf30) rfl ?_
  unfold vf30; refine zF ?_
  refine zY (aN om (aN fm (aN hnb (aN hln (aN od hb))))) ?_
  exact ⟨.inl ⟨hb, rfl⟩, ((Fr.push (ids := []) _).trans (Fr.push (ids := []) _) (by simp)).thenSet _ (.inr (by simp))⟩
 have hbl := szP_le ho mo.procs.length
 have hbv := szV_le ho hf mo.vars.length
 have hbc := szC_le ho hf mo.chans.length
 rw [List.take_length] at hbl hbv hbc
 have hnbe : mo.nbits = szL (fun p : Pr => wid (p.places : Int)) mo.procs + szL (fun v : Vr => v.width.toNat) mo.vars + szL (fun c : Ch => 2 + c.room.toNat * c.width.toNat) mo.chans + 3 := rfl
 refine yevp (vf := vf30) rfl ?_
 unfold vf30; refine zF ?_
 refine zY (aN om (aN fm (aN hnb (aN hln (aN hb od))))) ?_
 have hu0 : UnN s0.next [m.dt, .int .i64 m.g, m.dc, m.dv, m.dp, m.ds, .bool m.b] s0 ((((s0.push (.cells [m.dt, .int .i64 m.g, m.dc, m.dv, m.dp, m.ds, .bool m.b])).push (.cells [.nils, .nils, .nils, .int .i64 0])).push (.cells [d])).push (.cells [.nils, .nils, .nils, .int .i64 0])) .nils .nils .nils [] := ⟨⟨by simp, by simp, by
  intro y hy
  simp only [List.mem_cons, List.not_mem_nil, or_false] at hy
  rcases hy with rfl | rfl
  ·exact zZ0
  ·simp (disch := (first|exact Rf.mk rfl|with_reducible assumption|omega|((repeat (first|rw [nP]|rw [nS]|rw [nx_empty]))<;>omega)|decide)) only [go_sem, ↓reduceIte], by
  intro y hy
  simp only [List.mem_cons, List.not_mem_nil, or_false] at hy
  subst hy
  simp (disch := (first|exact Rf.mk rfl|with_reducible assumption|omega|((repeat (first|rw [nP]|rw [nS]|rw [nx_empty]))<;>omega)|decide)) only [go_sem, ↓reduceIte]⟩, by simp, fun j hj => by rw [get_push_old (by first | omega | (simp; omega)), get_push_old (by first | omega | (simp; omega)), get_push_old (by first | omega | (simp; omega)), get_push_old (by first | omega | (simp; omega))]⟩
 have hr0 : Rdq ((((s0.push (.cells [m.dt, .int .i64 m.g, m.dc, m.dv, m.dp, m.ds, .bool m.b])).push (.cells [.nils, .nils, .nils, .int .i64 0])).push (.cells [d])).push (.cells [.nils, .nils, .nils, .int .i64 0])) (s0.next + 2) bs (fun i => i < s0.next) := ⟨d, by simp (disch := (first|exact Rf.mk rfl|with_reducible assumption|omega|((repeat (first|rw [nP]|rw [nS]|rw [nx_empty]))<;>omega)|decide)) only [go_sem, ↓reduceIte], hd.stay fun id off len e => by
  have := hd.lt id off len e
  rw [get_push_old (by first | omega | (simp; omega)), get_push_old (by first | omega | (simp; omega)), get_push_old (by first | omega | (simp; omega)), get_push_old (by first | omega | (simp; omega))], hd.lt⟩
 generalize (((s0.push (.cells [m.dt, .int .i64 m.g, m.dc, m.dv, m.dp, m.ds, .bool m.b])).push (.cells [.nils, .nils, .nils, .int .i64 0])).push (.cells [d])).push (.cells [.nils, .nils, .nils, .int .i64 0]) = s1 at *
 have hfr : ∀ {s' dA dV dC W}, UnN s0.next [m.dt, .int .i64 m.g, m.dc, m.dv, m.dp, m.ds, .bool m.b] s0 s' dA dV dC W -> Fr [] s0 s' := fun h => ⟨by have := h.lt; omega, fun j hj _ => h.old j hj⟩
 generalize hn : s0.next = n at *
 refine yw_up [0, 1, 2, 4, 6, 7, 12, 14, 15, 16, 21, 27, 28, 51, 52, 53, 54, 69, 70, 71, 72, 82, 100] 0 mo.procs.length (fun i f s => f 29 = .int .i64 (i : Int) /\ f 5 = .bool false /\ ∃ o rest dA EA, decL decP (mo.procs.take i) bs = some (o, rest) /\ rest.length + szL (fun p : Pr => wid (p.places : Int)) (mo.procs.take i) = mo.nbits /\ Rp dA 1 (rowsN o) EA /\ UnN n [m.dt, .int .i64 m.g, m.dc, m.dv, m.dp, m.ds, .bool m.b] s0 s dA .nils .nils EA /\ Rdq s (n + 2) rest (fun i => i < n) /\ o.length = i) (.mk rfl) (by omega) ⟨rfl, rfl, [], bs, .nils, [], rfl, by rw [hb]; rfl, .inl ⟨rfl, rfl, rfl⟩, hu0, hr0, rfl⟩ ?_
 clear hu0 hr0
 rintro i f s hi ⟨hE, hE5, o, rest, dA, EA, hdec, hlen, hrp, hu, hr, hol⟩
 have g0 := hu.hp.r (n, [m.dt, .int .i64 m.g, m.dc, m.dv, m.dp, m.ds, .bool m.b]) (by simp)
 have g3 := hu.hp.w (n + 3, [dA, .nils, .nils, .int .i64 0]) (by simp)
 have oA := hrp.one
 have hlt := hu.lt
 by_cases ci : i < mo.procs.length
 ·have hwd := width_bc (n := ((pAt mo.procs i).places : Int))
  have hin := wid_in ((pAt mo.procs i).places : Int)
  have hss := szP_succ ci
  have hsi := szL_mono (fun p : Pr => wid (p.places : Int)) mo.procs (i + 1)
  have hds := decL_step ci hdec
  rw [<- pAt_get ci] at hds
  refine zY (aN hE (aN ci (aN g0 (aN om hwd)))) ?_
  have hb2 := fr_box (s := s) (z := .cells [.str (V.bs []), .int .i64 0, .nils, .int .i64 0, .nils, .nils, .nils, .nils]) (o := .cells [.str (pAt mo.procs i).name, .int .i64 ((pAt mo.procs i).copy : Int), (prX ps i).dl, .int .i64 ((pAt mo.procs i).places : Int), (prX ps i).dr, (prX ps i).de, (prX ps i).dn, (prX ps i).dv])
  have hru := runs_ok (hr.fr hb2 (by simp) (by simp)) (by simp) (w := wid ((pAt mo.procs i).places : Int)) (by omega) hin.2
  refine xq_evp hru rfl ?_
  rintro r s2 ⟨⟨rfl, hr2⟩, fr2⟩
  have hu2 := (hu.fr hb2 (by simp)).fr fr2 (by simp)
  have k3 := hu2.hp.w (n + 3, [dA, .nils, .nils, .int .i64 0]) (by simp)
  have k1 := hu2.hp.w (n + 1, [.nils, .nils, .nils, .int .i64 0]) (by simp)
  have kb := fr2.2 s.next (by simp) (by simp; omega)
  rw [get_set_eq (by simp)] at kb
  have hl2 := hu2.lt
  by_cases cn : num (aB rest) (wid ((pAt mo.procs i).places : Int)) < (pAt mo.procs i).places
  ·have cn' : ¬ (pAt mo.procs i).places <= num (aB rest) (wid ((pAt mo.procs i).places : Int)) := by omega
   have hdp : decP (pAt mo.procs i) rest = some (num (aB rest) (wid ((pAt mo.procs i).places : Int)), rest.drop (wid ((pAt mo.procs i).places : Int))) := by unfold decP; rw [if_pos cn]
   rw [hdp] at hds
   refine zY (aN kb (aN k3 (aN oA cn'))) ?_
   refine bm_unn (A := []) (B := []) (E := EA) (by simpa using hu2) hr2 (fun _ h => h) hrp rfl (fun r hr => ?_) (by decide) (by simp; omega) ?_
   ·obtain ⟨x, _, rfl⟩ := List.mem_map.1 hr; rfl
   intro d' s3 E' hrp3 hu3 hr3 hset
   have q3 := hu3.hp.w (n + 3, [dA, .nils, .nils, .int .i64 0]) (by simp)
   have o3 := hrp3.one
   refine zY (aN q3 (aN o3 (aN hE ci))) ?_
   have hw := hset d' .nils .nils
   refine ⟨hE5, _, _, d', E', hds, ?_, ?_, ?_, hw.2, by simp [hol]⟩
   ·rw [List.length_drop, hss]; omega
   ·rw [show rowsN (o ++ [num (aB rest) (wid ((pAt mo.procs i).places : Int))]) = rowsN o ++ [[.int .i64 (num (aB rest) (wid ((pAt mo.procs i).places : Int)) : Int)]] by simp [rowsN]]; exact hrp3
   ·simpa using hw.1
  ·have cn' : (pAt mo.procs i).places <= num (aB rest) (wid ((pAt mo.procs i).places : Int)) := by omega
   have hdp : decP (pAt mo.procs i) rest = none := by unfold decP; rw [if_neg cn]
   rw [hdp] at hds
   have hnone : mo.unpack bs = none := by unfold Mo.unpack; rw [decL_none hds]
   refine zY (aN kb (aN k1 cn')) ?_
   exact ⟨.inr (.inl ⟨hnone, rfl⟩), (hfr hu2).thenSet _ (.inr (by omega))⟩
 obtain rfl : i = mo.procs.length := by omega
 rw [List.take_length] at hdec hlen
 refine zY (aN hE (aN ci (aN g0 om))) ?_
 have e0 : mo.unpack bs = match decL decV mo.vars rest with
  | some (v, r2) => (match decL decC mo.chans r2 with
    | some (c, r3) => if (num (aB r3) 3 : Int) - 1 < (mo.procs.length : Int) then some ⟨o, v, c, (num (aB r3) 3 : Int) - 1⟩ else none
    | none => none)
  | none => none := by unfold Mo.unpack; rw [hdec] <;> rfl
 clear hdec
 refine yw_up [0, 1, 2, 4, 5, 6, 7, 9, 10, 14, 15, 16, 21, 27, 28, 29, 30, 41, 51, 52, 69, 70, 71, 72, 82, 100] 0 mo.vars.length (fun i f s => f 53 = .int .i64 (i : Int) /\ True /\ ∃ v rest2 dV EV, decL decV (mo.vars.take i) rest = some (v, rest2) /\ rest2.length + szL (fun p : Pr => wid (p.places : Int)) mo.procs + szL (fun v : Vr => v.width.toNat) (mo.vars.take i) = mo.nbits /\ Rp dV 1 (rowsZ v) EV /\ UnN n [m.dt, .int .i64 m.g, m.dc, m.dv, m.dp, m.ds, .bool m.b] s0 s dA dV .nils (EA ++ EV) /\ Rdq s (n + 2) rest2 (fun i => i < n) /\ v.length = i) (.mk rfl) (by omega) ⟨rfl, trivial, [], rest, .nils, [], rfl, by rw [<- hlen]; rfl, .inl ⟨rfl, rfl, rfl⟩, by rw [List.append_nil]; exact hu, hr, rfl⟩ ?_
 clear hr hE ci hi hlt g0 g3 hlen hu
 rintro i f s hi ⟨hE, -, v, rest2, dV, EV, hdec, hlen, hrv, hu, hr, hvl⟩
 have g0 := hu.hp.r (n, [m.dt, .int .i64 m.g, m.dc, m.dv, m.dp, m.ds, .bool m.b]) (by simp)
 have g3 := hu.hp.w (n + 3, [dA, dV, .nils, .int .i64 0]) (by simp)
 have oV := hrv.one
 have hlt := hu.lt
 by_cases ci : i < mo.vars.length
 ·have hw := hf.vr _ (vAt_mem ci)
  have hss := szV_succ ci
  have hsi := szL_mono (fun v : Vr => v.width.toNat) mo.vars (i + 1)
  have hds := decL_step ci hdec
  rw [<- vAt_get ci] at hds
  unfold decV at hds
  simp only at hds
  have hb2 := fr_box (s := s) (z := .cells [.str (V.bs []), .int .i64 0, .int .i64 0]) (o := .cells [.str (vAt mo.vars i).name, .int .i64 (vAt mo.vars i).width, .int .i64 (vAt mo.vars i).value])
  have ht := take_ok (hr.fr hb2 (by simp) (by simp)) (by simp) (w := (vAt mo.vars i).width.toNat) (by omega)
  rw [Int.toNat_of_nonneg (by omega : 0 <= (vAt mo.vars i).width)] at ht
  refine zY (aN hE (aN ci (aN g0 (aN g3 (aN om oV))))) ?_
  refine wx_evpI [n + 2] rfl ht rfl ?_ ?_
  ·intro e he hpr id hid
   simp only [List.mem_cons, List.not_mem_nil, or_false] at he
   rw [Store.next_set, Store.next_push]
   rcases he with rfl | rfl <;> simp only [Option.some.injEq] at hid <;> subst hid
   ·exact ⟨by omega, by simp; omega⟩
   ·exact ⟨by omega, by simp⟩
  rintro dt s2 ⟨hdt, hdq, hr2⟩ fr2
  obtain ⟨db, f1, f2⟩ := hdt.frz 18
  have hic : ∀ l, mapO (V.ice s2.get 20) (dt :: l) = (mapO (V.ice s2.get 20) l).map (db :: ·) := fun l => ic_ice f1
  have hv := value_bc (w := (vAt mo.vars i).width.toNat) f2 (by simp; omega) (by omega) (by omega)
  rw [val_take (by omega)] at hv
  have hu2 := (hu.fr hb2 (by simp)).fr fr2 (by simp)
  simp (disch := (first|exact Rf.mk rfl|with_reducible assumption|omega|((repeat (first|rw [nP]|rw [nS]|rw [nx_empty]))<;>omega)|decide)) only [go_sem, ↓reduceIte, hv, hic, Bool.true_or]
  refine mx_unn (A := EA) (B := []) (E := EV) (by simpa using hu2) hr2 (fun _ h => h) hrv rfl (fun r hr => ?_) (by decide) (by simp; omega) ?_ ?_
  ·obtain ⟨x, _, rfl⟩ := List.mem_map.1 hr; rfl
  ·exact ⟨fun h => absurd (show hasP [(1, 5), (1, 6)] 7 8 = true from h) (by decide), fun h => absurd (show hasP [(1, 5), (1, 6)] 5 8 = true from h) (by decide), fun h => absurd (show hasP [(1, 5), (1, 6)] 4 8 = true from h) (by decide), fun h => absurd (show hasP [(1, 5), (1, 6)] 1 8 = true from h) (by decide), trivial⟩
  intro d' s3 E' hrp3 hu3 hr3 hset
  have q3 := hu3.hp.w (n + 3, [dA, dV, .nils, .int .i64 0]) (by simp)
  have o3 := hrp3.one
  refine zY (aN q3 (aN o3 (aN hE ci))) ?_
  have hww := hset dA d' .nils
  refine ⟨_, _, d', E', hds, ?_, ?_, by simpa using hww.1, hww.2, by simp [hvl]⟩
  ·rw [List.length_drop, hss]; omega
  ·rw [show rowsZ (v ++ [valZ (aB rest2) (vAt mo.vars i).width.toNat]) = rowsZ v ++ [[.int .i64 (valZ (aB rest2) (vAt mo.vars i).width.toNat)]] by simp [rowsZ]]; exact hrp3
 obtain rfl : i = mo.vars.length := by omega
 rw [List.take_length] at hdec hlen
 rw [hdec] at e0
 simp only at e0
 refine zY (aN hE (aN ci (aN g0 om))) ?_
 clear hdec
 refine yw_up [0, 1, 2, 4, 6, 7, 9, 10, 12, 21, 27, 28, 29, 30, 41, 51, 52, 53, 54, 69, 70, 100] 0 mo.chans.length (fun i f s => f 71 = .int .i64 (i : Int) /\ f 5 = .bool false /\ ∃ c rest3 dC EC qs W, decL decC (mo.chans.take i) rest2 = some (c, rest3) /\ rest3.length + szL (fun p : Pr => wid (p.places : Int)) mo.procs + szL (fun v : Vr => v.width.toNat) mo.vars + szL (fun c : Ch => 2 + c.room.toNat * c.width.toNat) (mo.chans.take i) = mo.nbits /\ Rp dC 1 (qs.map fun q => [q]) EC /\ UnN n [m.dt, .int .i64 m.g, m.dc, m.dv, m.dp, m.ds, .bool m.b] s0 s dA dV dC (EA ++ EV ++ W ++ EC) /\ Rdq s (n + 2) rest3 (fun i => i < n) /\ c.length = i /\ qs.length = i /\ ∀ j, j < i -> ∃ E, Rp (dAt qs j) 1 (rowsZ (cAt c j)) E /\ ∀ e ∈ E, e ∈ W) (.mk rfl) (by omega) ⟨rfl, hE5, [], rest2, .nils, [], [], [], rfl, by rw [<- hlen]; rfl, .inl ⟨rfl, rfl, rfl⟩, by simpa using hu, hr, rfl, rfl, fun j h => by omega⟩ ?_
 clear hr hE ci hi hlt g0 g3 hlen hu hE5
 rintro i f s hi ⟨hE, hE5, c, rest3, dC, EC, qs, W, hdec, hlen, hrc, hu, hr, hcl, hql, hq⟩
 have g0 := hu.hp.r (n, [m.dt, .int .i64 m.g, m.dc, m.dv, m.dp, m.ds, .bool m.b]) (by simp)
 have g3 := hu.hp.w (n + 3, [dA, dV, dC, .int .i64 0]) (by simp)
 have g1 := hu.hp.w (n + 1, [.nils, .nils, .nils, .int .i64 0]) (by simp)
 have oC := hrc.one
 have hlt := hu.lt
 by_cases ci : i < mo.chans.length
 ·have hw := hf.ch _ (chAt_mem ci)
  have hss := szC_succ ci
  have hsi := szL_mono (fun c : Ch => 2 + c.room.toNat * c.width.toNat) mo.chans (i + 1)
  have hds := decL_step ci hdec
  rw [<- chAt_get ci] at hds
  have hb2 := fr_box (s := s) (z := .cells [.str (V.bs []), .int .i64 0, .int .i64 0, .bool false, .bool false]) (o := .cells [.str (chAt mo.chans i).name, .int .i64 (chAt mo.chans i).room, .int .i64 (chAt mo.chans i).width, .bool (chAt mo.chans i).lossy, .bool (chAt mo.chans i).copying])
  have hch := chan_ok (hr.fr hb2 (by simp) (by simp)) (by simp) (fun i hi => by simp; omega) (c := chAt mo.chans i) hw.1 hw.2.1 hw.2.2.1 hw.2.2.2 (by omega)
  refine zY (aN hE (aN ci (aN g0 om))) ?_
  refine xq_evp hch rfl ?_
  rintro dr s2 ⟨⟨dl, b, E, rfl, hrl, hhe, hne, hbe, hr2⟩, fr2⟩
  have hu2 := (hu.fr hb2 (by simp)).fr fr2 (by simp)
  have k3 := hu2.hp.w (n + 3, [dA, dV, dC, .int .i64 0]) (by simp)
  have k1 := hu2.hp.w (n + 1, [.nils, .nils, .nils, .int .i64 0]) (by simp)
  have ol := hrl.one
  have l1 := get_lts k1
  by_cases cb : b = true
  ·subst cb
   have hdc : decC (chAt mo.chans i) rest3 = some ((decK (chAt mo.chans i).width.toNat (num (aB rest3) 2) (chAt mo.chans i).room.toNat (rest3.drop 2)).1, (decK (chAt mo.chans i).width.toNat (num (aB rest3) 2) (chAt mo.chans i).room.toNat (rest3.drop 2)).2.2) := by
    unfold decC
    simp only
    have := hbe.symm
    rw [Bool.and_eq_true, decide_eq_true_eq] at this
    rw [if_pos this]
   rw [hdc] at hds
   have hu3 := UnN.more (A := EA ++ EV ++ W) (B := EC) (by simpa using hu2) hrl hhe s.next (fun e he => by have := hne e he; simp at this; omega) hlt (fun w hw => get_lts (hu.hp.w w (by simp only [List.mem_cons]; exact .inr (.inr (by simpa using hw)))))
   refine zY (aN k3 (aN oC ol)) ?_
   refine bm_unn (A := EA ++ EV ++ (W ++ E)) (B := []) (E := EC) (by simpa using hu3) hr2 (fun _ h => h) hrc rfl (fun r hr => ?_) (by decide) (by simp; omega) ?_
   ·obtain ⟨x, _, rfl⟩ := List.mem_map.1 hr; rfl
   intro d' s3 E' hrp3 hu4 hr3 hset
   have q3 := hu4.hp.w (n + 3, [dA, dV, dC, .int .i64 0]) (by simp)
   have o3 := hrp3.one
   refine zY (aN q3 (aN o3 (aN hE ci))) ?_
   have hww := hset dA dV d'
   refine ⟨hE5, _, _, d', E', qs ++ [dl], W ++ E, hds, ?_, by simpa using hrp3, by simpa using hww.1, hww.2, by simp [hcl], by simp [hql], fun j hj => ?_⟩
   ·rw [decK_drop, List.length_drop, List.length_drop, hss]; omega
   ·rw [dAt_snoc, cAt_snoc, hql, hcl]
    by_cases ej : j = i
    ·rw [if_pos ej, if_pos ej]
     exact ⟨E, hrl, fun e he => by simp [he]⟩
    ·rw [if_neg ej, if_neg ej]
     obtain ⟨E0, z1, z2⟩ := hq j (by omega)
     exact ⟨E0, z1, fun e he => by simp [z2 e he]⟩
  ·have cb : b = false := by simpa using cb
   subst cb
   have hdc : decC (chAt mo.chans i) rest3 = none := by
    unfold decC
    simp only
    rw [if_neg]
    rintro ⟨q1, q2⟩
    rw [q2, Bool.and_true] at hbe
    exact absurd q1 (of_decide_eq_false hbe.symm)
   rw [hdc] at hds
   have hnone : mo.unpack bs = none := by rw [e0, decL_none hds]
   refine zY k1 ?_
   exact ⟨.inr (.inl ⟨hnone, rfl⟩), (hfr hu2).thenSet _ (.inr (by omega))⟩
 obtain rfl : i = mo.chans.length := by omega
 rw [List.take_length] at hdec hlen
 rw [hdec] at e0
 simp only at e0
 have hru := runs_ok hr (by simp) (w := 3) (by omega) (by decide)
 refine zY (aN hE (aN ci (aN g0 om))) ?_
 refine xq_evp hru rfl ?_
 rintro r s2 ⟨⟨rfl, hr2⟩, fr2⟩
 have hu2 := hu.fr fr2 (by simp)
 have k3 := hu2.hp.w (n + 3, [dA, dV, dC, .int .i64 0]) (by simp)
 have k1 := hu2.hp.w (n + 1, [.nils, .nils, .nils, .int .i64 0]) (by simp)
 have l1 := get_lts k1
 have l3 := get_lts k3
 have k0 := hu2.hp.r (n, [m.dt, .int .i64 m.g, m.dc, m.dv, m.dp, m.ds, .bool m.b]) (by simp)
 have hn8 := num_lt (aB rest3) 3
 have e8 : IntKind.i64.wrap ((num (aB rest3) 3 : Int) - 1) = (num (aB rest3) 3 : Int) - 1 := i64_id (by omega) (by omega)
 have hfS : Fr [] s0 ((s2.set (n + 3) (some (.cells [dA, dV, dC, .int .i64 ((num (aB rest3) 3 : Int) - 1)]))).set (n + 1) (some (.cells [dA, dV, dC, .int .i64 ((num (aB rest3) 3 : Int) - 1)]))) := ⟨(hfr hu2).1, fun j hj _ => by rw [get_set_ne (by omega), get_set_ne (by omega)]; exact (hfr hu2).2 j hj (by simp)⟩
 by_cases ch : (num (aB rest3) 3 : Int) - 1 < (mo.procs.length : Int)
 ·have ch' : ¬ (mo.procs.length : Int) <= (num (aB rest3) 3 : Int) - 1 := by omega
  rw [if_pos ch] at e0
  have hp3 := Hp.set (A := []) hu2.hp [dA, dV, dC, .int .i64 ((num (aB rest3) 3 : Int) - 1)]
  have hp4 := Hp.set (A := [(n + 3, [dA, dV, dC, .int .i64 ((num (aB rest3) 3 : Int) - 1)])]) hp3 [dA, dV, dC, .int .i64 ((num (aB rest3) 3 : Int) - 1)]
  simp (disch := (first|exact Rf.mk rfl|with_reducible assumption|omega|((repeat (first|rw [nP]|rw [nS]|rw [nx_empty]))<;>omega)|decide)) only [go_sem, ↓reduceIte, k3, k0, k1, om, e8, ch', oA, oV, oC]
  generalize (s2.set (n + 3) (some (.cells [dA, dV, dC, .int .i64 ((num (aB rest3) 3 : Int) - 1)]))).set (n + 1) (some (.cells [dA, dV, dC, .int .i64 ((num (aB rest3) 3 : Int) - 1)])) = S at *
  have hsR : SttR S [dA, dV, dC, .int .i64 ((num (aB rest3) 3 : Int) - 1)] ⟨o, v, c, (num (aB rest3) 3 : Int) - 1⟩ := SttR.mk (st := ⟨o, v, c, (num (aB rest3) 3 : Int) - 1⟩) qs (hrp.sn fun e he => hp4.w e (by simp [he])) (hrv.sn fun e he => hp4.w e (by simp [he])) (hrc.sn fun e he => hp4.w e (by simp [he])) (rp_nil_or hrc) (by rw [hql, hcl]) fun j hj => by
   obtain ⟨E0, z1, z2⟩ := hq j (by omega)
   exact z1.chr fun e he => hp4.w e (by simp [z2 e he])
  exact ⟨.inr (.inr ⟨_, _, e0, rfl, hsR⟩), hfS⟩
 ·have ch' : (mo.procs.length : Int) <= (num (aB rest3) 3 : Int) - 1 := by omega
  rw [if_neg ch] at e0
  simp (disch := (first|exact Rf.mk rfl|with_reducible assumption|omega|((repeat (first|rw [nP]|rw [nS]|rw [nx_empty]))<;>omega)|decide)) only [go_sem, ↓reduceIte, k3, k0, k1, om, e8, ch']
  exact ⟨.inr (.inl ⟨e0, rfl⟩), ((hfr hu2).thenSet _ (.inr (by omega))).thenSet _ (.inr (by omega))⟩
end Go.Proofs.Ytlaeblilmppodaa
namespace Go.Proofs.Ytlaeblilmppodaa
open Go.V
set_option maxRecDepth 100000
set_option maxHeartbeats 4000000
variable {m : MdX} {mo : Mo} {ps : List (Pr × PrD)} {x : StD} {st : Stt}
theorem iso_of_ev {f : Nat} {args : List D} {P : Stt -> Prop} (h : EvP vfs f args Store.empty fun r s => ∃ cs st, r = .agg cs /\ SttR s cs st /\ P st) : ∃ x st, IsoC vfs f args (.agg [x.da, x.dv, x.dc, .int .i64 st.hold]) /\ StF x st /\ P st := by
 obtain ⟨d, s', h1, cs, st, rfl, h2, h3⟩ := h
 obtain ⟨x, h4, h5⟩ := h2.frz
 exact ⟨x, st, ⟨_, _, h1, h4⟩, h5, h3⟩
theorem held_ok (hm : MoF m mo ps) (ho : MoOk mo) (hf : MoFi mo) {d : D} {raw : List Int} (hd : FI d raw) (hraw : ∀ n ∈ raw, in64 n) : ∃ x st, Eqc vfs 16 [.agg [m.dt, .int .i64 m.g, m.dc, m.dv, m.dp, m.ds, .bool m.b], d] (.agg [x.da, x.dv, x.dc, .int .i64 st.hold]) /\ StGood mo x st /\ st.hold = -1 := by
 obtain ⟨x, st, h1, h2, h3, h4⟩ := iso_of_ev (held_ev hm ho hf hd hraw)
 exact ⟨x, st, bc_of h1, ⟨h2, fit_8 hf h3, h3⟩, h4⟩
theorem ints_n {da db : D} {a b : List Nat} (ha : FL 1 da (rowsN a)) (hb : FL 1 db (rowsN b)) (hl : a.length <= 1000000) : Eqc vfs 49 [da, db] (.bool (decide (a = b))) := by
 have e : ∀ l : List Nat, rowsN l = (l.map fun (n : Nat) => (n : Int)).map fun n => [.int .i64 n] := fun l => by simp [rowsN]
 rw [e] at ha hb
 have h := ints_bc (a := a.map fun (n : Nat) => (n : Int)) (b := b.map fun (n : Nat) => (n : Int)) ha hb (by simpa using hl)
 have e2 : decide ((a.map fun (n : Nat) => (n : Int)) = b.map fun (n : Nat) => (n : Int)) = decide (a = b) := by
  congr 1
  apply propext
  constructor
  ·intro h
   exact List.map_inj_right (f := fun (n : Nat) => (n : Int)) (fun x y h => by omega) |>.1 h
  ·intro h; rw [h]
 rwa [e2] at h
theorem same_bc {x' : StD} {st' : Stt} (hx : StF x st) (hx' : StF x' st') (h1 : st.at'.length <= 1000) (h2 : st.vars.length <= 1000) (h3 : ∀ l ∈ st.chans, l.length <= 1000) (h4 : st.chans.length <= 1000) : Eqc vfs 22 [.agg [x.da, x.dv, x.dc, .int .i64 st.hold], .agg [x'.da, x'.dv, x'.dc, .int .i64 st'.hold]] (.bool (decide (st = st'))) := by
 refine bc_of ?_
 have ox := hx.ones
 have ox' := hx'.ones
 have p1 := hx.a.pz
 have p2 := hx'.a.pz
 have p3 := pz_i hx.v
 have p4 := pz_i hx'.v
 have i1 := ints_n hx.a hx'.a (by omega)
 have i2 := ints_bc hx.v hx'.v (by omega)
 refine yiso (vf := vf22) rfl ?_
 unfold vf22; refine zF ?_
 refine zY (aN ox (aN ox' (aN i1 i2))) ?_
 repeat' (first|(refine cw_sp (fun c => ?_) (fun c => ?_) <;> (try simp only [cnd_1, cnd_2, cnd_3, cnd_4] at c) <;> simp (disch := (first|exact Rf.mk rfl|with_reducible assumption|omega|((repeat (first|rw [nP]|rw [nS]|rw [nx_empty]))<;>omega)|decide)) only [go_sem, ↓reduceIte, ox, ox', i1, i2, c])|(refine gw_sp (fun c => ?_) (fun c => ?_) <;> (try simp only [cnd_1, cnd_2, cnd_3, cnd_4] at c) <;> simp (disch := (first|exact Rf.mk rfl|with_reducible assumption|omega|((repeat (first|rw [nP]|rw [nS]|rw [nx_empty]))<;>omega)|decide)) only [go_sem, ↓reduceIte, ox, ox', i1, i2, c]))
 ·exact (decide_eq_false fun h => c (by rw [h])).symm
 ·exact (decide_eq_false fun h => c (by rw [h])).symm
 ·exact (decide_eq_false fun h => c (by rw [h])).symm
 ·exact (decide_eq_false fun h => c (by rw [h])).symm
 rename_i ca cv cl
 refine yw_up [0, 1, 2, 3, 35] 0 st.chans.length (fun i f s => f 5 = .int .i64 (i : Int) /\ s = ((Store.empty.push (.cells [x.da, x.dv, x.dc, .int .i64 st'.hold])).push (.cells [x'.da, x'.dv, x'.dc, .int .i64 st'.hold])) /\ ∀ j, j < i -> cAt st.chans j = cAt st'.chans j) (.mk rfl) (by omega) ⟨rfl, rfl, fun j h => by omega⟩ ?_
 rintro i f s hi ⟨hE, rfl, hj⟩
 by_cases ci : i < st.chans.length
 ·have ci' : i < st'.chans.length := by omega
  have q1 := pz_i (st_cf hx ci)
  have q2 := pz_i (st_cf hx' ci')
  have i3 := ints_bc (st_cf hx ci) (st_cf hx' ci') (by have := h3 _ (cAt_mem ci); omega)
  refine zY (aN ox (aN ox' (aN hE (aN ci (aN ci' (aN i3 (aN q1 q2))))))) ?_
  repeat' (first|(refine cw_sp (fun c => ?_) (fun c => ?_) <;> (try simp only [cnd_1, cnd_2, cnd_3, cnd_4] at c) <;> simp (disch := (first|exact Rf.mk rfl|with_reducible assumption|omega|((repeat (first|rw [nP]|rw [nS]|rw [nx_empty]))<;>omega)|decide)) only [go_sem, ↓reduceIte, ox, ox', hE, ci, ci', i3, q1, q2, c])|(refine gw_sp (fun c => ?_) (fun c => ?_) <;> (try simp only [cnd_1, cnd_2, cnd_3, cnd_4] at c) <;> simp (disch := (first|exact Rf.mk rfl|with_reducible assumption|omega|((repeat (first|rw [nP]|rw [nS]|rw [nx_empty]))<;>omega)|decide)) only [go_sem, ↓reduceIte, ox, ox', hE, ci, ci', i3, q1, q2, c]))
  ·exact (decide_eq_false fun h => c (by rw [h])).symm
  ·intro j hj'
   by_cases e : j = i
   ·subst e; exact c
   ·exact hj j (by omega)
 ·have e : i = st.chans.length := by omega
  have hl : ¬ i < st.chans.length := by omega
  refine zY (aN ox (aN ox' (aN hE hl))) ?_
  symm
  rw [decide_eq_true_eq]
  have e1 : st.chans = st'.chans := List.ext_getElem cl fun j h1 h2 => by
   rw [<- cAt_get h1, <- cAt_get h2]; exact hj j (by omega)
  cases st; cases st'; simp_all
end Go.Proofs.Ytlaeblilmppodaa
namespace Go.Proofs.Ytlaeblilmppodaa
open Go.V
set_option maxRecDepth 100000
set_option maxHeartbeats 4000000
variable {m : MdX} {mo : Mo} {ps : List (Pr × PrD)} {x : StD} {st : Stt}
theorem made21_bc {d : D} {t : List Nd} (hT : TreeAt d t) : ∃ d', Eqc vfs 28 [d] d' /\ MadeR t d' := by
 have pT : PZ d := hT.fl.pz
 obtain ⟨b, hb, _⟩ := small_ok hT
 have hb := iso_bc hb rfl
 cases b
 ·refine ⟨.tup [.agg [.nils, .int .i64 0, .nils, .nils, .nils, .nils, .bool false], .bool false], bc_of ?_, .inl rfl⟩
  refine yiso (vf := vf28) rfl ?_
  unfold vf28; refine zF ?_
  refine zY (aN pT hb) ?_
  rfl
 obtain ⟨c, hc, hR⟩ := right_ok hT
 have hc := iso_bc hc rfl
 cases c
 ·refine ⟨.tup [.agg [.nils, .int .i64 0, .nils, .nils, .nils, .nils, .bool false], .bool false], bc_of ?_, .inl rfl⟩
  refine yiso (vf := vf28) rfl ?_
  unfold vf28; refine zF ?_
  refine zY (aN pT (aN hb hc)) ?_
  rfl
 obtain ⟨r, s1, d', h1, h2, h3⟩ := makeI hT (hR rfl)
 have hmk : Eqc vfs 26 [d] d' := bc_of ⟨_, _, h1, h2⟩
 refine ⟨d', bc_of ?_, h3⟩
 rcases h3 with rfl | ⟨m, ps, rfl, hR, hS, hY, hm⟩
 ·refine yiso (vf := vf28) rfl ?_
  unfold vf28; refine zF ?_
  refine zY (aN pT (aN hb (aN hc hmk))) ?_
  rfl
 ·have om := hm.ones
  have fm := pz_mo hm
  unfold mdRow at hmk ⊢
  refine yiso (vf := vf28) rfl ?_
  unfold vf28; refine zF ?_
  refine zY (aN pT (aN hb (aN hc (aN hmk om)))) ?_
  trivial
end Go.Proofs.Ytlaeblilmppodaa
namespace Go.Proofs.Ytlaeblilmppodaa
open Go.V
set_option maxRecDepth 100000
set_option maxHeartbeats 4000000
variable {m : MdX} {mo : Mo} {ps : List (Pr × PrD)} {x : StD} {st : Stt}
end Go.Proofs.Ytlaeblilmppodaa
namespace Go.Proofs.Ytlaeblilmppodaa
open Go.V
set_option maxRecDepth 100000
set_option maxHeartbeats 4000000
variable {m : MdX} {mo : Mo} {ps : List (Pr × PrD)} {x : StD} {st : Stt}
theorem fitsR_bc (hm : MoF m mo ps) (ho : MoOk mo) (hf : MoFi mo) (hx : StGood mo x st) : Eqc vfs 34 [.agg [m.dt, .int .i64 m.g, m.dc, m.dv, m.dp, m.ds, .bool m.b], .agg [x.da, x.dv, x.dc, .int .i64 st.hold]] (.bool true) := by
 have om := hm.ones
 have ox := hx.f.ones
 have hxa := hx.f.a
 have hxv := hx.f.v
 have hxf := hx.f
 have hmv := hm.v
 have hmc := hm.c
 have ea : st.at'.length = mo.procs.length := hx.fit.at'
 have ev : st.vars.length = mo.vars.length := hx.fit.vars
 have ec : st.chans.length = mo.chans.length := hx.fit.chans
 have hnp := ho.np
 have hnv := ho.nv
 have hnc := ho.nc
 have hh := hx.fit.hold
 have h1 : ¬ st.hold < -1 := by omega
 have h2 : ¬ (mo.procs.length : Int) <= st.hold := by omega
 refine bc_of ?_
 refine yiso (vf := vf34) rfl ?_
 unfold vf34; refine zF ?_
 refine zY (aN om (aN ox (aN ea (aN ev (aN ec (aN h1 h2)))))) ?_
 have g0 : ((Store.empty.push (.cells [m.dt, .int .i64 m.g, m.dc, m.dv, m.dp, m.ds, .bool m.b])).push (.cells [x.da, x.dv, x.dc, .int .i64 st.hold])).get 0 = some (.cells [m.dt, .int .i64 m.g, m.dc, m.dv, m.dp, m.ds, .bool m.b]) := by simp (disch := (first|exact Rf.mk rfl|with_reducible assumption|omega|((repeat (first|rw [nP]|rw [nS]|rw [nx_empty]))<;>omega)|decide)) only [go_sem, ↓reduceIte]
 have g1 : ((Store.empty.push (.cells [m.dt, .int .i64 m.g, m.dc, m.dv, m.dp, m.ds, .bool m.b])).push (.cells [x.da, x.dv, x.dc, .int .i64 st.hold])).get 1 = some (.cells [x.da, x.dv, x.dc, .int .i64 st.hold]) := by simp (disch := (first|exact Rf.mk rfl|with_reducible assumption|omega|((repeat (first|rw [nP]|rw [nS]|rw [nx_empty]))<;>omega)|decide)) only [go_sem, ↓reduceIte]
 generalize (Store.empty.push (.cells [m.dt, .int .i64 m.g, m.dc, m.dv, m.dp, m.ds, .bool m.b])).push (.cells [x.da, x.dv, x.dc, .int .i64 st.hold]) = s0 at *
 refine yw_up [0, 1, 2, 3, 6, 7, 8, 46, 78, 98, 103, 118, 126, 152] 0 mo.procs.length (fun i f s => f 5 = .int .i64 (i : Int) /\ s = s0) (.mk rfl) (by omega) ⟨rfl, rfl⟩ ?_
 rintro i f s hi ⟨hE, rfl⟩
 by_cases ci : i < mo.procs.length
 ·have ci' : i < st.at'.length := by omega
  have hpl := hx.fit.pl i ci' ci
  have e1 : ¬ ((nAt st.at' i : Nat) : Int) < 0 := by omega
  have e2 : nAt st.at' i < (pAt mo.procs i).places := by rw [nAt_get ci', pAt_get ci]; exact hpl
  have e3 : ¬ (pAt mo.procs i).places <= nAt st.at' i := by omega
  exact zZ (aN hE (aN ci (aN ci' (aN ea (aN g0 (aN g1 (aN om (aN ox (aN e1 (aN e2 e3))))))))))
 obtain rfl : i = mo.procs.length := by omega
 refine zY (aN hE (aN ci (aN ea (aN g0 (aN g1 (aN om ox)))))) ?_
 refine yw_up [0, 1, 2, 3, 5, 7, 8, 46, 51, 73, 103, 118, 126, 152] 0 mo.vars.length (fun i f s' => f 6 = .int .i64 (i : Int) /\ s' = s) (.mk rfl) (by omega) ⟨rfl, rfl⟩ ?_
 clear hi ci hE
 rintro i f s hi ⟨hE, rfl⟩
 by_cases ci : i < mo.vars.length
 ·have ci' : i < st.vars.length := by omega
  have hvr : trimZ st.vars[i] mo.vars[i].width.toNat = st.vars[i] := hx.fit.vr i ci' ci
  have h8 := hx.e.v _ (zAt_mem ci')
  unfold I8 at h8
  have hw := hf.vr _ (vAt_mem ci)
  have hb := trimw_bc' (x := zAt st.vars i) (w := (vAt mo.vars i).width) (by omega) (by omega) hw.1 hw.2.1
  rw [show trimZ (zAt st.vars i) (vAt mo.vars i).width.toNat = zAt st.vars i by rw [zAt_get ci', vAt_get ci]; exact hvr] at hb
  exact zZ (aN hE (aN ci (aN ci' (aN ev (aN g0 (aN g1 (aN om (aN ox hb))))))))
 obtain rfl : i = mo.vars.length := by omega
 refine zY (aN hE (aN ci (aN ev (aN g0 (aN g1 (aN om ox)))))) ?_
 refine yw_up [0, 1, 2, 3, 5, 6, 46, 51, 73, 78, 98] 0 mo.chans.length (fun i f s' => f 7 = .int .i64 (i : Int) /\ s' = s) (.mk rfl) (by omega) ⟨rfl, rfl⟩ ?_
 clear hi ci hE
 rintro i f s hi ⟨hE, rfl⟩
 by_cases ci : i < mo.chans.length
 rotate_left
 ·exact zZ (aN hE (aN ci (aN ec (aN g0 (aN g1 (aN om ox))))))
 have ci' : i < st.chans.length := by omega
 have hcl := hx.fit.cl i ci' ci
 have hcv := hx.fit.cv i ci' ci
 have h8 := hx.e.c _ (cAt_mem ci')
 have hw := hf.ch _ (chAt_mem ci)
 have e1 : ¬ (chAt mo.chans i).room < ((cAt st.chans i).length : Int) := by
  have : ((cAt st.chans i).length : Int) <= (chAt mo.chans i).room := by rw [cAt_get ci', chAt_get ci]; exact hcl
  omega
 refine zY (aN hE (aN ci (aN ci' (aN ec (aN g0 (aN g1 (aN om (aN ox e1)))))))) ?_
 refine yw_up [0, 1, 2, 3, 5, 6, 7, 46, 51, 73, 78, 98, 103, 118] 0 (cAt st.chans i).length (fun k f s' => f 8 = .int .i64 (k : Int) /\ s' = s) (.mk rfl) (by omega) ⟨rfl, rfl⟩ ?_
 rintro k f s hk ⟨hE, rfl⟩
 by_cases ck : k < (cAt st.chans i).length
 ·have h8k := h8.2 _ (zAt_mem ck)
  unfold I8 at h8k
  have hb := trimw_bc' (x := zAt (cAt st.chans i) k) (w := (chAt mo.chans i).width) (by omega) (by omega) hw.2.2.1 hw.2.2.2
  rw [show trimZ (zAt (cAt st.chans i) k) (chAt mo.chans i).width.toNat = zAt (cAt st.chans i) k by
   have hm := zAt_mem ck
   rw [chAt_get ci]
   refine hcv _ ?_
   rw [<- cAt_get ci']; exact hm] at hb
  exact zZ (aN hE (aN ci (aN ci' (aN ck (aN ec (aN g0 (aN g1 (aN om (aN ox hb)))))))))
 ·exact zZ (aN hE (aN ci (aN ci' (aN ck (aN ec (aN g0 (aN g1 (aN om ox))))))))
end Go.Proofs.Ytlaeblilmppodaa
namespace Go.Proofs.Ytlaeblilmppodaa
open Go.V
set_option maxRecDepth 100000
set_option maxHeartbeats 4000000
variable {m : MdX} {mo : Mo} {ps : List (Pr × PrD)} {x : StD} {st : Stt}
theorem u16_of {d : D} (h : ArgT (.int .u16) d) : ∃ n, d = .int .u16 n /\ 0 <= n /\ n < 65536 := by
 have h : HasT (.int .u16) [d] := h
 simp only [HasT] at h
 obtain ⟨n, e, w⟩ := h
 simp at e
 simp only [Lit.wf, Bool.and_eq_true, decide_eq_true_eq] at w
 have h1 : IntKind.u16.min = 0 := rfl
 have h2 : IntKind.u16.max = 65535 := rfl
 rw [h1, h2] at w
 exact ⟨n, e, w.1, by omega⟩
theorem turns_v {d0 d1 : D} {t : List Nd} {raw : List Int} {n : Int} (hT : TreeAt d0 t) (hd : FI d1 raw) (hraw : ∀ n ∈ raw, in64 n) (hn0 : 0 <= n) (hn1 : n < 65536) : EvP vfs 10 [d0, d1, .int .u16 n] Store.empty fun r _ => r = .bool true := by
 have haw : Eqc vfs 23 [] (.bool true) := iso_bc awake21 rfl
 have pT : PZ d0 := hT.fl.pz
 have pd := pz_i hd
 have oT := FL.one hT.fl
 have od := FL.one hd
 obtain ⟨d', h1, h2⟩ := made21_bc hT
 by_cases hl : (60 : Int) < (raw.length : Int)
 ·refine yevp (vf := vf10) rfl ?_
  unfold vf10; refine zF ?_
  refine zY (aN haw (aN hd hl)) ?_
  exact rfl
 rcases h2 with rfl | ⟨m, ps, rfl, hR, hS, hY, hm⟩
 ·refine yevp (vf := vf10) rfl ?_
  unfold vf10; refine zF ?_
  refine zY (aN haw (aN hd (aN hl (aN h1 pT)))) ?_
  exact rfl
 have ho := model_ok hR hS hY
 have hf := model_fi hR hY
 generalize modelOf t = mo at *
 have om := hm.ones
 have fm := pz_mo hm
 have hnp := ho.np
 obtain ⟨x, st, hh, hx, hold⟩ := held_ok hm ho hf hd hraw
 have fx := pz_st hx.f
 have ox := hx.f.ones
 have hnh : StNH mo x st := ⟨hx.f, hx.e, by cases st; simp only at hold; subst hold; exact hx.fit, by rw [hold]; exact ⟨by omega, by omega⟩⟩
 have hpk := pack_len hx.fit
 have hnb : 0 < mo.nbits := by unfold Mo.nbits; omega
 have hnl := nbits_le ho hf
 unfold mdRow at h1
 refine yevp (vf := vf10) rfl ?_
 unfold vf10; refine zF ?_
 refine zY (aN haw (aN hd (aN hl (aN h1 (aN pT (aN pd (aN om (aN ox (aN fm (aN fx hh)))))))))) ?_
 refine xq_evp (pack_ok hm ho hf hnh ⟨by omega, by omega⟩) rfl ?_
 rintro r s1 ⟨d, E, R, rfl, hg⟩
 have g0 := hg.fr.2 0 (by simp) (by simp)
 simp (disch := (first|exact Rf.mk rfl|with_reducible assumption|omega|((repeat (first|rw [nP]|rw [nS]|rw [nx_empty]))<;>omega)|decide)) only [go_sem, ↓reduceIte] at g0
 have g1 := hg.fr.2 1 (by simp) (by simp)
 simp (disch := (first|exact Rf.mk rfl|with_reducible assumption|omega|((repeat (first|rw [nP]|rw [nS]|rw [nx_empty]))<;>omega)|decide)) only [go_sem, ↓reduceIte] at g1
 rcases hg.rp with ⟨_, e, _⟩ | ⟨id, rfl, rfl, _⟩
 ·have := congrArg List.length e
  rw [rowsB_length, hpk] at this
  simp at this
  omega
 have gid := hg.hp.w (id, (rowsB (mo.pack st)).flatten) (by simp)
 rw [Go.V.rowsB_flat] at gid
 simp only at gid
 have hid : id ≠ 0 /\ id ≠ 1 := by
  have := hg.nw (id, (rowsB (mo.pack st)).flatten) (by simp)
  simp at this
  omega
 rw [rowsB_length]
 generalize hb : mo.pack st = b at *
 generalize hN : mo.nbits = N at *
 have hk : n.tmod (N : Int) = ((n.toNat % N : Nat) : Int) := by
  obtain ⟨k, rfl⟩ := Int.eq_ofNat_of_zero_le hn0
  rfl
 have hkl : n.toNat % N < N := Nat.mod_lt _ hnb
 generalize n.toNat % N = k at *
 have n0 : ¬ N = 0 := by omega
 have hw : IntKind.i64.wrap n = n := i64_id (by omega) (by omega)
 have hkb : k < b.length := by omega
 refine zY (aN hpk (aN n0 (aN hw (aN hk (aN hkl (aN hkb (aN gid (aN g0 om)))))))) ?_
 have hrd : RdB (s1.set id (some (.cells (cellsB (b.set k !aB b k))))) (.arr id 0 N 1) (b.set k !aB b k) := .inr ⟨id, 0, cellsB (b.set k !aB b k), by simp [hpk], get_set_eq (get_lts gid), by simp, by rw [List.drop_zero, List.take_of_length_le (by simp)]⟩
 have k0 : (s1.set id (some (.cells (cellsB (b.set k !aB b k))))).get 0 = some (.cells [m.dt, .int .i64 m.g, m.dc, m.dv, m.dp, m.ds, .bool m.b]) := by rw [get_set_ne hid.1.symm, g0]
 have k1 : (s1.set id (some (.cells (cellsB (b.set k !aB b k))))).get 1 = some (.cells [x.da, x.dv, x.dc, .int .i64 st.hold]) := by rw [get_set_ne hid.2.symm, g1]
 generalize s1.set id (some (.cells (cellsB (b.set k !aB b k)))) = s2 at *
 refine xq_evp (unpack_ok hm ho hf hrd) rfl ?_
 rintro r s3 ⟨h3, fr3⟩
 have j0 := fr3.2 0 (get_lts k0) (by simp)
 rw [k0] at j0
 have j1 := fr3.2 1 (get_lts k1) (by simp)
 rw [k1] at j1
 have l0 := get_lts j0
 have l1 := get_lts j1
 rcases h3 with ⟨q, rfl⟩ | ⟨q0, ⟨q, rfl⟩ | ⟨st2, cs2, q, rfl, hs⟩⟩
 ·refine zY (aN j0 (aN j1 (aN om (aN fm (aN ox fx))))) ?_
  exact rfl
 ·refine zY (aN j0 (aN j1 (aN om (aN fm (aN ox fx))))) ?_
  exact rfl
 obtain ⟨hfit, hpk2⟩ := pack_unpack (mo_la ho hf) q0 q
 have h8 := fit_8 hf hfit
 obtain ⟨x2, rfl, hu2⟩ := hs.u
 have ox2 := hu2.ones
 have hbx := fr_box (s := s3) (z := .cells [.nils, .nils, .nils, .int .i64 0]) (o := .cells [x2.da, x2.dv, x2.dc, .int .i64 st2.hold])
 obtain ⟨y, y1, y2⟩ := (hs.stay hbx).frz
 have hic : ∀ l, mapO (V.ice ((s3.push (.cells [.nils, .nils, .nils, .int .i64 0])).set s3.next (some (.cells [x2.da, x2.dv, x2.dc, .int .i64 st2.hold]))).get 20) (.agg [x2.da, x2.dv, x2.dc, .int .i64 st2.hold] :: l) = (mapO (V.ice ((s3.push (.cells [.nils, .nils, .nils, .int .i64 0])).set s3.next (some (.cells [x2.da, x2.dv, x2.dc, .int .i64 st2.hold]))).get 20) l).map (.agg [y.da, y.dv, y.dc, .int .i64 st2.hold] :: ·) := fun l => ic_ice y1
 have hff := fitsR_bc hm ho hf ⟨y2, h8, hfit⟩
 have hsm := same_bc hx.f y2 (by rw [hx.fit.at']; omega) (by rw [hx.fit.vars]; have := ho.nv; omega) (fun l hl => by have := (hx.e.c l hl).1; omega) (by rw [hx.fit.chans]; have := ho.nc; omega)
 have hne : st ≠ st2 := fun e => by
  rw [<- e, hb] at hpk2
  have : aB b k = aB (b.set k !aB b k) k := congrArg (fun l => aB l k) hpk2
  rw [aB_get (l := b.set k !aB b k) (by simp; omega), List.getElem_set_self] at this
  cases h : aB b k <;> rw [h] at this <;> simp at this
 rw [decide_eq_false hne] at hsm
 simp (disch := (first|exact Rf.mk rfl|with_reducible assumption|omega|((repeat (first|rw [nP]|rw [nS]|rw [nx_empty]))<;>omega)|decide)) only [go_sem, ↓reduceIte, j0, j1, om, fm, ox, fx, ox2, hff, hsm, hic, Bool.true_or]
 exact rfl
theorem layoutTurns21 {d0 d1 d2 : D} (h0 : ArgT Ty.tree d0) (h1 : ArgT (.slice 1 (.int .i64)) d1) (h2 : ArgT (.int .u16) d2) : EvP vfs 10 [d0, d1, d2] Store.empty fun r _ => r = .bool true := by
 obtain ⟨t, hT⟩ := tree_of h0
 obtain ⟨l, hl, hn, hi⟩ := intsA_of h1
 obtain ⟨n, rfl, hn0, hn1⟩ := u16_of h2
 exact turns_v hT hl hi hn0 hn1
end Go.Proofs.Ytlaeblilmppodaa
