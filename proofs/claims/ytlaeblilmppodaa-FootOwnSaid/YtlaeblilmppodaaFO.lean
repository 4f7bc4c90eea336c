/- FootOwn, walked. -/
import Derived.Test.YtlaeblilmppodaaZ8
namespace Go.Proofs.Ytlaeblilmppodaa
open Go.V
set_option maxRecDepth 100000
set_option maxHeartbeats 4000000
set_option linter.unusedSimpArgs false
set_option linter.unusedVariables false
theorem footOwn_v {d : D} {t : List Nd} (hT : TreeAt d t) : EvP vfs 3 [d] Store.empty fun r _ => r = .bool true := by
  have haw : Iso 11 [] (.bool true) := awake18
  have hpu : pureL [d] = true := by simp only [pureL, hT.fl.pure, Bool.and_self]
  obtain ⟨r, s1, d', h1, h2, h3⟩ := made18 hT
  rcases h3 with rfl | ⟨m, ps, rfl, hR, hS, hY, hm⟩
  · refine evp_of (vf := vf3) rfl ?_
    simp only [vf3, xq, xg, xm, xmg, xc, xl, xlg, xf, xfg, xw, xa, xk, xi, xig, xo, xr, xrp, xn, List.map, List.getD, List.getElem?_cons_zero, List.getElem?_cons_succ, List.getElem?_nil, Option.getD]
    repeat first
     |(apply vq_isoI haw rfl rfl rfl)
     |(refine vq_iso' (l := [d]) rfl (fz1 hT.fz) h1 h2 (by rw [hpu, Bool.or_true]) ?_)
     |with_reducible first|apply vA|apply vB|apply vC
     |((with_reducible apply vD); (focus rfl))
     |((with_reducible first|apply vE|apply vF|apply vG|apply vH); simp only [Env.keep, Env.get, Env.ev, List.map, Nat.reduceEqDiff, ↓reduceIte, Then, Out'])
     |((with_reducible first|apply vI|apply vJ|apply vK|apply vL|apply vM|apply vN); (focus (simp (disch := (first|with_reducible assumption|omega|((repeat (first|rw [nP]|rw [nS]))<;>omega)|fail)) only [go_sem, ↓reduceIte] <;> rfl)); (first|(with_reducible (first|apply vO|apply vP|apply vQ|apply vR|apply vS|apply vT|apply vU); try simp only [Env.put])|with_reducible refine (?_ : WQ _ _ _ _ _ _)))
     |fail
    exact ⟨.inr trivial, _, (by simp only [resOf, resAll, resOne, Env.get, Nat.reduceEqDiff, ↓reduceIte] <;> rfl), rfl⟩
  have ho := model_ok hR hS hY
  generalize modelOf t = mo at *
  have om := hm.ones
  have hfz := hm.fz
  have hlp := hm.lenP
  have hnp := ho.np
  unfold mdRow at h2 hfz
  refine evp_of (vf := vf3) rfl ?_
  simp only [vf3, xq, xg, xm, xmg, xc, xl, xlg, xf, xfg, xw, xa, xk, xi, xig, xo, xr, xrp, xn, List.map, List.getD, List.getElem?_cons_zero, List.getElem?_cons_succ, List.getElem?_nil, Option.getD]
  repeat first
   |(apply vq_isoI haw rfl rfl rfl)
   |(refine vq_iso' (l := [d]) rfl (fz1 hT.fz) h1 h2 (by rw [hpu, Bool.or_true]) ?_)
   |with_reducible first|apply vA|apply vB|apply vC
   |((with_reducible apply vD); (focus rfl))
   |((with_reducible first|apply vE|apply vF|apply vG|apply vH); simp only [Env.keep, Env.get, Env.ev, List.map, Nat.reduceEqDiff, ↓reduceIte, Then, Out'])
   |((with_reducible first|apply vI|apply vJ|apply vK|apply vL|apply vM|apply vN); (focus (simp (disch := (first|with_reducible assumption|omega|((repeat (first|rw [nP]|rw [nS]))<;>omega)|fail)) only [go_sem, ↓reduceIte, om] <;> rfl)); (first|(with_reducible (first|apply vO|apply vP|apply vQ|apply vR|apply vS|apply vT|apply vU); try simp only [Env.put])|with_reducible refine (?_ : WQ _ _ _ _ _ _)))
   |fail
  refine vw_loop_inv (Q := Out' 0 _) (fun n env s => ∃ p : Nat, p ≤ mo.procs.length ∧ n = mo.procs.length - p ∧ s.get 0 = some (.cells [m.dt, .int .i64 m.g, m.dc, m.dv, m.dp, m.ds, .bool m.b]) ∧ (env.get 3 = .ptr 0 0 ∧ env.get 5 = .int .i64 (p : Int))) ?_ mo.procs.length _ _ ⟨0, by omega, rfl, rfl, by simp [Env.get, Made.at]; rfl⟩
  rintro n env s ⟨p, hp, rfl, hg, hE⟩
  have hgl := get_lts hg
  by_cases c1 : p < mo.procs.length
  rotate_left
  · have c1' : ((p : Int) < (mo.procs.length : Int)) = False := eq_false (by omega)
    repeat first
     |with_reducible first|apply vA|apply vB|apply vC
     |((with_reducible apply vD); (focus rfl))
     |((with_reducible first|apply vE|apply vF|apply vG|apply vH); simp only [Env.keep, Env.get, Env.ev, List.map, Nat.reduceEqDiff, ↓reduceIte, Then, Out'])
     |((with_reducible first|apply vI|apply vJ|apply vK|apply vL|apply vM|apply vN); (focus (simp (disch := (first|with_reducible assumption|omega|((repeat (first|rw [nP]|rw [nS]))<;>omega)|fail)) only [go_sem, ↓reduceIte, hE, hg, om, hlp, c1'] <;> rfl)); (first|(with_reducible (first|apply vO|apply vP|apply vQ|apply vR|apply vS|apply vT|apply vU); try simp only [Env.put])|with_reducible refine (?_ : WQ _ _ _ _ _ _)))
     |fail
    exact ⟨.inr trivial, _, (by simp only [resOf, resAll, resOne, Env.get, Nat.reduceEqDiff, ↓reduceIte] <;> rfl), rfl⟩
  have c1' : ((p : Int) < (mo.procs.length : Int)) = True := eq_true (by omega)
  have hs : IntKind.i64.wrap ((p : Int) + 1) = ((p + 1 : Nat) : Int) := by rw [i64_id (by omega) (by omega)]; omega
  have hpo := ho.pr _ (List.getElem_mem c1)
  obtain ⟨x, hx, hxi⟩ := hm.proc c1
  have hxi := hxi .i64
  have ox := hx.ones
  have hle := hx.lenE
  have hlv := hx.lenV'
  have hnl := hpo.nl
  have hsm := hpo.same
  have hnv := ho.nv
  have hel := hpo.el
  unfold prRow at hxi
  have hv32 : ∀ v ∈ mo.procs[p].vars, v < 32 := fun v hv => by have := hpo.var v hv; omega
  repeat first
   |with_reducible first|apply vA|apply vB|apply vC
   |((with_reducible apply vD); (focus rfl))
   |((with_reducible first|apply vE|apply vF|apply vG|apply vH); simp only [Env.keep, Env.get, Env.ev, List.map, Nat.reduceEqDiff, ↓reduceIte, Then, Out'])
   |((with_reducible first|apply vI|apply vJ|apply vK|apply vL|apply vM|apply vN); (focus (simp (disch := (first|with_reducible assumption|omega|((repeat (first|rw [nP]|rw [nS]))<;>omega)|fail)) only [go_sem, ↓reduceIte, hE, hg, om, hlp, c1'] <;> rfl)); (first|(with_reducible (first|apply vO|apply vP|apply vQ|apply vR|apply vS|apply vT|apply vU); try simp only [Env.put])|with_reducible refine (?_ : WQ _ _ _ _ _ _)))
   |fail
  refine loop_cut (P := fun env s' => s' = s ∧ (env.get 3 = .ptr 0 0 ∧ env.get 5 = .int .i64 (p : Int) ∧ env.get 6 = .int .u32 (setF mo.procs[p].vars : Int))) ?_ ?_
  · refine vw_loop_inv (Q := Out' 2 _) (fun n env s' => ∃ i : Nat, i ≤ mo.procs[p].vars.length ∧ n = mo.procs[p].vars.length - i ∧ s' = s ∧ (env.get 3 = .ptr 0 0 ∧ env.get 5 = .int .i64 (p : Int) ∧ env.get 6 = .int .u32 (setF (mo.procs[p].vars.take i) : Int) ∧ env.get 7 = .int .i64 (i : Int))) ?_ mo.procs[p].vars.length _ _ ⟨0, by omega, rfl, rfl, by simp [Env.get, hE, setF]⟩
    clear hE
    rintro n env s' ⟨i, hi, rfl, rfl, hE⟩
    by_cases c2 : i < mo.procs[p].vars.length
    · have c2' : ((i : Int) < (mo.procs[p].vars.length : Int)) = True := eq_true (by omega)
      have hs2 : IntKind.i64.wrap ((i : Int) + 1) = ((i + 1 : Nat) : Int) := by rw [i64_id (by omega) (by omega)]; omega
      have hvi := FLN.idx hx.v c2 (k := .i64)
      have hb := hv32 _ (List.getElem_mem c2)
      have hsh := shl32 hb
      have hlt := setF_lt (l := mo.procs[p].vars.take i) fun v hv => hv32 v (List.mem_of_mem_take hv)
      have hor := s32_or hlt (pow32 hb)
      have hsn : setF (mo.procs[p].vars.take i) ||| 2 ^ mo.procs[p].vars[i] = setF (mo.procs[p].vars.take (i + 1)) := by rw [List.take_succ_eq_append_getElem c2, setF_snoc]
      rw [hsn] at hor
      repeat first
       |with_reducible first|apply vA|apply vB|apply vC
       |((with_reducible apply vD); (focus rfl))
       |((with_reducible first|apply vE|apply vF|apply vG|apply vH); simp only [Env.keep, Env.get, Env.ev, List.map, Nat.reduceEqDiff, ↓reduceIte, Then, Out'])
       |((with_reducible first|apply vI|apply vJ|apply vK|apply vL|apply vM|apply vN); (focus (simp (disch := (first|with_reducible assumption|omega|((repeat (first|rw [nP]|rw [nS]))<;>omega)|fail)) only [go_sem, ↓reduceIte, hE, hg, om, hxi, ox, hlv, c2', hvi, hsh, hor, hs2] <;> rfl)); (first|(with_reducible (first|apply vO|apply vP|apply vQ|apply vR|apply vS|apply vT|apply vU); try simp only [Env.put])|with_reducible refine (?_ : WQ _ _ _ _ _ _)))
       |fail
      exact ⟨mo.procs[p].vars.length - (i + 1), by omega, i + 1, by omega, rfl, trivial, (by simp only [Env.get, Nat.reduceEqDiff, ↓reduceIte, hE, and_self])⟩
    · have c2' : ((i : Int) < (mo.procs[p].vars.length : Int)) = False := eq_false (by omega)
      obtain rfl : i = mo.procs[p].vars.length := by omega
      rw [List.take_length] at hE
      repeat first
       |with_reducible first|apply vA|apply vB|apply vC
       |((with_reducible apply vD); (focus rfl))
       |((with_reducible first|apply vE|apply vF|apply vG|apply vH); simp only [Env.keep, Env.get, Env.ev, List.map, Nat.reduceEqDiff, ↓reduceIte, Then, Out'])
       |((with_reducible first|apply vI|apply vJ|apply vK|apply vL|apply vM|apply vN); (focus (simp (disch := (first|with_reducible assumption|omega|((repeat (first|rw [nP]|rw [nS]))<;>omega)|fail)) only [go_sem, ↓reduceIte, hE, hg, om, hxi, ox, hlv, c2'] <;> rfl)); (first|(with_reducible (first|apply vO|apply vP|apply vQ|apply vR|apply vS|apply vT|apply vU); try simp only [Env.put])|with_reducible refine (?_ : WQ _ _ _ _ _ _)))
       |fail
      exact ⟨trivial, trivial, (by simp only [Env.get, Nat.reduceEqDiff, ↓reduceIte, hE, and_self])⟩
  clear hE
  rintro env s' ⟨rfl, hE⟩
  simp only [Then]
  repeat first
   |with_reducible first|apply vA|apply vB|apply vC
   |((with_reducible apply vD); (focus rfl))
   |((with_reducible first|apply vE|apply vF|apply vG|apply vH); simp only [Env.keep, Env.get, Env.ev, List.map, Nat.reduceEqDiff, ↓reduceIte, Then, Out'])
   |((with_reducible first|apply vI|apply vJ|apply vK|apply vL|apply vM|apply vN); (focus (simp (disch := (first|with_reducible assumption|omega|((repeat (first|rw [nP]|rw [nS]))<;>omega)|fail)) only [go_sem, ↓reduceIte, hE] <;> rfl)); (first|(with_reducible (first|apply vO|apply vP|apply vQ|apply vR|apply vS|apply vT|apply vU); try simp only [Env.put])|with_reducible refine (?_ : WQ _ _ _ _ _ _)))
   |fail
  refine loop_cut (P := fun env s' => s'.get 0 = some (.cells [m.dt, .int .i64 m.g, m.dc, m.dv, m.dp, m.ds, .bool m.b]) ∧ (env.get 3 = .ptr 0 0 ∧ env.get 5 = .int .i64 (p : Int))) ?_ ?_
  rotate_left
  · clear hE hg
    rintro env s ⟨hg, hE⟩
    simp only [Then, Out']
    repeat first
     |with_reducible first|apply vA|apply vB|apply vC
     |((with_reducible apply vD); (focus rfl))
     |((with_reducible first|apply vE|apply vF|apply vG|apply vH); simp only [Env.keep, Env.get, Env.ev, List.map, Nat.reduceEqDiff, ↓reduceIte, Then, Out'])
     |((with_reducible first|apply vI|apply vJ|apply vK|apply vL|apply vM|apply vN); (focus (simp (disch := (first|with_reducible assumption|omega|((repeat (first|rw [nP]|rw [nS]))<;>omega)|fail)) only [go_sem, ↓reduceIte, hE, hs] <;> rfl)); (first|(with_reducible (first|apply vO|apply vP|apply vQ|apply vR|apply vS|apply vT|apply vU); try simp only [Env.put])|with_reducible refine (?_ : WQ _ _ _ _ _ _)))
     |fail
    exact ⟨mo.procs.length - (p + 1), by omega, p + 1, by omega, rfl, hg, (by simp only [Env.get, Nat.reduceEqDiff, ↓reduceIte, hE, and_self])⟩
  refine vw_loop_inv (Q := Out' 4 _) (fun n env s => ∃ i : Nat, i ≤ mo.procs[p].edges.length ∧ n = mo.procs[p].edges.length - i ∧ s.get 0 = some (.cells [m.dt, .int .i64 m.g, m.dc, m.dv, m.dp, m.ds, .bool m.b]) ∧ (env.get 3 = .ptr 0 0 ∧ env.get 5 = .int .i64 (p : Int) ∧ env.get 6 = .int .u32 (setF mo.procs[p].vars : Int) ∧ env.get 8 = .int .i64 (i : Int))) ?_ mo.procs[p].edges.length _ _ ⟨0, by omega, rfl, hg, by simp [Env.get, hE]⟩
  clear hE hg hgl
  rintro n env s ⟨i, hi, rfl, hg, hE⟩
  have hgl := get_lts hg
  by_cases c3 : i < mo.procs[p].edges.length
  · have c3' : ((i : Int) < (mo.procs[p].edges.length : Int)) = True := eq_true (by omega)
    have hs3 : IntKind.i64.wrap ((i : Int) + 1) = ((i + 1 : Nat) : Int) := by rw [i64_id (by omega) (by omega)]; omega
    obtain ⟨⟨s9, he⟩, hok⟩ := edge_ok hm ho c1 c3
    have hown := edge_own ho hpo (List.getElem_mem c3)
    generalize edgeF mo mo.procs[p] mo.procs[p].edges[i] = f at *
    unfold mdRow Ft.row at he
    have e1 := s32_or hok.r hok.w
    have e2 := s32_clr (or_lt hok.r hok.w) (setF_lt hv32) (fun b hb => by
      rw [setF_bit]
      rw [Nat.testBit_or, Bool.or_eq_true] at hb
      rcases hb with hb | hb
      · exact hown.reads b hb
      · exact hown.writes b hb)
    have e3 := s32_pred hown.w1
    have e4 := s32_or hok.s hok.v
    have e5 : IntKind.u32.wrap (andI .u32 ((f.sends ||| f.recvs : Nat) : Int) (IntKind.u32.wrap (((f.sends ||| f.recvs : Nat) : Int) - 1))) = 0 := by
      refine s32_pred ?_
      rcases hown.c with ⟨h1, h2⟩ | ⟨h1, h2⟩
      · rw [h1, Nat.zero_or]; exact h2
      · rw [h1, Nat.or_zero]; exact h2
    have e6 : IntKind.u32.wrap (andI .u32 (f.sends : Int) (f.recvs : Int)) = 0 := by
      rw [s32_and hok.s hok.v]
      rcases hown.c with ⟨h1, h2⟩ | ⟨h1, h2⟩
      · rw [h1, Nat.zero_and]; rfl
      · rw [h1, Nat.and_zero]; rfl
    repeat first
     |(refine vq_iso' (l := [.agg [m.dt, .int .i64 m.g, m.dc, m.dv, m.dp, m.ds, .bool m.b], .int .i64 (p : Int), .int .i64 (i : Int)]) ?_ (fz3 hfz fz_int fz_int) he rfl rfl ?_; (focus (simp only [Env.evL, Env.ev, Env.get, Nat.reduceEqDiff, ↓reduceIte, hE])))
     |with_reducible first|apply vA|apply vB|apply vC
     |((with_reducible apply vD); (focus rfl))
     |((with_reducible first|apply vE|apply vF|apply vG|apply vH); simp only [Env.keep, Env.get, Env.ev, List.map, Nat.reduceEqDiff, ↓reduceIte, Then, Out'])
     |((with_reducible first|apply vI|apply vJ|apply vK|apply vL|apply vM|apply vN); (focus (simp (disch := (first|with_reducible assumption|omega|((repeat (first|rw [nP]|rw [nS]))<;>omega)|fail)) only [go_sem, ↓reduceIte, hE, hg, om, hxi, ox, hle, c3', e1, e2, e3, e4, e5, e6, hs3] <;> rfl)); (first|(with_reducible (first|apply vO|apply vP|apply vQ|apply vR|apply vS|apply vT|apply vU); try simp only [Env.put])|with_reducible refine (?_ : WQ _ _ _ _ _ _)))
     |fail
    refine ⟨mo.procs[p].edges.length - (i + 1), by omega, i + 1, by omega, rfl, ?_, (by simp only [Env.get, Nat.reduceEqDiff, ↓reduceIte, hE, and_self])⟩
    rw [get_set_ne (by omega), get_push_old hgl, hg]
  · have c3' : ((i : Int) < (mo.procs[p].edges.length : Int)) = False := eq_false (by omega)
    repeat first
     |with_reducible first|apply vA|apply vB|apply vC
     |((with_reducible apply vD); (focus rfl))
     |((with_reducible first|apply vE|apply vF|apply vG|apply vH); simp only [Env.keep, Env.get, Env.ev, List.map, Nat.reduceEqDiff, ↓reduceIte, Then, Out'])
     |((with_reducible first|apply vI|apply vJ|apply vK|apply vL|apply vM|apply vN); (focus (simp (disch := (first|with_reducible assumption|omega|((repeat (first|rw [nP]|rw [nS]))<;>omega)|fail)) only [go_sem, ↓reduceIte, hE, hg, om, hxi, ox, hle, c3'] <;> rfl)); (first|(with_reducible (first|apply vO|apply vP|apply vQ|apply vR|apply vS|apply vT|apply vU); try simp only [Env.put])|with_reducible refine (?_ : WQ _ _ _ _ _ _)))
     |fail
    exact ⟨trivial, hg, (by simp only [Env.get, Nat.reduceEqDiff, ↓reduceIte, hE, and_self])⟩
theorem footOwn18 {d : D} (h : ArgT Ty.tree d) : EvP vfs 3 [d] Store.empty fun r _ => r = .bool true := by
  obtain ⟨t, hT⟩ := tree_of h
  exact footOwn_v hT
end Go.Proofs.Ytlaeblilmppodaa
