/- Texts one behind the other. -/
import Derived.Test.YtlaeblilmppodaaZ4
import Derived.Test.YtlaeblilmppodaaZ3
import Derived.Test.YtlaeblilmppodaaVt
import Derived.Test.YtlaeblilmppodaaZ1
set_option linter.unusedSimpArgs false
set_option linter.unusedVariables false
namespace Go.Proofs.Ytlaeblilmppodaa
open Go.V
set_option maxRecDepth 100000
set_option maxHeartbeats 4000000
theorem make_ok {d : D} {t : List Nd} (hT : TreeAt d t) (hR : RightT t) :
 EvP vfs 26 [d] Store.empty fun r s' => r = .tup [.agg [.nils, .int .i64 0, .nils, .nils, .nils, .nils, .bool false], .bool false] ∨ (Scoped t /\ Typed t /\ ∃ m ps, r = .tup [.agg (mdRow m), .bool true] /\ MoAt s' m (modelOf t) ps /\ m.dp ≠ .lst 8 (rowsP ps)) := by
 have hlen := hT.len
 have hle := hR.ok.le
 have hpos := hR.ok.pos
 have hks := hR.subs.length
 obtain ⟨e, a, hc, hp⟩ := check12_ok hT hR
 obtain ⟨sc, hc⟩ := hc
 by_cases c0 : e = 0
 rotate_left
 ·have c0' : (e != 0) = true := by rw [bne_iff_ne]; exact c0
  refine evp_of (vf := vf26) rfl ?_
  unfold vf26; refine zE ?_
  repeat first
  |(refine vq_iso' rfl (fz1 hT.fz) hc rfl rfl ?_)
  |refine zW c0' ?_
  exact ⟨.inr trivial, _, rR, .inl rfl⟩
 subst c0
 have c0' : ((0 : Int) != 0) = false := rfl
 have h0 := hT.at (z := 0) (by omega) (by omega) (k := .i64)
 have x0 := hT.nd (i := 0) (by omega)
 have z0 : (0 : Int).toNat = 0 := rfl
 rw [z0] at h0
 have o1 := FL.one x0.w
 have o2 := FL.one x0.n
 have o3 := FL.one x0.k
 have hkl := FI.len x0.k
 have od := FL.one hT.fl
 refine evp_of (vf := vf26) rfl ?_
 unfold vf26; refine zE ?_
 repeat first
 |(refine vq_iso' rfl (fz1 hT.fz) hc rfl rfl ?_)
 |refine zW (aN c0' od) ?_
 refine loop_cut (P := fun env s => ∃ (dc dv ds : D) (Ec Ev Es : Hs),
  Rp dc 5 (rowsC (gat t).ch) Ec /\ Rp dv 3 (rowsV (gat t).vs) Ev /\ Rp ds 1 (rowsN (gat t).sf) Es /\
  Hp s ((0, [.nils, .int .i64 0, .nils, .nils, .nils, .nils, .bool false]) :: (2, [d, .int .i64 0, dc, dv, .nils, ds, .bool (gat t).dead]) :: (Ec ++ (Ev ++ Es))) [] /\ (env.get 0 = d /\ env.get 2 = .ptr 0 0 /\ env.get 5 = .ptr 2 0)) ?_ ?_
 ·refine vw_loop_inv (Q := Out' 0 _) (fun n env s => ∃ (i : Nat) (dc dv ds : D) (Ec Ev Es : Hs), i <= (nd t 0).kids.length /\ n = (nd t 0).kids.length - i /\
   Rp dc 5 (rowsC (pass1 t ((nd t 0).ks.take i)).ch) Ec /\ Rp dv 3 (rowsV (pass1 t ((nd t 0).ks.take i)).vs) Ev /\ Rp ds 1 (rowsN (pass1 t ((nd t 0).ks.take i)).sf) Es /\
   Hp s ((0, [.nils, .int .i64 0, .nils, .nils, .nils, .nils, .bool false]) :: (2, [d, .int .i64 0, dc, dv, .nils, ds, .bool (pass1 t ((nd t 0).ks.take i)).dead]) :: (Ec ++ (Ev ++ Es))) [] /\ (env.get 0 = d /\ env.get 2 = .ptr 0 0 /\ env.get 5 = .ptr 2 0 /\ env.get 6 = .int .i64 (i : Int))) ?_ (nd t 0).kids.length _ _ ?_
  rotate_left
  ·refine ⟨0, .nils, .nils, .nils, [], [], [], by omega, rfl, .inl ⟨rfl, rfl, rfl⟩, .inl ⟨rfl, rfl, rfl⟩, .inl ⟨rfl, rfl, rfl⟩, ?_, by simp [Env.get, Made.at]; rfl⟩
   refine ⟨by simp, by simp, ?_, by simp [Has]⟩
   intro x hx
   simp only [List.append_nil, List.mem_cons, List.not_mem_nil, or_false] at hx
   rcases hx with rfl | rfl <;> rfl
  ·rintro n env s ⟨i, dc, dv, ds, Ec, Ev, Es, hi, rfl, rc, rv, rs, hh, hE⟩
   have hb := pass1_le t ((nd t 0).ks.take i)
   have hb1 : ((nd t 0).ks.take i).length <= i := by simp; omega
   have hM := Hp.get (A := [(0, _)]) hh
   have hMl := get_lts hM
   by_cases c1 : i < (nd t 0).kids.length
   ·have c1' : ((i : Int) < ((nd t 0).kids.length : Int)) = True := eq_true (by omega)
    have hs : IntKind.i64.wrap ((i : Int) + 1) = ((i + 1 : Nat) : Int) := by rw [i64_id (by omega) (by omega)]; omega
    have hki := kid_idx hT hR.ok (k := 0) (by omega) c1
    have hkm := kid_mem c1
    have hkt := ks_snoc c1
    generalize (nd t 0).kid i = K at *
    obtain ⟨K1, K2, -⟩ := hR.item hkm
    have hidx := hT.at (z := (K : Int)) (by omega) (by omega) (k := .i64)
    rw [Int.toNat_natCast] at hidx
    have on := nd_one hT K2
    have hno := hR.ok.node K K2
    have hpr := hR.ok.node 0 (by omega)
    have hw := word_idx hT K2 (i := 0)
    have n0 := ndnum_idx hT K2 (i := 0)
    have n1 := ndnum_idx hT K2 (i := 1)
    have n2 := ndnum_idx hT K2 (i := 2)
    have n3 := ndnum_idx hT K2 (i := 3)
    have k0 := kid_idx hT hR.ok K2 (i := 0)
    have e0 : ((0 : Nat) : Int) = 0 := rfl
    have e1 : ((1 : Nat) : Int) = 1 := rfl
    have e2 : ((2 : Nat) : Int) = 2 := rfl
    have e3 : ((3 : Nat) : Int) = 3 := rfl
    rw [hno.wl, e0] at hw
    rw [hno.nl] at n0 n1 n2 n3
    rw [e0] at n0 k0
    rw [e1] at n1
    rw [e2] at n2
    rw [e3] at n3
    have hnx : pass1 t ((nd t 0).ks.take (i + 1)) = one1 t (pass1 t ((nd t 0).ks.take i)) K := by rw [hkt, pass1_snoc]
    generalize hA : pass1 t ((nd t 0).ks.take i) = a at *
    have fr : ∀ z o, Fr [] s ((s.push z).set s.next (some o)) := fun z o => (Fr.push _).thenSet _ (.inr (Nat.le_refl _))
    by_cases q1 : (nd t K).kind = 1
    ·rw [q1] at hw n0 n1 n2 n3
     have hw := hw (by decide)
     have n0 := n0 (by decide)
     have n1 := n1 (by decide)
     have n2 := n2 (by decide)
     have n3 := n3 (by decide)
     have q1' : ((nd t K).kind == 1) = true := by rw [q1]; rfl
     have e : one1 t a K = { a with ch := a.ch ++ [chOf (nd t K)] } := by unfold one1; rw [if_pos q1]
     rw [e] at hnx
     try refine zW (aN hE (aN hM (aN o1 (aN o2 (aN o3 (aN h0 (aN hkl (aN c1' (aN hki (aN hidx (aN on (aN q1' (aN rc.one (aN rv.one (aN rs.one (aN od (aN hw (aN n0 (aN n1 (aN n2 n3)))))))))))))))))))) ?_
     refine vq_app (Rp.app (A := [(0, _), (2, _)]) (B := Ev ++ Es) rc (hh.fr ((fr _ _).thenPush _)) (get_push_new rfl) rfl (rowsC_len _) (by decide) (by simp; omega)) rfl rfl ?_
     rintro d' s' ⟨E', rc', hh', hn'⟩
     have od' := rc'.one
     simp only [List.append_assoc, List.cons_append, List.nil_append] at hh'
     have hM' := Hp.get (A := [(0, _)]) hh'
     have hMl' := get_lts hM'
     simp only [Store.next_push, Store.next_set] at hn'
     try refine zW (aN hM' (aN od' (aN rv.one (aN rs.one (aN od (aN hE hs)))))) ?_
     refine ⟨(nd t 0).kids.length - (i + 1), by omega, i + 1, d', dv, ds, E', Ev, Es, by omega, rfl, ?_, ?_, ?_, ?_, (rG hE)⟩
     ·rw [hnx]; show Rp d' 5 (rowsC (a.ch ++ [chOf (nd t K)])) E'; rw [<- rowsC_snoc]; exact rc'
     ·rw [hnx]; exact rv
     ·rw [hnx]; exact rs
     ·rw [hnx]
      exact Hp.set (A := [(0, _)]) hh' [d, .int .i64 0, d', dv, .nils, ds, .bool a.dead]
    have q1' : ((nd t K).kind == 1) = false := by rw [beq_eq_false_iff_ne]; exact q1
    by_cases q2 : (nd t K).kind = 2
    ·rw [q2] at hw n0 n1
     have hw := hw (by decide)
     have n0 := n0 (by decide)
     have n1 := n1 (by decide)
     have q2' : ((nd t K).kind == 2) = true := by rw [q2]; rfl
     have e : one1 t a K = { a with vs := a.vs ++ [vrOf (nd t K)] } := by unfold one1; rw [if_neg q1, if_pos q2]
     rw [e] at hnx
     try refine zW (aN hE (aN hM (aN o1 (aN o2 (aN o3 (aN h0 (aN hkl (aN c1' (aN hki (aN hidx (aN on (aN q1' (aN q2' (aN rc.one (aN rv.one (aN rs.one (aN od (aN hw (aN n0 n1))))))))))))))))))) ?_
     refine vq_app (Rp.app (A := [(0, _), (2, _)] ++ Ec) (B := Es) rv (by simpa only [List.append_assoc, List.cons_append, List.nil_append] using (hh.fr ((fr _ _).thenPush _))) (get_push_new rfl) rfl (rowsV_len _) (by decide) (by simp; omega)) rfl rfl ?_
     rintro d' s' ⟨E', rv', hh', hn'⟩
     have od' := rv'.one
     simp only [List.append_assoc, List.cons_append, List.nil_append] at hh'
     have hM' := Hp.get (A := [(0, _)]) hh'
     have hMl' := get_lts hM'
     simp only [Store.next_push, Store.next_set] at hn'
     try refine zW (aN hM' (aN rc.one (aN od' (aN rs.one (aN od (aN hE hs)))))) ?_
     refine ⟨(nd t 0).kids.length - (i + 1), by omega, i + 1, dc, d', ds, Ec, E', Es, by omega, rfl, ?_, ?_, ?_, ?_, (rG hE)⟩
     ·rw [hnx]; exact rc
     ·rw [hnx]; show Rp d' 3 (rowsV (a.vs ++ [vrOf (nd t K)])) E'; rw [<- rowsV_snoc]; exact rv'
     ·rw [hnx]; exact rs
     ·rw [hnx]
      exact Hp.set (A := [(0, _)]) hh' [d, .int .i64 0, dc, d', .nils, ds, .bool a.dead]
    have q2' : ((nd t K).kind == 2) = false := by rw [beq_eq_false_iff_ne]; exact q2
    by_cases q4 : (nd t K).kind = 4
    ·have hone := hno.one (.inl q4)
     have k0 := k0 (by omega)
     have q4' : ((nd t K).kind == 4) = true := by rw [q4]; rfl
     have e : one1 t a K = { a with sf := a.sf ++ [(nd t K).kid 0] } := by unfold one1; rw [if_neg q1, if_neg q2, if_pos q4]
     rw [e] at hnx
     try refine zW (aN hE (aN hM (aN o1 (aN o2 (aN o3 (aN h0 (aN hkl (aN c1' (aN hki (aN hidx (aN on (aN q1' (aN q2' (aN q4' (aN rc.one (aN rv.one (aN rs.one (aN od k0)))))))))))))))))) ?_
     refine vq_app (Rp.app (A := [(0, _), (2, _)] ++ Ec ++ Ev) (B := []) rs (by simpa only [List.append_assoc, List.cons_append, List.nil_append, List.append_nil] using (hh.fr ((fr _ _).thenPush _))) (get_push_new rfl) rfl (rowsN_len _) (by decide) (by simp; omega)) rfl rfl ?_
     rintro d' s' ⟨E', rs', hh', hn'⟩
     have od' := rs'.one
     simp only [List.append_assoc, List.cons_append, List.nil_append, List.append_nil] at hh'
     have hM' := Hp.get (A := [(0, _)]) hh'
     have hMl' := get_lts hM'
     simp only [Store.next_push, Store.next_set] at hn'
     try refine zW (aN hM' (aN rc.one (aN rv.one (aN od' (aN od (aN hE hs)))))) ?_
     refine ⟨(nd t 0).kids.length - (i + 1), by omega, i + 1, dc, dv, d', Ec, Ev, E', by omega, rfl, ?_, ?_, ?_, ?_, (rG hE)⟩
     ·rw [hnx]; exact rc
     ·rw [hnx]; exact rv
     ·rw [hnx]; show Rp d' 1 (rowsN (a.sf ++ [(nd t K).kid 0])) E'; rw [<- rowsN_snoc]; exact rs'
     ·rw [hnx]
      exact Hp.set (A := [(0, _)]) hh' [d, .int .i64 0, dc, dv, .nils, d', .bool a.dead]
    have q4' : ((nd t K).kind == 4) = false := by rw [beq_eq_false_iff_ne]; exact q4
    by_cases q5 : (nd t K).kind = 5
    ·have q5' : ((nd t K).kind == 5) = true := by rw [q5]; rfl
     have e : one1 t a K = { a with dead := true } := by unfold one1; rw [if_neg q1, if_neg q2, if_neg q4, if_pos q5]
     rw [e] at hnx
     try refine zW (aN hE (aN hM (aN o1 (aN o2 (aN o3 (aN h0 (aN hkl (aN c1' (aN hki (aN hidx (aN on (aN q1' (aN q2' (aN q4' (aN q5' (aN rc.one (aN rv.one (aN rs.one (aN od hs))))))))))))))))))) ?_
     refine ⟨(nd t 0).kids.length - (i + 1), by omega, i + 1, dc, dv, ds, Ec, Ev, Es, by omega, rfl, ?_, ?_, ?_, ?_, (rG hE)⟩
     ·rw [hnx]; exact rc
     ·rw [hnx]; exact rv
     ·rw [hnx]; exact rs
     ·rw [hnx]
      exact Hp.set (A := [(0, _)]) (hh.fr (fr _ _)) [d, .int .i64 0, dc, dv, .nils, ds, .bool true]
    ·have q5' : ((nd t K).kind == 5) = false := by rw [beq_eq_false_iff_ne]; exact q5
     have e : one1 t a K = a := by unfold one1; rw [if_neg q1, if_neg q2, if_neg q4, if_neg q5]
     rw [e] at hnx
     try refine zW (aN hE (aN hM (aN o1 (aN o2 (aN o3 (aN h0 (aN hkl (aN c1' (aN hki (aN hidx (aN on (aN q1' (aN q2' (aN q4' (aN q5' (aN rc.one (aN rv.one (aN rs.one (aN od hs))))))))))))))))))) ?_
     refine ⟨(nd t 0).kids.length - (i + 1), by omega, i + 1, dc, dv, ds, Ec, Ev, Es, by omega, rfl, ?_, ?_, ?_, ?_, (rG hE)⟩
     ·rw [hnx]; exact rc
     ·rw [hnx]; exact rv
     ·rw [hnx]; exact rs
     ·rw [hnx]
      exact hh.fr (fr _ _)
   ·have c1' : ((i : Int) < ((nd t 0).kids.length : Int)) = False := eq_false (by omega)
    obtain rfl : i = (nd t 0).kids.length := by omega
    have hall : (nd t 0).ks.take (nd t 0).kids.length = (nd t 0).ks := by rw [<- ks_len, List.take_length]
    rw [hall] at rc rv rs hh hM
    try refine zW (aN hE (aN hM (aN o1 (aN o2 (aN o3 (aN h0 (aN hkl (aN c1' od)))))))) ?_
    exact ⟨trivial, dc, dv, ds, Ec, Ev, Es, rc, rv, rs, hh, (rG hE)⟩
 rintro env s ⟨dc, dv, ds, Ec, Ev, Es, rc, rv, rs, hh, hE⟩
 have hvl := rv.len
 rw [rowsV_length] at hvl
 have oc := rc.one
 have ov := rv.one
 have os := rs.one
 have hM := Hp.get (A := [(0, _)]) hh
 have hMl := get_lts hM
 simp only [Then]
 try refine zW (aN hE (aN hM (aN od (aN oc (aN ov (aN os hvl)))))) ?_
 have hg1 := pass1_le t (nd t 0).ks
 rw [ks_len] at hg1
 have hcl : (gat t).ch.length <= 800 := by unfold gat; omega
 have hgl : (gat t).vs.length <= 800 := by unfold gat; omega
 have hh2 := Hp.freeze (W' := (0, [.nils, .int .i64 0, .nils, .nils, .nils, .nils, .bool false]) :: (2, [d, .int .i64 (((gat t).vs.length : Nat) : Int), dc, dv, .nils, ds, .bool (gat t).dead]) :: (Ev ++ [])) (F := Ec ++ Es) (Hp.set (A := [(0, _)]) hh [d, .int .i64 (((gat t).vs.length : Nat) : Int), dc, dv, .nils, ds, .bool (gat t).dead]) (by
  simp only [List.append_nil, List.cons_append, List.nil_append]
  refine .cons _ (.cons _ ?_)
  rw [<- List.append_assoc, <- List.append_assoc]
  exact List.perm_append_comm.append_right _)
 have fc : InR (fun s => SN s 5 dc (rowsC (gat t).ch)) (Ec ++ Es) := fun s hs => rc.sn hs.left
 have fs : InR (fun s => SN s 1 ds (rowsN (gat t).sf)) (Ec ++ Es) := fun s hs => rs.sn hs.right
 rw [List.append_nil, List.append_nil] at hh2
 generalize Ec ++ Es = R0 at *
 refine loop_cut (P := fun env s => ∃ (dv dp : D) (Ev Ep R : Hs) (ps : List (Pr × PrD)), MkI s d dc ds (((gat t).vs.length : Nat) : Int) (gat t).dead [.nils, .int .i64 0, .nils, .nils, .nils, .nils, .bool false] R0 (gbt t).vs (gbt t).ps dv dp Ev Ep R ps /\ (env.get 0 = d /\ env.get 2 = .ptr 0 0 /\ env.get 5 = .ptr 2 0)) ?_ ?_
 rotate_left
 ·clear hE
  rintro env s ⟨dv, dp, Ev, Ep, R, ps, hI, hE⟩
  have ov := hI.v.one
  have op := hI.p.one
  have hM := Hp.get (A := [(0, _)]) hI.h
  have hZ := Hp.get (A := []) hI.h
  have hMl := get_lts hM
  have hZl := get_lts hZ
  simp only [Then]
  try refine zW (aN hE (aN hM (aN hZ (aN od (aN oc (aN ov (aN os op))))))) ?_
  have hf := Hp.set (A := []) hI.h [d, .int .i64 (((gat t).vs.length : Nat) : Int), dc, dv, dp, ds, .bool (gat t).dead]
  have hrr : ∀ x ∈ R0, x ∈ R := hI.sub
  refine ⟨.inr trivial, _, ?_, .inr ⟨(hp rfl).1, (hp rfl).2, ⟨d, dc, dv, dp, ds, (((gat t).vs.length : Nat) : Int), (gat t).dead⟩, ps, rfl, ?_, by rcases hI.p with ⟨e, _⟩ | ⟨id, e, _⟩ <;> simp [e]⟩⟩
  ·simp only [resOf, resAll, resOne, Env.get, Nat.reduceEqDiff, ↓reduceIte, hE, get_set_eq hZl]
   rfl
  ·refine ⟨hT, fc _ fun x hx => hf.r x (hrr x hx), hI.v.sn fun x hx => hf.w x (by simp [hx]), hI.p.sn fun x hx => hf.w x (by simp [hx]), hI.eq, fun q hq => hI.at' q hq _ hf.r, fs _ fun x hx => hf.r x (hrr x hx), rfl, rfl⟩
 refine vw_loop_inv (Q := Out' 3 _) (fun n env s => ∃ (i : Nat) (dv dp : D) (Ev Ep R : Hs) (ps : List (Pr × PrD)), i <= (nd t 0).kids.length /\ n = (nd t 0).kids.length - i /\
  MkI s d dc ds (((gat t).vs.length : Nat) : Int) (gat t).dead [.nils, .int .i64 0, .nils, .nils, .nils, .nils, .bool false] R0 (pass2 t (chs t) (gat t).vs ((nd t 0).ks.take i)).vs (pass2 t (chs t) (gat t).vs ((nd t 0).ks.take i)).ps dv dp Ev Ep R ps /\ (pass2 t (chs t) (gat t).vs ((nd t 0).ks.take i)).vs.length <= 800 + 3200 * i /\ ps.length <= 4 * i /\
  (env.get 0 = d /\ env.get 2 = .ptr 0 0 /\ env.get 5 = .ptr 2 0 /\ env.get 8 = .int .i64 ((pass2 t (chs t) (gat t).vs ((nd t 0).ks.take i)).seen : Int) /\ env.get 9 = .int .i64 (i : Int))) ?_ (nd t 0).kids.length _ _ ?_
 rotate_left
 ·refine ⟨0, dv, .nils, Ev, [], R0, [], by omega, rfl, ⟨rv, .inl ⟨rfl, rfl, rfl⟩, rfl, by simp, fun _ h => h, by rw [List.append_nil]; exact hh2⟩, ?_, by simp, by simp [Env.get, hE]; rfl⟩
  show (gat t).vs.length <= _
  omega
 clear hh2 hE hM hMl rv ov hvl hh
 rintro n env s ⟨i, dv, dp, Ev, Ep, R, ps, hi, rfl, hI, hvb, hpb, hE⟩
 have ov := hI.v.one
 have op := hI.p.one
 have hM := Hp.get (A := [(0, _)]) hI.h
 have hMl := get_lts hM
 by_cases c1 : i < (nd t 0).kids.length
 rotate_left
 ·have c1' : ((i : Int) < ((nd t 0).kids.length : Int)) = False := eq_false (by omega)
  obtain rfl : i = (nd t 0).kids.length := by omega
  have hall : (nd t 0).ks.take (nd t 0).kids.length = (nd t 0).ks := by rw [<- ks_len, List.take_length]
  rw [hall] at hI
  try refine zW (aN hE (aN hM (aN o1 (aN o2 (aN o3 (aN h0 (aN hkl (aN c1' od)))))))) ?_
  exact ⟨trivial, dv, dp, Ev, Ep, R, ps, hI, (rG hE)⟩
 have c1' : ((i : Int) < ((nd t 0).kids.length : Int)) = True := eq_true (by omega)
 have hs : IntKind.i64.wrap ((i : Int) + 1) = ((i + 1 : Nat) : Int) := by rw [i64_id (by omega) (by omega)]; omega
 have hki := kid_idx hT hR.ok (k := 0) (by omega) c1
 have hkm := kid_mem c1
 have hkt := ks_snoc c1
 have hkg := ks_get (x := nd t 0) (i := i) (by rw [ks_len]; exact c1)
 generalize hK : (nd t 0).kid i = K at *
 obtain ⟨K1, K2, bK, bw, bl, bl2, bkf⟩ := hR.item hkm
 have hidx := hT.at (z := (K : Int)) (by omega) (by omega) (k := .i64)
 rw [Int.toNat_natCast] at hidx
 have on := nd_one hT K2
 have hno := hR.ok.node K K2
 have hnx : pass2 t (chs t) (gat t).vs ((nd t 0).ks.take (i + 1)) = one2 t (chs t) (pass2 t (chs t) (gat t).vs ((nd t 0).ks.take i)) K := by rw [hkt, pass2_snoc]
 obtain ⟨tk1, tk2, tk3⟩ := pass2_take t (chs t) i
 generalize pass2 t (chs t) (gat t).vs ((nd t 0).ks.take i) = b at *
 have hN := hI.h.newR (.cells [.int .i64 0, .nils, .nils, .nils, .int .i64 0]) [.int .i64 (nd t K).kind, (nd t K).dw, (nd t K).dn, (nd t K).dk, .int .i64 (nd t K).pos]
 have hIn : MkI ((s.push (.cells [.int .i64 0, .nils, .nils, .nils, .int .i64 0])).set s.next (some (.cells [.int .i64 (nd t K).kind, (nd t K).dw, (nd t K).dn, (nd t K).dk, .int .i64 (nd t K).pos]))) d dc ds (((gat t).vs.length : Nat) : Int) (gat t).dead [.nils, .int .i64 0, .nils, .nils, .nils, .nils, .bool false] R0 b.vs b.ps dv dp Ev Ep ((s.next, [.int .i64 (nd t K).kind, (nd t K).dw, (nd t K).dn, (nd t K).dk, .int .i64 (nd t K).pos]) :: R) ps :=
  ⟨hI.v, hI.p, hI.eq, fun q hq => (hI.at' q hq).mono fun x hx => by simp [hx], fun x hx => by simp [hI.sub x hx], hN⟩
 by_cases q3 : (nd t K).kind = 3
 rotate_left
 ·have q3' : ((nd t K).kind == 3) = false := by rw [beq_eq_false_iff_ne]; exact q3
  by_cases q2 : (nd t K).kind = 2
  ·have q2' : ((nd t K).kind == 2) = true := by rw [q2]; rfl
   have hs2 : IntKind.i64.wrap ((b.seen : Int) + 1) = ((b.seen + 1 : Nat) : Int) := by rw [i64_id (by omega) (by omega)]; omega
   have e : one2 t (chs t) b K = ⟨b.seen + 1, b.vs, b.ps⟩ := by unfold one2; rw [if_neg q3, if_pos q2]
   rw [e] at hnx
   try refine zW (aN hE (aN hM (aN o1 (aN o2 (aN o3 (aN h0 (aN hkl (aN c1' (aN hki (aN hidx (aN on (aN q2' (aN od hs2))))))))))))) ?_
   refine vw_loop ?_
   try refine zW (aN q3' (aN hE hs)) ?_
   exact ⟨(nd t 0).kids.length - (i + 1), by omega, i + 1, dv, dp, Ev, Ep, _, ps, by omega, rfl, by rw [hnx]; exact hIn, by rw [hnx]; show b.vs.length <= _; omega, by omega, by simp only [Env.get, Nat.reduceEqDiff, ↓reduceIte, hE, hnx, and_self]⟩
  ·have q2' : ((nd t K).kind == 2) = false := by rw [beq_eq_false_iff_ne]; exact q2
   have e : one2 t (chs t) b K = b := by unfold one2; rw [if_neg q3, if_neg q2]
   rw [e] at hnx
   try refine zW (aN hE (aN hM (aN o1 (aN o2 (aN o3 (aN h0 (aN hkl (aN c1' (aN hki (aN hidx (aN on (aN q2' od)))))))))))) ?_
   refine vw_loop ?_
   try refine zW (aN q3' (aN hE hs)) ?_
   exact ⟨(nd t 0).kids.length - (i + 1), by omega, i + 1, dv, dp, Ev, Ep, _, ps, by omega, rfl, by rw [hnx]; exact hIn, by rw [hnx]; omega, by omega, by simp only [Env.get, Nat.reduceEqDiff, ↓reduceIte, hE, hnx, and_self]⟩
 have q3' : ((nd t K).kind == 3) = true := by rw [q3]; rfl
 have q2' : ((nd t K).kind == 2) = false := by rw [q3]; rfl
 have e : one2 t (chs t) b K = ⟨b.seen, (copyF t (chs t) K b.seen ((nd t K).num 0).toNat (b.vs, b.ps)).1, (copyF t (chs t) K b.seen ((nd t K).num 0).toNat (b.vs, b.ps)).2⟩ := by unfold one2; rw [if_pos q3]
 rw [e] at hnx
 have hcop := copies_le hR (hp rfl).2 hkm q3
 try refine zW (aN hE (aN hM (aN o1 (aN o2 (aN o3 (aN h0 (aN hkl (aN c1' (aN hki (aN hidx (aN on (aN q2' od)))))))))))) ?_
 generalize hB0 : s.next = B0 at *
 generalize (s.push (.cells [.int .i64 0, .nils, .nils, .nils, .int .i64 0])).set B0 (some (.cells [.int .i64 (nd t K).kind, (nd t K).dw, (nd t K).dn, (nd t K).dk, .int .i64 (nd t K).pos])) = s1 at *
 have hmem : (B0, [D.int .i64 (nd t K).kind, (nd t K).dw, (nd t K).dn, (nd t K).dk, .int .i64 (nd t K).pos]) ∈ (B0, [D.int .i64 (nd t K).kind, (nd t K).dw, (nd t K).dn, (nd t K).dk, .int .i64 (nd t K).pos]) :: R := by simp
 generalize (B0, [D.int .i64 (nd t K).kind, (nd t K).dw, (nd t K).dn, (nd t K).dk, .int .i64 (nd t K).pos]) :: R = R1 at *
 have hw := word_idx hT K2 (i := 0)
 have n0 := ndnum_idx hT K2 (i := 0)
 have z0 : ((0 : Nat) : Int) = 0 := rfl
 rw [hno.wl, z0, q3] at hw
 rw [hno.nl, z0, q3] at n0
 have hw := hw (by decide)
 have n0 := n0 (by decide)
 refine loop_cut (P := fun env s => ∃ (dv dp : D) (Ev Ep R : Hs) (ps : List (Pr × PrD)), MkI s d dc ds (((gat t).vs.length : Nat) : Int) (gat t).dead [.nils, .int .i64 0, .nils, .nils, .nils, .nils, .bool false] R0 (copyF t (chs t) K b.seen ((nd t K).num 0).toNat (b.vs, b.ps)).1 (copyF t (chs t) K b.seen ((nd t K).num 0).toNat (b.vs, b.ps)).2 dv dp Ev Ep R ps /\ (copyF t (chs t) K b.seen ((nd t K).num 0).toNat (b.vs, b.ps)).1.length <= 800 + 3200 * (i + 1) /\ ps.length <= 4 * (i + 1) /\ (env.get 0 = d /\ env.get 2 = .ptr 0 0 /\ env.get 5 = .ptr 2 0 /\ env.get 8 = .int .i64 (b.seen : Int) /\ env.get 9 = .int .i64 (i : Int))) ?_ ?_
 rotate_left
 ·clear hE
  rintro env s ⟨dv, dp, Ev, Ep, R, ps, hI, l1, l2, hE⟩
  simp only [Then, Out']
  try refine zW (aN hE hs) ?_
  exact ⟨(nd t 0).kids.length - (i + 1), by omega, i + 1, dv, dp, Ev, Ep, R, ps, by omega, rfl, by rw [hnx]; exact hI, by rw [hnx]; exact l1, l2, by simp only [Env.get, Nat.reduceEqDiff, ↓reduceIte, hE, hnx, and_self]⟩
 refine vw_loop_inv (Q := Out' 5 _) (fun n env s => ∃ (c : Nat) (dv dp : D) (Ev Ep R : Hs) (ps : List (Pr × PrD)), (c : Int) <= (nd t K).num 0 /\ n = ((nd t K).num 0).toNat - c /\
  MkI s d dc ds (((gat t).vs.length : Nat) : Int) (gat t).dead [.nils, .int .i64 0, .nils, .nils, .nils, .nils, .bool false] R0 (copyF t (chs t) K b.seen c (b.vs, b.ps)).1 (copyF t (chs t) K b.seen c (b.vs, b.ps)).2 dv dp Ev Ep R ps /\
  (B0, [D.int .i64 (nd t K).kind, (nd t K).dw, (nd t K).dn, (nd t K).dk, .int .i64 (nd t K).pos]) ∈ R /\ (copyF t (chs t) K b.seen c (b.vs, b.ps)).1.length <= 800 + 3200 * i + 800 * c /\ ps.length <= 4 * i + c /\
  (env.get 0 = d /\ env.get 2 = .ptr 0 0 /\ env.get 5 = .ptr 2 0 /\ env.get 8 = .int .i64 (b.seen : Int) /\ env.get 9 = .int .i64 (i : Int) /\ env.get 10 = .ptr B0 0 /\ env.get 11 = .int .i64 (c : Int))) ?_ ((nd t K).num 0).toNat _ _ ?_
 rotate_left
 ·exact ⟨0, dv, dp, Ev, Ep, R1, ps, by omega, rfl, hIn, hmem, by simpa [copyF] using hvb, by omega, by simp [Env.get, hE, Made.at]⟩
 clear hE hM hMl hIn hI hmem hN ov op
 rintro n env s ⟨c, dv, dp, Ev, Ep, R, ps, hc0, rfl, hI, hmem, hvb, hpb, hE⟩
 have ov := hI.v.one
 have op := hI.p.one
 have hM := Hp.get (A := [(0, _)]) hI.h
 have hMl := get_lts hM
 have hB := hI.h.r _ hmem
 have hBl := get_lts hB
 simp only at hB hBl
 by_cases c2 : (c : Int) < (nd t K).num 0
 rotate_left
 ·have c2' : ((c : Int) < (nd t K).num 0) = False := eq_false c2
  have e : c = ((nd t K).num 0).toNat := by omega
  try refine zW (aN hE (aN hB (aN q3' (aN n0 (aN c2' on))))) ?_
  rw [e] at hI hvb
  exact ⟨trivial, dv, dp, Ev, Ep, R, ps, hI, by omega, by omega, (rG hE)⟩
 have c2' : ((c : Int) < (nd t K).num 0) = True := eq_true c2
 have hsc : IntKind.i64.wrap ((c : Int) + 1) = ((c + 1 : Nat) : Int) := by rw [i64_id (by omega) (by omega)]; omega
 obtain ⟨ct1, ct2⟩ := copyF_take (t := t) (ch := chs t) (k := K) (c := c) (a := (b.vs, b.ps)) tk2
 simp only at ct1 ct2
 have hcn1 : (copyF t (chs t) K b.seen (c + 1) (b.vs, b.ps)).1 = (copyF t (chs t) K b.seen c (b.vs, b.ps)).1 ++ (locs t (nd t K)).map vrOf := rfl
 have hcn2 : (copyF t (chs t) K b.seen (c + 1) (b.vs, b.ps)).2 = (copyF t (chs t) K b.seen c (b.vs, b.ps)).2 ++ [procF t (chs t) K b.seen c (copyF t (chs t) K b.seen c (b.vs, b.ps)).1] := rfl
 generalize copyF t (chs t) K b.seen c (b.vs, b.ps) = a at *
 try refine zW (aN hE (aN hB (aN q3' (aN n0 (aN c2' (aN on hw)))))) ?_
 have hW := (hI.h.pushR [.bool false, .bool true]).newW (.cells [.str (bs []), .int .i64 0, .nils, .int .i64 0, .nils, .nils, .nils, .nils]) [.str ((nd t K).word 0), .int .i64 (c : Int), .nils, .int .i64 2, .arr s.next 0 2 1, .nils, .nils, .nils]
 simp only [Store.next_push] at hW
 generalize hs2 : ((s.push (.cells [.bool false, .bool true])).push (.cells [.str (bs []), .int .i64 0, .nils, .int .i64 0, .nils, .nils, .nils, .nils])).set (s.next + 1) (some (.cells [.str ((nd t K).word 0), .int .i64 (c : Int), .nils, .int .i64 2, .arr s.next 0 2 1, .nils, .nils, .nils])) = s2 at *
 have hsub0 : ∀ x ∈ R, x ∈ (s.next, [D.bool false, .bool true]) :: R := fun x hx => by simp [hx]
 have hrest : (s.next, [D.bool false, .bool true]) ∈ (s.next, [D.bool false, .bool true]) :: R := by simp
 generalize (s.next, [D.bool false, .bool true]) :: R = R2 at *
 have hsubI := hI.sub
 have hatI := hI.at'
 have heqI := hI.eq
 have rv := hI.v
 have rp := hI.p
 clear hI hM hMl hB hBl hs2
 refine loop_cut (P := fun env s' => ∃ (dn dx : D) (En Ex : Hs), Rp dn 1 (rowsS ((a.1.take b.seen).map Vr.name)) En /\ Rp dx 1 (rowsN (List.range b.seen)) Ex /\
  Hp s' ((s.next + 1, [.str ((nd t K).word 0), .int .i64 (c : Int), .nils, .int .i64 2, .arr s.next 0 2 1, .nils, dn, dx]) :: (0, [.nils, .int .i64 0, .nils, .nils, .nils, .nils, .bool false]) :: (2, [d, .int .i64 (((gat t).vs.length : Nat) : Int), dc, dv, dp, ds, .bool (gat t).dead]) :: (Ev ++ (Ep ++ (En ++ Ex)))) R2 /\
  (env.get 0 = d /\ env.get 2 = .ptr 0 0 /\ env.get 5 = .ptr 2 0 /\ env.get 8 = .int .i64 (b.seen : Int) /\ env.get 9 = .int .i64 (i : Int) /\ env.get 10 = .ptr B0 0 /\ env.get 11 = .int .i64 (c : Int) /\ env.get 12 = .ptr (s.next + 1) 0)) ?_ ?_
 ·refine vw_loop_inv (Q := Out' 7 _) (fun n env s' => ∃ (v : Nat) (dn dx : D) (En Ex : Hs), v <= b.seen /\ n = b.seen - v /\ Rp dn 1 (rowsS ((a.1.take v).map Vr.name)) En /\ Rp dx 1 (rowsN (List.range v)) Ex /\
   Hp s' ((s.next + 1, [.str ((nd t K).word 0), .int .i64 (c : Int), .nils, .int .i64 2, .arr s.next 0 2 1, .nils, dn, dx]) :: (0, [.nils, .int .i64 0, .nils, .nils, .nils, .nils, .bool false]) :: (2, [d, .int .i64 (((gat t).vs.length : Nat) : Int), dc, dv, dp, ds, .bool (gat t).dead]) :: (Ev ++ (Ep ++ (En ++ Ex)))) R2 /\
   (env.get 0 = d /\ env.get 2 = .ptr 0 0 /\ env.get 5 = .ptr 2 0 /\ env.get 8 = .int .i64 (b.seen : Int) /\ env.get 9 = .int .i64 (i : Int) /\ env.get 10 = .ptr B0 0 /\ env.get 11 = .int .i64 (c : Int) /\ env.get 12 = .ptr (s.next + 1) 0 /\ env.get 13 = .int .i64 (v : Int))) ?_ b.seen _ _ ?_
  rotate_left
  ·exact ⟨0, .nils, .nils, [], [], by omega, rfl, .inl ⟨rfl, rfl, rfl⟩, .inl ⟨rfl, rfl, rfl⟩, by simpa only [List.append_nil] using hW, by simp [Env.get, hE, Made.at]⟩
  clear hE hW
  rintro n env s' ⟨v, dn, dx, En, Ex, hv, rfl, rn, rx, hh, hE⟩
  by_cases c3 : v < b.seen
  rotate_left
  ·have c3' : ((v : Int) < (b.seen : Int)) = False := eq_false (by omega)
   obtain rfl : v = b.seen := by omega
   try refine zW (aN hE c3') ?_
   exact ⟨trivial, dn, dx, En, Ex, rn, rx, hh, (rG hE)⟩
  have c3' : ((v : Int) < (b.seen : Int)) = True := eq_true (by omega)
  have hsv : IntKind.i64.wrap ((v : Int) + 1) = ((v + 1 : Nat) : Int) := by rw [i64_id (by omega) (by omega)]; omega
  have hP := Hp.get (A := []) hh
  have hM := Hp.get (A := [(s.next + 1, _), (0, _)]) hh
  have hPl := get_lts hP
  have hMl := get_lts hM
  have o5 := rn.one
  have o6 := rx.one
  have hva : v < a.1.length := by omega
  obtain ⟨idv, rfl, rfl⟩ := rv.arr (by simp; omega)
  have hV := hh.w (idv, (rowsV a.1).flatten) (by simp)
  simp only at hV
  have hVl := get_lts hV
  have hfl := rowsV_flat hva
  have hrl : v < (rowsV a.1).length := by simpa using hva
  have hmn : 2 ≠ s.next + 1 := by
   have := hh.nd
   simp only [List.map_cons, List.nodup_cons, List.mem_cons] at this
   omega
  try refine zW (aN hE (aN c3' (aN hP (aN hM (aN hV (aN o5 (aN o6 (aN op (aN oc (aN os (aN od hfl))))))))))) ?_
  refine vq_app (Rp.app (row := [.str a.1[v].name]) (A := [(s.next + 1, _), (0, _), (2, _)] ++ [(idv, (rowsV a.1).flatten)] ++ Ep) (B := Ex) rn (by simpa only [List.append_assoc, List.cons_append, List.nil_append] using (hh.push _)) (get_push_new rfl) rfl (rowsS_len _) (by decide) (by simp; omega)) rfl rfl ?_
  rintro d' s'' ⟨E', rn', hh', hn'⟩
  have od' := rn'.one
  simp only [List.append_assoc, List.cons_append, List.nil_append] at hh'
  have hP' := Hp.get (A := []) hh'
  have hPl' := get_lts hP'
  have hh2 := Hp.set (A := []) hh' [.str ((nd t K).word 0), .int .i64 (c : Int), .nils, .int .i64 2, .arr s.next 0 2 1, .nils, d', dx]
  try refine zW (aN hE (aN hP' (aN od' o6))) ?_
  refine vq_app (Rp.app (row := [.int .i64 (v : Int)]) (A := [(s.next + 1, _), (0, _), (2, _)] ++ [(idv, (rowsV a.1).flatten)] ++ Ep ++ E') (B := []) rx (by simpa only [List.append_assoc, List.cons_append, List.nil_append, List.append_nil] using (hh2.push _)) (get_push_new rfl) rfl (rowsN_len _) (by decide) (by simp; omega)) rfl rfl ?_
  clear hP' hPl' hh'
  rintro d2 s3 ⟨E2, rx', hh', hn''⟩
  have od2 := rx'.one
  simp only [List.append_assoc, List.cons_append, List.nil_append, List.append_nil] at hh'
  have hP' := Hp.get (A := []) hh'
  have hPl' := get_lts hP'
  try refine zW (aN hE (aN hP' (aN od' (aN od2 hsv)))) ?_
  have hh3 := Hp.set (A := []) hh' [.str ((nd t K).word 0), .int .i64 (c : Int), .nils, .int .i64 2, .arr s.next 0 2 1, .nils, d', d2]
  refine ⟨b.seen - (v + 1), by omega, v + 1, d', d2, E', E2, by omega, rfl, ?_, ?_, hh3, (rG hE)⟩
  ·rw [take_name hva, <- rowsS_snoc]; exact rn'
  ·rw [List.range_succ, <- rowsN_snoc]; exact rx'
 clear hE hW
 rintro env s3 ⟨dn, dx, En, Ex, rn, rx, hh, hE⟩
 simp only [Then]
 have hkk := FI.len (hT.nd K2).k
 have hkl2 := bkf.length
 have hll := locN_le t (nd t K)
 rw [ks_len] at hll
 try refine zW hE ?_
 refine loop_cut (P := fun env s' => ∃ (dl dn dx dv : D) (El En Ex Ev : Hs), Rp dl 1 (rowsN ((List.range (locN t (nd t K))).map (a.1.length + ·))) El /\ Rp dn 1 (rowsS ((a.1.take b.seen).map Vr.name ++ ((locs t (nd t K)).take (locN t (nd t K))).map fun y => y.word 0)) En /\ Rp dx 1 (rowsN (List.range b.seen ++ (List.range (locN t (nd t K))).map (a.1.length + ·))) Ex /\ Rp dv 3 (rowsV (a.1 ++ ((locs t (nd t K)).take (locN t (nd t K))).map vrOf)) Ev /\
  Hp s' ((s.next + 1, [.str ((nd t K).word 0), .int .i64 (c : Int), dl, .int .i64 2, .arr s.next 0 2 1, .nils, dn, dx]) :: (0, [.nils, .int .i64 0, .nils, .nils, .nils, .nils, .bool false]) :: (2, [d, .int .i64 (((gat t).vs.length : Nat) : Int), dc, dv, dp, ds, .bool (gat t).dead]) :: (Ev ++ (Ep ++ (El ++ (En ++ Ex))))) R2 /\
  (env.get 0 = d /\ env.get 2 = .ptr 0 0 /\ env.get 5 = .ptr 2 0 /\ env.get 8 = .int .i64 (b.seen : Int) /\ env.get 9 = .int .i64 (i : Int) /\ env.get 10 = .ptr B0 0 /\ env.get 11 = .int .i64 (c : Int) /\ env.get 12 = .ptr (s.next + 1) 0 /\ env.get 14 = .int .i64 (((locN t (nd t K)) : Nat) : Int))) ?_ ?_
 ·refine vw_loop_inv (Q := Out' 9 _) (fun n env s' => ∃ (k : Nat) (dl dn dx dv : D) (El En Ex Ev : Hs), k <= locN t (nd t K) /\ n = locN t (nd t K) - k /\ Rp dl 1 (rowsN ((List.range k).map (a.1.length + ·))) El /\ Rp dn 1 (rowsS ((a.1.take b.seen).map Vr.name ++ ((locs t (nd t K)).take k).map fun y => y.word 0)) En /\ Rp dx 1 (rowsN (List.range b.seen ++ (List.range k).map (a.1.length + ·))) Ex /\ Rp dv 3 (rowsV (a.1 ++ ((locs t (nd t K)).take k).map vrOf)) Ev /\
   Hp s' ((s.next + 1, [.str ((nd t K).word 0), .int .i64 (c : Int), dl, .int .i64 2, .arr s.next 0 2 1, .nils, dn, dx]) :: (0, [.nils, .int .i64 0, .nils, .nils, .nils, .nils, .bool false]) :: (2, [d, .int .i64 (((gat t).vs.length : Nat) : Int), dc, dv, dp, ds, .bool (gat t).dead]) :: (Ev ++ (Ep ++ (El ++ (En ++ Ex))))) R2 /\
   (env.get 0 = d /\ env.get 2 = .ptr 0 0 /\ env.get 5 = .ptr 2 0 /\ env.get 8 = .int .i64 (b.seen : Int) /\ env.get 9 = .int .i64 (i : Int) /\ env.get 10 = .ptr B0 0 /\ env.get 11 = .int .i64 (c : Int) /\ env.get 12 = .ptr (s.next + 1) 0 /\ env.get 14 = .int .i64 ((k : Nat) : Int))) ?_ (locN t (nd t K)) _ _ ?_
  rotate_left
  ·exact ⟨0, .nils, dn, dx, dv, [], En, Ex, Ev, by omega, rfl, .inl ⟨rfl, rfl, rfl⟩, by simpa using rn, by simpa using rx, by simpa using rv, hh, by simp [Env.get, hE]⟩
  clear hE hh rn rx rv ov
  clear Ev dv dn dx En Ex
  rintro n env s' ⟨k, dl, dn, dx, dv, El, En, Ex, Ev, hk, rfl, rl, rn, rx, rv, hh, hE⟩
  have hB := hh.r _ (hsub0 _ hmem)
  have hBl := get_lts hB
  simp only at hB hBl
  by_cases c3 : k < locN t (nd t K)
  rotate_left
  ·obtain rfl : k = locN t (nd t K) := by omega
   by_cases c4 : locN t (nd t K) < (nd t K).kids.length
   ·have c4' : ((locN t (nd t K) : Int) < ((nd t K).kids.length : Int)) = True := eq_true (by omega)
    have hki2 := kid_idx hT hR.ok K2 c4
    have hkm2 := kid_mem c4
    have hJ := hR.ok.ks K2 _ hkm2
    have hkd : (nd t ((nd t K).kid (locN t (nd t K)))).kind ≠ 2 := by
     have h1 : locN t (nd t K) < (nd t K).ks.length := by rw [ks_len]; exact c4
     have := locN_out h1
     rw [ks_get h1] at this
     exact this
    generalize (nd t K).kid (locN t (nd t K)) = J at *
    have hidx2 := hT.at (z := (J : Int)) (by omega) (by omega) (k := .i64)
    rw [Int.toNat_natCast] at hidx2
    have hkd' : ((nd t J).kind == 2) = false := by rw [beq_eq_false_iff_ne]; exact hkd
    try refine zW (aN hE (aN hB (aN hkk (aN c4' (aN hki2 (aN hidx2 (aN hkd' on))))))) ?_
    exact ⟨trivial, dl, dn, dx, dv, El, En, Ex, Ev, rl, rn, rx, rv, hh, (rG hE)⟩
   ·have c4' : ((locN t (nd t K) : Int) < ((nd t K).kids.length : Int)) = False := eq_false (by omega)
    try refine zW (aN hE (aN hB (aN hkk (aN c4' on)))) ?_
    exact ⟨trivial, dl, dn, dx, dv, El, En, Ex, Ev, rl, rn, rx, rv, hh, (rG hE)⟩
  have c4 : k < (nd t K).kids.length := by omega
  have c4' : ((k : Int) < ((nd t K).kids.length : Int)) = True := eq_true (by omega)
  have hki2 := kid_idx hT hR.ok K2 c4
  have hkm2 := kid_mem c4
  have hJ := hR.ok.ks K2 _ hkm2
  have hkd : (nd t ((nd t K).kid k)).kind = 2 := by
   have h1 : k < (nd t K).ks.length := by rw [ks_len]; exact c4
   have := locN_in c3 h1
   rw [ks_get h1] at this
   exact this
  have hlk := locs_snoc c3
  generalize (nd t K).kid k = J at *
  have hidx2 := hT.at (z := (J : Int)) (by omega) (by omega) (k := .i64)
  rw [Int.toNat_natCast] at hidx2
  have hkd' : ((nd t J).kind == 2) = true := by rw [hkd]; rfl
  have onJ := nd_one hT hJ.2
  have hnJ := hR.ok.node J hJ.2
  have hwJ := word_idx hT hJ.2 (i := 0)
  have n0J := ndnum_idx hT hJ.2 (i := 0)
  have n1J := ndnum_idx hT hJ.2 (i := 1)
  have e1 : ((1 : Nat) : Int) = 1 := rfl
  rw [hnJ.wl, z0, hkd] at hwJ
  rw [hnJ.nl, z0, hkd] at n0J
  rw [hnJ.nl, e1, hkd] at n1J
  have hwJ := hwJ (by decide)
  have n0J := n0J (by decide)
  have n1J := n1J (by decide)
  have hsk : IntKind.i64.wrap ((k : Int) + 1) = ((k + 1 : Nat) : Int) := by rw [i64_id (by omega) (by omega)]; omega
  have hP := Hp.get (A := []) hh
  have hM := Hp.get (A := [(s.next + 1, _), (0, _)]) hh
  have hPl := get_lts hP
  have hMl := get_lts hM
  have ov := rv.one
  have hvl := rv.len
  have hlt : ((locs t (nd t K)).take k).length = k := by rw [List.length_take, locs_length]; omega
  rw [rowsV_length, List.length_append, List.length_map, hlt] at hvl
  have o5 := rn.one
  have o6 := rx.one
  have o7 := rl.one
  have hmn : 2 ≠ s.next + 1 := by
   have := hh.nd
   simp only [List.map_cons, List.nodup_cons, List.mem_cons] at this
   omega
  have hh1 := hh.newR (.cells [.int .i64 0, .nils, .nils, .nils, .int .i64 0]) [.int .i64 (nd t J).kind, (nd t J).dw, (nd t J).dn, (nd t J).dk, .int .i64 (nd t J).pos]
  try refine zW (aN hE (aN hB (aN hkk (aN c4' (aN hki2 (aN hidx2 (aN hkd' (aN on (aN onJ (aN hP (aN hM (aN o5 (aN o6 (aN o7 (aN od (aN oc (aN ov (aN op (aN os hvl))))))))))))))))))) ?_
  refine vq_app (Rp.app (row := [.int .i64 ((a.1.length + k : Nat) : Int)]) (A := [(s.next + 1, _), (0, _), (2, _)] ++ Ev ++ Ep) (B := En ++ Ex) rl (by simpa only [List.append_assoc, List.cons_append, List.nil_append, List.append_nil] using (hh1.push _)) (get_push_new rfl) rfl (rowsN_len _) (by decide) (by simp; omega)) rfl rfl ?_
  rintro d1 s1 ⟨E1, rl', hh2, hn1⟩
  clear hh hh1 hP hPl hM hMl
  have od1 := rl'.one
  simp only [List.append_assoc, List.cons_append, List.nil_append, List.append_nil] at hh2
  have hP := Hp.get (A := []) hh2
  have hPl := get_lts hP
  have hX := hh2.r _ (List.mem_cons_self)
  have hXl := get_lts hX
  simp only at hX hXl
  have hPX : s.next + 1 ≠ s'.next := hh2.ap _ (List.mem_cons_self) _ (List.mem_cons_self)
  have hh3 := Hp.set (A := []) hh2 [.str ((nd t K).word 0), .int .i64 (c : Int), d1, .int .i64 2, .arr s.next 0 2 1, .nils, dn, dx]
  try refine zW (aN hE (aN hP (aN hX (aN onJ (aN hwJ (aN od1 (aN o5 o6))))))) ?_
  refine vq_app (Rp.app (row := [.str ((nd t J).word 0)]) (A := [(s.next + 1, _), (0, _), (2, _)] ++ Ev ++ Ep ++ E1) (B := Ex) rn (by simpa only [List.append_assoc, List.cons_append, List.nil_append, List.append_nil] using (hh3.push _)) (get_push_new rfl) rfl (rowsS_len _) (by decide) (by simp; omega)) rfl rfl ?_
  rintro d2 s2 ⟨E2, rn', hh4, hn2⟩
  clear hh2 hh3 hP hPl hX hXl
  have od2 := rn'.one
  simp only [List.append_assoc, List.cons_append, List.nil_append, List.append_nil] at hh4
  have hP := Hp.get (A := []) hh4
  have hM := Hp.get (A := [(s.next + 1, _), (0, _)]) hh4
  have hPl := get_lts hP
  have hMl := get_lts hM
  have hh5 := Hp.set (A := []) hh4 [.str ((nd t K).word 0), .int .i64 (c : Int), d1, .int .i64 2, .arr s.next 0 2 1, .nils, d2, dx]
  try refine zW (aN hE (aN hP (aN hM (aN od1 (aN od2 (aN o6 (aN od (aN oc (aN ov (aN op (aN os hvl))))))))))) ?_
  refine vq_app (Rp.app (row := [.int .i64 ((a.1.length + k : Nat) : Int)]) (A := [(s.next + 1, _), (0, _), (2, _)] ++ Ev ++ Ep ++ E1 ++ E2) (B := []) rx (by simpa only [List.append_assoc, List.cons_append, List.nil_append, List.append_nil] using (hh5.push _)) (get_push_new rfl) rfl (rowsN_len _) (by decide) (by simp; omega)) rfl rfl ?_
  rintro d3 s3 ⟨E3, rx', hh6, hn3⟩
  clear hh4 hh5 hP hPl hM hMl
  have od3 := rx'.one
  simp only [List.append_assoc, List.cons_append, List.nil_append, List.append_nil] at hh6
  have hP := Hp.get (A := []) hh6
  have hPl := get_lts hP
  have hh7 := Hp.set (A := []) hh6 [.str ((nd t K).word 0), .int .i64 (c : Int), d1, .int .i64 2, .arr s.next 0 2 1, .nils, d2, d3]
  have hM := Hp.get (A := [(s.next + 1, _), (0, _)]) hh6
  have hMl := get_lts hM
  have hX := hh6.r _ (List.mem_cons_self)
  have hXl := get_lts hX
  simp only at hX hXl
  try refine zW (aN hE (aN hP (aN hM (aN hX (aN onJ (aN hwJ (aN n0J (aN n1J (aN od1 (aN od2 (aN od3 (aN od (aN oc (aN ov (aN op (aN os hvl)))))))))))))))) ?_
  refine vq_app (Rp.app (row := (vrOf (nd t J)).row) (A := [(s.next + 1, _), (0, _), (2, _)]) (B := Ep ++ (E1 ++ (E2 ++ E3))) rv (by simpa only [List.append_assoc, List.cons_append, List.nil_append, List.append_nil] using (hh7.push _)) (get_push_new rfl) rfl (rowsV_len _) (by decide) (by simp; omega)) rfl rfl ?_
  rintro d4 s4 ⟨E4, rv', hh8, hn4⟩
  clear hh6 hh7 hP hPl hM hMl hX hXl
  have od4 := rv'.one
  simp only [List.append_assoc, List.cons_append, List.nil_append, List.append_nil] at hh8
  have hM := Hp.get (A := [(s.next + 1, _), (0, _)]) hh8
  have hMl := get_lts hM
  have hh9 := Hp.set (A := [(s.next + 1, _), (0, _)]) hh8 [d, .int .i64 (((gat t).vs.length : Nat) : Int), dc, d4, dp, ds, .bool (gat t).dead]
  try refine zW (aN hE (aN hM (aN od (aN oc (aN od4 (aN op (aN os hsk))))))) ?_
  refine ⟨locN t (nd t K) - (k + 1), by omega, k + 1, d1, d2, d3, d4, E1, E2, E3, E4, by omega, rfl, ?_, ?_, ?_, ?_, ?_, (rG hE)⟩
  ·rw [range_off, <- rowsN_snoc]; exact rl'
  ·rw [hlk, List.map_append, <- List.append_assoc, List.map_singleton, <- rowsS_snoc]; exact rn'
  ·rw [range_off, <- List.append_assoc, <- rowsN_snoc]; exact rx'
  ·rw [hlk, List.map_append, <- List.append_assoc, List.map_singleton, <- rowsV_snoc]; exact rv'
  ·exact hh9.sub (List.Sublist.refl _) fun x hx => by simp [hx]
 clear hE hh rn rx rv ov
 clear Ev dv dn dx En Ex
 rintro env s3 ⟨dl, dn, dx, dv, El, En, Ex, Ev, rl, rn, rx, rv, hh, hE⟩
 have hlt : (locs t (nd t K)).take (locN t (nd t K)) = locs t (nd t K) := by rw [<- locs_length, List.take_length]
 rw [hlt] at rn rv
 have hB := hh.r _ (hsub0 _ hmem)
 have hBl := get_lts hB
 simp only at hB hBl
 have hRst := hh.r _ hrest
 simp only at hRst
 have hP := Hp.get (A := []) hh
 have hM := Hp.get (A := [(s.next + 1, _), (0, _)]) hh
 have hPl := get_lts hP
 have hMl := get_lts hM
 have ov := rv.one
 have o5 := rn.one
 have o6 := rx.one
 have o7 := rl.one
 obtain ⟨dk', hsl, hdk'⟩ := FL.drop (hT.nd K2).k (n := locN t (nd t K)) (by simpa using hll) (k := .i64)
 rw [<- List.map_drop] at hdk'
 have hdk' : FI dk' ((nd t K).kids.drop (locN t (nd t K))) := hdk'
 obtain ⟨b', hb1, hkf'⟩ := bkf.drop (locN t (nd t K))
 have hsub := (walk_ok 19 K2 bw).1
 have hsg := sight_ok hR (hp rfl).1 (i := i) (by rw [ks_len]; exact c1) hkg q3 hsub (seen := b.seen) (c := c) (vs := a.1) (by rw [ct1, tk1]) (by omega)
 have hpc := loc_proc (hno.proc q3)
 have hclo : ∀ j, j < t.length -> (K <= j /\ j < bK) -> ∀ k ∈ (nd t j).ks, K <= k /\ k < bK := fun j _ hj k hk => by
  obtain ⟨z, hz, rfl⟩ := List.mem_map.1 hk
  have := hsub.down j hj.1 hj.2 z hz
  omega
 have hat : PrAt s3 (pr0 (nd t K) c b.seen a.1 (locs t (nd t K))) ⟨dl, .arr s.next 0 2 1, .nils, dn, dx⟩ := by
  refine ⟨?_, ?_, .inl ⟨rfl, rfl⟩, ?_, ?_⟩
  ·show SN s3 1 dl (rowsN ((List.range (locs t (nd t K)).length).map (a.1.length + ·)))
   rw [locs_length]
   exact rl.sn fun x hx => hh.w x (by simp [hx])
  ·exact SN.of (rows := rowsB [false, true]) hRst rfl
  ·exact rn.sn fun x hx => hh.w x (by simp [hx])
  ·show SN s3 1 dx (rowsN (List.range b.seen ++ (List.range (locs t (nd t K)).length).map (a.1.length + ·)))
   rw [locs_length]
   exact rx.sn fun x hx => hh.w x (by simp [hx])
 have hmd : MdAt s3 ⟨d, dc, dv, dp, ds, (((gat t).vs.length : Nat) : Int), (gat t).dead⟩ t (gat t).ch := ⟨hT, fc _ fun x hx => hh.r x (hsub0 x (hsubI x hx)), ov, op, os⟩
 have hcal := sev_ev (t := t) (ch := (gat t).ch) (names := (pr0 (nd t K) c b.seen a.1 (locs t (nd t K))).names) (vars := (pr0 (nd t K) c b.seen a.1 (locs t (nd t K))).vars) (f := t.length + 1) (node := K) _ dk' b' bK hkf' hdk' (fun k hk => by
  rw [List.map_drop] at hk
  have hst := hpc.1 k hk
  have hkm := List.mem_of_mem_drop hk
  have hkk := hR.ok.ks K2 k hkm
  have hPk := hclo K K2 ⟨Nat.le_refl _, bl⟩ k hkm
  exact ⟨stat_ev hR.ok (by omega) (by simp [pr0]; omega) hclo hsg (t.length + 1) k hkk.2 hPk hst (by omega), stat_ok hR.ok hclo hsg (t.length + 1) k hkk.2 hPk hst (by omega), stat_gw hR.ok _ (t.length + 1) k hkk.2 hst (by omega)⟩)
  s3 _ _ _ 0 1 hmd hat ⟨by simp [pr0], by simp [pr0], by simp [pr0]⟩ rfl rfl (by simp [pr0]) (by simp [pr0]) 2 ⟨by simp [pr0], by simp [pr0], by simp [pr0]⟩ (by omega)
 simp only [Then]
 repeat first
 |(refine vq_p (o := .slice _ _ _ _) (d := dk') hsl ?_)
 |refine zW (aN hE (aN hP (aN hM (aN hB (aN on (aN od (aN oc (aN ov (aN op (aN os (aN o1 (aN o2 (aN o3 (aN o5 (aN o6 (aN o7 (aN h0 hki))))))))))))))))) ?_
 apply vq_evpf hcal
 ·rfl
 have hq : sevF (statF t ((gat t).ch.map Ch.name) (t.length + 1)) K (pr0 (nd t K) c b.seen a.1 (locs t (nd t K))) (((nd t K).kids.drop (locN t (nd t K))).map Int.toNat) 0 1 = procF t (chs t) K b.seen c a.1 := by
  unfold procF Nd.ks
  rw [List.map_drop]
  rfl
 rw [hq]
 clear hcal hq
 generalize procF t (chs t) K b.seen c a.1 = q at *
 rintro r s9 ⟨x9, rfl, f9, hp9, hz9⟩
 have hh9 := hh.fr f9
 have hP9 := Hp.get (A := []) hh9
 have hPl9 := get_lts hP9
 have op9 := hp9.ones
 have hp10 : PrAt (s9.set (s.next + 1) (some (.cells (prRow q x9)))) q x9 := hp9.set hP9
 have hh10 := Hp.set (A := []) hh9 (prRow q x9)
 obtain ⟨E, hE1, hE2, hE3⟩ := hp10.parts
 have hh11 := (hh10.sub (W' := (s.next + 1, prRow q x9) :: (0, [.nils, .int .i64 0, .nils, .nils, .nils, .nils, .bool false]) :: (2, [d, .int .i64 (((gat t).vs.length : Nat) : Int), dc, dv, dp, ds, .bool (gat t).dead]) :: (Ev ++ Ep)) (R' := R2) (.cons_cons _ (.cons_cons _ (.cons_cons _ (List.Sublist.append_left (List.sublist_append_left _ _) _)))) fun _ hx => hx).addR hE1 (by
  intro w hw x hx
  have hsl := hE2 x hx
  simp only [List.mem_cons, List.mem_append] at hw
  rcases hw with rfl | rfl | rfl | hw | hw
  ·exact hsl.ne_si
  ·exact hsl.ne_nil
  ·exact hsl.ne_box hT
  ·obtain ⟨a, k, n, rest, e⟩ := rv.si (rowsV_si _) w hw
   rw [e]
   exact hsl.ne_si
  ·obtain ⟨a, k, n, rest, e⟩ := rp.si (rowsP_si _) w hw
   rw [e]
   exact hsl.ne_si)
 clear hh10 hP hPl hM hMl hh
 have hM := Hp.get (A := [(s.next + 1, _), (0, _)]) hh11
 unfold prRow at hP9
 have hMl := get_lts hM
 repeat first
  |with_reducible first|apply vA|apply vB|apply vC
  |((with_reducible apply vD); (focus rfl))
  |((with_reducible first|apply vE|apply vF|apply vG|apply vH); simp only [Env.keep, Env.get, Env.ev, List.map, Nat.reduceEqDiff, ↓reduceIte, Then, Out'])
  |((with_reducible first|apply vI|apply vJ|apply vK|apply vL|apply vM|apply vN); (focus (simp (disch := (first|with_reducible assumption|omega|((repeat (first|rw [nP]|rw [nS]))<;>omega)|fail)) only [go_sem, Env.ev, Env.get, ↓reduceIte, hP9, hE, op9, prRow] <;> rfl)); (first|(with_reducible (first|apply vO|apply vP|apply vQ|apply vR|apply vS|apply vT|apply vU); try simp only [Env.put])|with_reducible refine (?_ : WQ _ _ _ _ _ _)))
  |fail
 refine wq_gen (Φ := fun s' => s' = s9.set (s.next + 1) (some (.cells (prRow q x9)))) rfl ?_
 rintro s10 rfl
 generalize s9.set (s.next + 1) (some (.cells (prRow q x9))) = s10 at *
 have hP := Hp.get (A := []) hh11
 unfold prRow at hP
 try refine zW (aN hE (aN hP (aN hM (aN op9 (aN od (aN oc (aN ov (aN op os)))))))) ?_
 refine vq_app (Rp.app (sz := 8) (bytes := 152) (row := prRow q x9) (A := [(s.next + 1, _), (0, _), (2, _)] ++ Ev) (B := []) rp (by simpa only [List.append_assoc, List.cons_append, List.nil_append, List.append_nil] using (hh11.push _)) (get_push_new rfl) rfl (rowsP_len _) (by decide) (by simp; omega)) rfl rfl ?_
 rintro d5 s5 ⟨E5, rp', hh12, hn5⟩
 have od5 := rp'.one
 simp only [List.append_assoc, List.cons_append, List.nil_append, List.append_nil] at hh12
 have hM5 := Hp.get (A := [(s.next + 1, _), (0, _)]) hh12
 have hMl5 := get_lts hM5
 have hh13 := Hp.set (A := [(s.next + 1, _), (0, _)]) hh12 [d, .int .i64 (((gat t).vs.length : Nat) : Int), dc, dv, d5, ds, .bool (gat t).dead]
 try refine zW (aN hE (aN hM5 (aN od5 (aN od (aN oc (aN ov (aN op (aN os hsc)))))))) ?_
 refine ⟨((nd t K).num 0).toNat - (c + 1), by omega, c + 1, dv, d5, Ev, E5, E ++ R2, ps ++ [(q, x9)], by omega, rfl, ⟨by rw [hcn1]; exact rv, by rw [<- rowsP_snoc]; exact rp', by rw [hcn2, List.map_append, heqI]; rfl, ?_, fun x hx => List.mem_append_right _ (hsub0 x (hsubI x hx)), ?_⟩, List.mem_append_right _ (hsub0 _ hmem), ?_, ?_, (rG hE)⟩
 ·intro y hy
  rcases List.mem_append.1 hy with hy | hy
  ·exact (hatI y hy).mono fun x hx => List.mem_append_right _ (hsub0 x hx)
  ·simp only [List.mem_singleton] at hy
   subst hy
   exact hE3.mono fun x hx => List.mem_append_left _ hx
 ·exact hh13.sub (List.sublist_cons_self _ _) fun _ hx => hx
 ·rw [hcn1]; simp only [List.length_append, List.length_map, locs_length]; omega
 ·simp only [List.length_append, List.length_singleton]; omega
end Go.Proofs.Ytlaeblilmppodaa
namespace Go.V
structure Ft where
 reads : Nat
 writes : Nat
 sends : Nat
 recvs : Nat
 sizes : Nat
 part : Bool
structure Ft.Ok (f : Ft) : Prop where
 r : f.reads < 4294967296
 w : f.writes < 4294967296
 s : f.sends < 4294967296
 v : f.recvs < 4294967296
 z : f.sizes < 4294967296
def Ft.row (f : Ft) : List D := [.int .u32 (f.reads : Int), .int .u32 (f.writes : Int), .int .u32 (f.sends : Int), .int .u32 (f.recvs : Int), .int .u32 (f.sizes : Int), .bool f.part]
def Ft.dist (a b : Ft) : Bool := decide (a.writes &&& (b.reads ||| b.writes) ≠ 0) || decide ((a.sends ||| a.recvs) &&& ((b.sends ||| b.recvs) ||| b.sizes) ≠ 0)
def Ft.apart (a b : Ft) : Bool := !a.dist b && !b.dist a
end Go.V
namespace Go.V
structure PrF (p : Pr) (x : PrD) : Prop where
 l : FL 1 x.dl (rowsN p.locals)
 r : FL 1 x.dr (rowsB p.rest)
 e : FL 8 x.de (rowsE p.edges)
 n : FL 1 x.dn (rowsS p.names)
 v : FL 1 x.dv (rowsN p.vars)
structure MoF (m : MdX) (mo : Mo) (ps : List (Pr × PrD)) : Prop where
 tr : TreeAt m.dt mo.tree
 c : FL 5 m.dc (rowsC mo.chans)
 v : FL 3 m.dv (rowsV mo.vars)
 p : FL 8 m.dp (rowsP ps)
 eq : ps.map Prod.fst = mo.procs
 at' : ∀ q ∈ ps, PrF q.1 q.2
 sf : FL 1 m.ds (rowsN mo.safe)
 g : m.g = (mo.globals : Int)
 b : m.b = mo.dead
def mapL (f : D -> Option D) : List (List D) -> Option (List (List D))
 | [] => some []
 | r :: rs => match mapO f r, mapL f rs with
   | some a, some b => some (a :: b)
   | _, _ => none
theorem mapO_append {f : D -> Option D} : ∀ {a b a' b' : List D}, mapO f a = some a' -> mapO f b = some b' -> mapO f (a ++ b) = some (a' ++ b')
 | [], b, a', b', h1, h2 => by simp only [mapO, Option.some.injEq] at h1; subst h1; simpa using h2
 | d :: r, b, a', b', h1, h2 => by
   simp only [mapO] at h1
   split at h1
   ·rename_i x l e1 e2
    simp only [Option.some.injEq] at h1
    subst h1
    rw [List.cons_append, mapO, e1, mapO_append e2 h2]
    rfl
   ·cases h1
theorem mapO_len {f : D -> Option D} : ∀ {a a' : List D}, mapO f a = some a' -> a'.length = a.length
 | [], a', h => by simp only [mapO, Option.some.injEq] at h; subst h; rfl
 | d :: r, a', h => by
   simp only [mapO] at h
   split at h
   ·rename_i x l e1 e2
    simp only [Option.some.injEq] at h
    subst h
    simp [mapO_len e2]
   ·cases h
theorem mapL_flat {f : D -> Option D} : ∀ {rows rows' : List (List D)}, mapL f rows = some rows' -> mapO f rows.flatten = some rows'.flatten /\ rows'.length = rows.length
 | [], rows', h => by simp only [mapL, Option.some.injEq] at h; subst h; exact ⟨rfl, rfl⟩
 | r :: rs, rows', h => by
   simp only [mapL] at h
   split at h
   ·rename_i a b e1 e2
    simp only [Option.some.injEq] at h
    subst h
    obtain ⟨h1, h2⟩ := mapL_flat e2
    exact ⟨by simp only [List.flatten_cons]; exact mapO_append e1 h1, by simp [h2]⟩
   ·cases h
theorem mapL_len {f : D -> Option D} {sz : Nat} : ∀ {rows rows' : List (List D)}, mapL f rows = some rows' -> (∀ r ∈ rows, r.length = sz) -> ∀ r ∈ rows', r.length = sz
 | [], rows', h, _ => by simp only [mapL, Option.some.injEq] at h; subst h; simp
 | r :: rs, rows', h, hr => by
   simp only [mapL] at h
   split at h
   ·rename_i a b e1 e2
    simp only [Option.some.injEq] at h
    subst h
    intro y hy
    rcases List.mem_cons.1 hy with rfl | hy
    ·rw [mapO_len e1]; exact hr r (by simp)
    ·exact mapL_len e2 (fun x hx => hr x (by simp [hx])) y hy
   ·cases h
theorem chunk_flat {sz : Nat} : ∀ {rows : List (List D)}, (∀ r ∈ rows, r.length = sz) -> chunk sz rows.length rows.flatten = rows
 | [], _ => rfl
 | r :: rs, h => by
   have hr := h r (by simp)
   rw [List.length_cons, chunk, List.flatten_cons]
   rw [List.take_append_of_le_length (by omega), List.take_of_length_le (by omega), List.drop_append_of_le_length (by omega), List.drop_of_length_le (by omega), List.nil_append, chunk_flat fun x hx => h x (by simp [hx])]
theorem SN.frz {s : Store} {sz : Nat} {d : D} {rows rows' : List (List D)} {n : Nat} (h : SN s sz d rows) (hr : ∀ r ∈ rows, r.length = sz) (hm : mapL (ice s.get n) rows = some rows') (hl : d = .lst sz rows -> rows' = rows) : ∃ d', ice s.get (n + 1) d = some d' /\ FL sz d' rows' := by
 rcases h with ⟨rfl, rfl⟩ | ⟨id, rfl, hg⟩ | rfl
 ·simp only [mapL, Option.some.injEq] at hm
  exact ⟨.nils, rfl, .inl ⟨rfl, hm.symm⟩⟩
 ·have hrow := (SN.row (s := s) (.inr (.inl ⟨id, rfl, hg⟩)) hr).1
  obtain ⟨h1, h2⟩ := mapL_flat hm
  refine ⟨.lst sz rows', ?_, .inr rfl⟩
  simp only [ice, hrow, h1, Option.map_some]
  rw [<- h2, chunk_flat (mapL_len hm hr)]
 ·exact ⟨.lst sz rows, rfl, .inr (by rw [hl rfl])⟩
theorem mapL_scal {g : Look} {n : Nat} : ∀ {rows : List (List D)}, (∀ r ∈ rows, r.all scal1 = true) -> mapL (ice g (n + 1)) rows = some rows
 | [], _ => rfl
 | r :: rs, h => by
   rw [mapL, mapO_ice (h r (by simp)), mapL_scal fun x hx => h x (by simp [hx])]
theorem SN.frz1 {s : Store} {sz : Nat} {d : D} {rows : List (List D)} {n : Nat} (h : SN s sz d rows) (hr : ∀ r ∈ rows, r.length = sz) (hs : ∀ r ∈ rows, r.all scal1 = true) : ∃ d', ice s.get (n + 2) d = some d' /\ FL sz d' rows := h.frz hr (mapL_scal hs) fun _ => rfl
theorem rowsN_scal (l : List Nat) : ∀ r ∈ rowsN l, r.all scal1 = true := by intro r h; obtain ⟨b, _, rfl⟩ := List.mem_map.1 h; rfl
theorem rowsB_scal (l : List Bool) : ∀ r ∈ rowsB l, r.all scal1 = true := by intro r h; obtain ⟨b, _, rfl⟩ := List.mem_map.1 h; rfl
theorem rowsS_scal (l : List ByteArray) : ∀ r ∈ rowsS l, r.all scal1 = true := by intro r h; obtain ⟨b, _, rfl⟩ := List.mem_map.1 h; rfl
theorem rowsE_scal (l : List Ed) : ∀ r ∈ rowsE l, r.all scal1 = true := by intro r h; obtain ⟨b, _, rfl⟩ := List.mem_map.1 h; rfl
theorem rowsC_scal (l : List Ch) : ∀ r ∈ rowsC l, r.all scal1 = true := by intro r h; obtain ⟨b, _, rfl⟩ := List.mem_map.1 h; rfl
theorem rowsV_scal (l : List Vr) : ∀ r ∈ rowsV l, r.all scal1 = true := by intro r h; obtain ⟨b, _, rfl⟩ := List.mem_map.1 h; rfl
theorem PrAt.frz {s : Store} {p : Pr} {x : PrD} (h : PrAt s p x) (n : Nat) : ∃ x', mapO (ice s.get (n + 2)) (prRow p x) = some (prRow p x') /\ PrF p x' := by
 obtain ⟨dl, a1, b1⟩ := h.l.frz1 (n := n) (rowsN_len _) (rowsN_scal _)
 obtain ⟨dr, a2, b2⟩ := h.r.frz1 (n := n) (rowsB_len _) (rowsB_scal _)
 obtain ⟨de, a3, b3⟩ := h.e.frz1 (n := n) (rowsE_len _) (rowsE_scal _)
 obtain ⟨dn, a4, b4⟩ := h.n.frz1 (n := n) (rowsS_len _) (rowsS_scal _)
 obtain ⟨dv, a5, b5⟩ := h.v.frz1 (n := n) (rowsN_len _) (rowsN_scal _)
 refine ⟨⟨dl, dr, de, dn, dv⟩, ?_, b1, b2, b3, b4, b5⟩
 simp only [prRow, mapO, ice, a1, a2, a3, a4, a5]
theorem procs_frz {s : Store} (n : Nat) : ∀ {ps : List (Pr × PrD)}, (∀ q ∈ ps, PrAt s q.1 q.2) -> ∃ ps', mapL (ice s.get (n + 2)) (rowsP ps) = some (rowsP ps') /\ ps'.map Prod.fst = ps.map Prod.fst /\ ∀ q ∈ ps', PrF q.1 q.2
 | [], _ => ⟨[], rfl, rfl, by simp⟩
 | q :: qs, h => by
   obtain ⟨x', h1, h2⟩ := (h q (by simp)).frz n
   obtain ⟨ps', h3, h4, h5⟩ := procs_frz n (ps := qs) fun y hy => h y (by simp [hy])
   refine ⟨(q.1, x') :: ps', ?_, by simp [h4], ?_⟩
   ·simp only [rowsP, List.map_cons] at h3 ⊢
    simp only [mapL, h1, h3]
   ·intro y hy
    rcases List.mem_cons.1 hy with rfl | hy
    ·exact h2
    ·exact h5 y hy
theorem MoAt.frz {s : Store} {m : MdX} {mo : Mo} {ps : List (Pr × PrD)} (h : MoAt s m mo ps) (hn : m.dp ≠ .lst 8 (rowsP ps)) (b : Bool) : ∃ m' ps', ice s.get 20 (.tup [.agg (mdRow m), .bool b]) = some (.tup [.agg (mdRow m'), .bool b]) /\ MoF m' mo ps' := by
 obtain ⟨dc, a1, b1⟩ := h.c.frz1 (n := 16) (rowsC_len _) (rowsC_scal _)
 obtain ⟨dv, a2, b2⟩ := h.v.frz1 (n := 16) (rowsV_len _) (rowsV_scal _)
 obtain ⟨ds, a3, b3⟩ := h.sf.frz1 (n := 16) (rowsN_len _) (rowsN_scal _)
 obtain ⟨ps', h1, h2, h3⟩ := procs_frz 15 h.at'
 obtain ⟨dp, a4, b4⟩ := h.p.frz (n := 17) (rowsP_len _) h1 (fun e => (hn e).elim)
 have a5 : ice s.get 18 m.dt = some m.dt := h.tr.fl.ice
 refine ⟨⟨m.dt, dc, dv, dp, ds, m.g, m.b⟩, ps', ?_, ⟨h.tr, b1, b2, b4, h2.trans h.eq, h3, b3, h.g, h.b⟩⟩
 have e1 : ice s.get 18 (.int .i64 m.g) = some (.int .i64 m.g) := rfl
 have e2 : ice s.get 18 (.bool m.b) = some (.bool m.b) := rfl
 have e3 : mapO (ice s.get 18) (mdRow m) = some (mdRow ⟨m.dt, dc, dv, dp, ds, m.g, m.b⟩) := by
  simp only [mdRow, mapO, a5, e1, a1, a2, a4, a3, e2]
 have e4 : ice s.get 19 (.agg (mdRow m)) = some (.agg (mdRow ⟨m.dt, dc, dv, dp, ds, m.g, m.b⟩)) := by
  simp only [ice, e3, Option.map_some]
 have e5 : ice s.get 19 (.bool b) = some (.bool b) := rfl
 show (mapO (ice s.get 19) [.agg (mdRow m), .bool b]).map D.tup = _
 simp only [mapO, e4, e5, Option.map_some]
theorem MoF.fz {m : MdX} {mo : Mo} {ps : List (Pr × PrD)} (h : MoF m mo ps) : Fz (.agg (mdRow m)) := fz_agg fun d hd => by
 simp only [mdRow, List.mem_cons, List.not_mem_nil, or_false] at hd
 rcases hd with rfl | rfl | rfl | rfl | rfl | rfl | rfl
 ·exact FL.ic h.tr.fl
 ·exact fun _ _ => rfl
 ·exact FL.ic h.c
 ·exact FL.ic h.v
 ·exact FL.ic h.p
 ·exact FL.ic h.sf
 ·exact fun _ _ => rfl
theorem MoF.ones {m : MdX} {mo : Mo} {ps : List (Pr × PrD)} (h : MoF m mo ps) : oneCell m.dt = true /\ oneCell m.dc = true /\ oneCell m.dv = true /\ oneCell m.dp = true /\ oneCell m.ds = true := ⟨FL.one h.tr.fl, h.c.one, h.v.one, h.p.one, h.sf.one⟩
theorem PrF.ones {p : Pr} {x : PrD} (h : PrF p x) : oneCell x.dl = true /\ oneCell x.dr = true /\ oneCell x.de = true /\ oneCell x.dn = true /\ oneCell x.dv = true := ⟨h.l.one, h.r.one, h.e.one, h.n.one, h.v.one⟩
theorem PrF.fz {p : Pr} {x : PrD} (h : PrF p x) : Fz (.agg (prRow p x)) := fz_agg fun d hd => by
 simp only [prRow, List.mem_cons, List.not_mem_nil, or_false] at hd
 rcases hd with rfl | rfl | rfl | rfl | rfl | rfl | rfl | rfl
 ·exact fun _ _ => rfl
 ·exact fun _ _ => rfl
 ·exact FL.ic h.l
 ·exact fun _ _ => rfl
 ·exact FL.ic h.r
 ·exact FL.ic h.e
 ·exact FL.ic h.n
 ·exact FL.ic h.v
theorem MoF.plen {m : MdX} {mo : Mo} {ps : List (Pr × PrD)} (h : MoF m mo ps) : ps.length = mo.procs.length := by rw [<- h.eq, List.length_map]
theorem MoF.proc {m : MdX} {mo : Mo} {ps : List (Pr × PrD)} (h : MoF m mo ps) {i : Nat} (hi : i < mo.procs.length) : ∃ x, PrF mo.procs[i] x /\ ∀ k : IntKind, idxAV 8 m.dp (.int k (i : Int)) = some (.fp (prRow mo.procs[i] x) 0) := by
 have hi' : i < ps.length := by rw [h.plen]; exact hi
 have e : mo.procs[i] = ps[i].1 := by simp [<- h.eq]
 rw [e]
 refine ⟨ps[i].2, h.at' _ (List.getElem_mem hi'), fun k => ?_⟩
 rw [h.p.idx (by simpa using hi')]
 simp [rowsP]
theorem MoF.lenP {m : MdX} {mo : Mo} {ps : List (Pr × PrD)} (h : MoF m mo ps) : lenV false m.dp = some (.int .i64 (mo.procs.length : Int)) := by rw [h.p.len, rowsP_length, h.plen]
theorem FLN.idx {d : D} {l : List Nat} (h : FL 1 d (rowsN l)) {i : Nat} (hi : i < l.length) {k : IntKind} : idxAV 1 d (.int k (i : Int)) = some (.fp [.int .i64 (l[i] : Int)] 0) := by
 rw [h.idx (by simpa using hi)]; simp [rowsN]
theorem FLS.idx {d : D} {l : List ByteArray} (h : FL 1 d (rowsS l)) {i : Nat} (hi : i < l.length) {k : IntKind} : idxAV 1 d (.int k (i : Int)) = some (.fp [.str l[i]] 0) := by
 rw [h.idx (by simpa using hi)]; simp [rowsS]
theorem FLB.idx {d : D} {l : List Bool} (h : FL 1 d (rowsB l)) {i : Nat} (hi : i < l.length) {k : IntKind} : idxAV 1 d (.int k (i : Int)) = some (.fp [.bool l[i]] 0) := by
 rw [h.idx (by simpa using hi)]; simp [rowsB]
theorem FLE.idx {d : D} {l : List Ed} (h : FL 8 d (rowsE l)) {i : Nat} (hi : i < l.length) {k : IntKind} : idxAV 8 d (.int k (i : Int)) = some (.fp l[i].row 0) := by
 rw [h.idx (by simpa using hi)]; simp [rowsE]
theorem FLC.idx {d : D} {l : List Ch} (h : FL 5 d (rowsC l)) {i : Nat} (hi : i < l.length) {k : IntKind} : idxAV 5 d (.int k (i : Int)) = some (.fp l[i].row 0) := by
 rw [h.idx (by simpa using hi)]; simp [rowsC]
theorem FLV.idx {d : D} {l : List Vr} (h : FL 3 d (rowsV l)) {i : Nat} (hi : i < l.length) {k : IntKind} : idxAV 3 d (.int k (i : Int)) = some (.fp l[i].row 0) := by
 rw [h.idx (by simpa using hi)]; simp [rowsV]
end Go.V
namespace Go.V
def csum (t : List Nd) (kind : Int) : Nat -> Int
 | 0 => 0
 | i + 1 => csum t kind i + if (nd t i).kind = kind then stepF t kind i else 0
theorem csum_eq {t : List Nd} {kind : Int} : ∀ {n : Nat}, sumF t kind n < 100 -> sumF t kind n = csum t kind n
 | 0, _ => rfl
 | n + 1, h => by
   rw [csum]
   rw [sumF] at h ⊢
   by_cases c : (nd t n).kind = kind
   ·by_cases d : sumF t kind n < 100
    ·rw [if_pos ⟨d, c⟩, if_pos c, csum_eq d]
    ·rw [if_neg (by omega)] at h
     omega
   ·rw [if_neg (by omega)] at h ⊢
    rw [if_neg c, csum_eq h]
    omega
theorem sum_le {t : List Nd} {kind B : Int} (hB : 0 <= B) (h : ∀ i, i < t.length -> (nd t i).kind = kind -> sumF t kind (i + 1) <= B) : ∀ {n : Nat}, n <= t.length -> sumF t kind n <= B
 | 0, _ => by simpa [sumF] using hB
 | n + 1, hn => by
   by_cases c : (nd t n).kind = kind
   ·exact h n (by omega) c
   ·rw [sumF, if_neg (by omega)]
    exact sum_le hB h (by omega)
theorem total_le {t : List Nd} {kind B : Int} (hB : 0 <= B) (hB2 : B < 100) (h : ∀ i, i < t.length -> (nd t i).kind = kind -> sumF t kind (i + 1) <= B) : csum t kind t.length <= B := by
 have := sum_le hB h (Nat.le_refl t.length)
 rw [csum_eq (by omega)] at this
 exact this
def adds (t : List Nd) (kind : Int) (w : Nat -> Nat) (ks : List Int) : Int := (ks.map fun k => ((w k.toNat : Nat) : Int)).sum
theorem csum_items {t : List Nd} {kind : Int} {w : Nat -> Nat} : ∀ {ks : List Int} {a n : Nat}, Subs t ks a n -> (∀ (k b : Nat), (k : Int) ∈ ks -> Sub t k b -> csum t kind b = csum t kind k + ((w k : Nat) : Int)) -> csum t kind n = csum t kind a + adds t kind w ks
 | [], a, n, h, _ => by simp only [Subs] at h; subst h; simp [adds]
 | k :: ks, a, n, h, hw => by
   obtain ⟨rfl, b, h1, h2⟩ := h
   rw [csum_items h2 fun k b hk hs => hw k b (by simp [hk]) hs, hw a b (by simp) h1]
   simp only [adds, List.map_cons, List.sum_cons, Int.toNat_natCast]
   omega
theorem csum_none {t : List Nd} {kind : Int} {a : Nat} : ∀ {b : Nat}, a <= b -> (∀ j, a <= j -> j < b -> (nd t j).kind ≠ kind) -> csum t kind b = csum t kind a
 | 0, h, _ => by
   obtain rfl : a = 0 := by omega
   rfl
 | b + 1, h, hn => by
   by_cases e : a = b + 1
   ·subst e; rfl
   ·rw [csum, if_neg (hn b (by omega) (by omega)), csum_none (b := b) (by omega) fun j h1 h2 => hn j h1 (by omega)]
    omega
theorem loc_kids {t : List Nd} (h : RightT t) {g : Nat} : ∀ {ks : List Int} {a n : Nat}, KF t g ks a n -> n <= t.length -> ∀ l, l < ((ks.map Int.toNat).takeWhile fun k => (nd t k).kind == 2).length -> ∃ hl : l < ks.length, ks[l].toNat = a + l
 | [], a, n, _, _, l, hl => by simp at hl
 | z :: zs, a, n, hk, hn, l, hl => by
   obtain ⟨rfl, h1, b, h2, h3, h4, h5⟩ := hk.cons
   rw [List.map_cons, List.takeWhile_cons] at hl
   split at hl
   ·rename_i h2k
    have hk2 : (nd t a).kind = 2 := by simpa using h2k
    cases l with
    | zero => exact ⟨by simp, by simp⟩
    | succ l =>
      obtain ⟨g', rfl, hkk⟩ := walk_kf h2
      rw [(h.ok.node a h1).none (by omega)] at hkk
      obtain rfl := hkk.nil
      obtain ⟨i1, i2⟩ := loc_kids h h5 hn l (by simpa using hl)
      exact ⟨by simpa using i1, by simp only [List.getElem_cons_succ]; omega⟩
   ·simp at hl
theorem loc_at {t : List Nd} (h : RightT t) {k : Nat} (hk : k ∈ (nd t 0).ks) {l : Nat} (hl : l < locN t (nd t k)) : (nd t k).kid l = k + 1 + l := by
 obtain ⟨k1, k2, b, b1, b2, b3, b4⟩ := h.item hk
 obtain ⟨i1, i2⟩ := loc_kids h b4 b3 l hl
 rw [kid_get i1, i2]
theorem csum_var3 {t : List Nd} (h : RightT t) (hT : Typed t) {k b : Nat} (hk : k ∈ (nd t 0).ks) (h3 : (nd t k).kind = 3) (hs : Sub t k b) : csum t 2 b = csum t 2 k + ((((nd t k).num 0).toNat * locN t (nd t k) : Nat) : Int) := by
 have hc := copies_le h hT hk h3
 have hit := item_range h hk hs
 have hkl : k < t.length := by have := hs.lt; have := hs.le; omega
 have hp := loc_proc ((h.ok.node k hkl).proc h3)
 have hst : ∀ j, k <= j -> j < b -> stepF t 2 j = (nd t k).num 0 := fun j h1 h2 => by
  unfold stepF copiesF
  rw [if_neg (by decide), hit j h1 h2, if_pos h3]
  omega
 have hkb : ∀ l, l < locN t (nd t k) -> k + 1 + l < b /\ (nd t (k + 1 + l)).kind = 2 := fun l hl => by
  have hll := locN_le t (nd t k)
  have hl' : l < (nd t k).ks.length := by omega
  have e := locN_in hl hl'
  have e2 := loc_at h hk hl
  rw [ks_get hl', e2] at e
  have hm : k + 1 + l ∈ (nd t k).ks := by rw [<- e2]; exact kid_mem (by rw [<- ks_len]; exact hl')
  obtain ⟨z, hz, ez⟩ := List.mem_map.1 hm
  have := hs.down k (Nat.le_refl _) hs.lt z hz
  exact ⟨by omega, e⟩
 have pre : ∀ l, l <= locN t (nd t k) -> csum t 2 (k + 1 + l) = csum t 2 k + (nd t k).num 0 * (l : Int) := by
  intro l
  induction l with
  | zero =>
    intro _
    show csum t 2 (k + 1) = _
    rw [csum, if_neg (by omega)]
    simp
  | succ l ih =>
    intro hl
    have hb := hkb l (by omega)
    show csum t 2 (k + 1 + l + 1) = _
    rw [csum, if_pos hb.2, hst (k + 1 + l) (by omega) hb.1, ih (by omega), Int.natCast_succ, Int.mul_add]
    omega
 have hle : k + 1 + locN t (nd t k) <= b := by
  have := hs.lt
  rcases Nat.eq_zero_or_pos (locN t (nd t k)) with e | e
  ·omega
  ·have := hkb (locN t (nd t k) - 1) (by omega)
   omega
 rw [csum_none hle fun j j1 j2 e => ?_, pre _ (Nat.le_refl _)]
 ·rw [Int.natCast_mul, Int.toNat_of_nonneg (by omega)]
 ·have hjl : j < t.length := by have := hs.le; omega
  have hij := hit j (by omega) j2
  rcases var_kind h hjl e with v | ⟨p, p1, p2, p3⟩
  ·have := item_self h (ks_z h v)
   omega
  ·obtain ⟨q1, q2, c, c1, c2, c3, c4⟩ := h.item p1
   have hpm : j ∈ (nd t p).ks := List.mem_of_mem_take p3
   have hsp := (walk_ok 19 q2 c1).1
   obtain ⟨z, hz, ez⟩ := List.mem_map.1 hpm
   have hd := hsp.down p (Nat.le_refl _) hsp.lt z hz
   have := item_range h p1 hsp j (by omega) (by omega)
   obtain rfl : p = k := by omega
   obtain ⟨l, hl, e2⟩ := List.getElem_of_mem p3
   have hl' : l < locN t (nd t p) := by simp at hl; omega
   rw [List.getElem_take, ks_get (by simp at hl; omega), loc_at h p1 hl'] at e2
   omega
def varW (t : List Nd) (k : Nat) : Nat := if (nd t k).kind = 2 then 1 else if (nd t k).kind = 3 then ((nd t k).num 0).toNat * locN t (nd t k) else 0
theorem csum_var {t : List Nd} (h : RightT t) (hT : Typed t) {k b : Nat} (hk : k ∈ (nd t 0).ks) (hs : Sub t k b) : csum t 2 b = csum t 2 k + ((varW t k : Nat) : Int) := by
 unfold varW
 have hkl : k < t.length := by have := hs.lt; have := hs.le; omega
 by_cases c2 : (nd t k).kind = 2
 ·rw [if_pos c2]
  have hb : b = k + 1 := by
   have := hs.lt
   by_cases e : b = k + 1
   ·exact e
   ·obtain ⟨p, p1, p2, p3⟩ := hs.up (k + 1) (by omega) (by omega)
    have := hs.down p p1 p2 _ p3
    obtain rfl : p = k := by omega
    rw [(h.ok.node p hkl).none (by omega)] at p3
    simp at p3
  subst hb
  rw [csum, if_pos c2]
  unfold stepF copiesF
  rw [item_self h (ks_z h hk), if_neg (by decide), if_neg (by omega)]
  rfl
 rw [if_neg c2]
 by_cases c3 : (nd t k).kind = 3
 ·rw [if_pos c3]
  exact csum_var3 h hT hk c3 hs
 rw [if_neg c3]
 rw [csum_none (a := k) (by have := hs.lt; omega)]
 ·simp
 intro j j1 j2 e
 have hjl : j < t.length := by have := hs.le; omega
 have hij := item_range h hk hs j j1 j2
 rcases var_kind h hjl e with v | ⟨p, p1, p2, p3⟩
 ·have := item_self h (ks_z h v)
  obtain rfl : j = k := by omega
  exact c2 e
 ·obtain ⟨q1, q2, c, e1, e2, e3, e4⟩ := h.item p1
  have hpm : j ∈ (nd t p).ks := List.mem_of_mem_take p3
  have hsp := (walk_ok 19 q2 e1).1
  obtain ⟨z, hz, ez⟩ := List.mem_map.1 hpm
  have hd := hsp.down p (Nat.le_refl _) hsp.lt z hz
  have := item_range h p1 hsp j (by omega) (by omega)
  obtain rfl : p = k := by omega
  exact c3 p2
end Go.V
namespace Go.V
structure Org where
 k : Nat
 seen : Nat
 c : Nat
 nv : Nat
def pr1 (t : List Nd) (o : Org) : Pr :=
 ⟨(nd t o.k).word 0, o.c, (List.range (locN t (nd t o.k))).map (o.nv + ·), 2, [false, true], [], ((gat t).vs.take o.seen).map Vr.name ++ (locs t (nd t o.k)).map (fun y => y.word 0), List.range o.seen ++ (List.range (locN t (nd t o.k))).map (o.nv + ·)⟩
def proc1 (t : List Nd) (o : Org) : Pr := sevF (statF t (chs t) (t.length + 1)) o.k (pr1 t o) ((nd t o.k).ks.drop (locN t (nd t o.k))) 0 1
def orgC (t : List Nd) (k seen nv n : Nat) : List Org := (List.range n).map fun c => ⟨k, seen, c, nv + c * locN t (nd t k)⟩
structure Gc where
 seen : Nat
 nv : Nat
 l : List Org
def one3 (t : List Nd) (a : Gc) (k : Nat) : Gc :=
 if (nd t k).kind = 3 then ⟨a.seen, a.nv + ((nd t k).num 0).toNat * locN t (nd t k), a.l ++ orgC t k a.seen a.nv ((nd t k).num 0).toNat⟩
 else if (nd t k).kind = 2 then ⟨a.seen + 1, a.nv, a.l⟩ else a
def pass3 (t : List Nd) (l : List Nat) : Gc := l.foldl (one3 t) ⟨0, (gat t).vs.length, []⟩
def orgs (t : List Nd) : List Org := (pass3 t (nd t 0).ks).l
theorem procF_eq {t : List Nd} {k seen c nv : Nat} {vs : List Vr} (h1 : vs.length = nv) (h2 : vs.take seen = (gat t).vs.take seen) : procF t (chs t) k seen c vs = proc1 t ⟨k, seen, c, nv⟩ := by
 unfold procF proc1 pr0 pr1
 rw [h2, h1, locs_length]
theorem copyF_org {t : List Nd} {k seen nv : Nat} {a : List Vr × List Pr} (h1 : a.1.length = nv) (h2 : a.1.take seen = (gat t).vs.take seen) (h3 : seen <= a.1.length) : ∀ c, (copyF t (chs t) k seen c a).1.length = nv + c * locN t (nd t k) /\ (copyF t (chs t) k seen c a).2 = a.2 ++ (orgC t k seen nv c).map (proc1 t)
 | 0 => by simp [copyF, h1, orgC]
 | c + 1 => by
   obtain ⟨i1, i2⟩ := copyF_org (k := k) h1 h2 h3 c
   have h4 := (copyF_take (t := t) (ch := chs t) (k := k) (c := c) h3).1
   refine ⟨?_, ?_⟩
   ·simp only [copyF, List.length_append, List.length_map, locs_length, i1]
    rw [Nat.succ_mul]; omega
   ·simp only [copyF, i2]
    rw [procF_eq i1 (h4.trans h2)]
    simp [orgC, List.range_succ]
theorem pass3_snoc (t : List Nd) (l : List Nat) (k : Nat) : pass3 t (l ++ [k]) = one3 t (pass3 t l) k := by simp [pass3]
structure GcR (t : List Nd) (b : Gb) (a : Gc) : Prop where
 seen : b.seen = a.seen
 nv : b.vs.length = a.nv
 pre : ∃ m, b.vs = (gat t).vs ++ m
 ps : b.ps = a.l.map (proc1 t)
theorem pass3_eq (t : List Nd) : ∀ (n : Nat), n <= (nd t 0).ks.length -> GcR t (pass2 t (chs t) (gat t).vs ((nd t 0).ks.take n)) (pass3 t ((nd t 0).ks.take n))
 | 0, _ => ⟨rfl, rfl, ⟨[], by simp [pass2]⟩, rfl⟩
 | n + 1, hn => by
   have ih := pass3_eq t n (by omega)
   have htk := pass2_take t (chs t) n
   have e : (nd t 0).ks.take (n + 1) = (nd t 0).ks.take n ++ [(nd t 0).ks[n]] := List.take_succ_eq_append_getElem (by omega)
   obtain ⟨m2, hm2⟩ := pass2_pre t (chs t) (gat t).vs ((nd t 0).ks.take (n + 1))
   rw [e] at hm2 ⊢
   rw [pass2_snoc] at hm2 ⊢
   have e3 : pass3 t ((nd t 0).ks.take n ++ [(nd t 0).ks[n]]) = one3 t (pass3 t ((nd t 0).ks.take n)) (nd t 0).ks[n] := pass3_snoc t _ _
   rw [e3]
   generalize (nd t 0).ks[n] = k at *
   generalize pass2 t (chs t) (gat t).vs ((nd t 0).ks.take n) = b at *
   generalize pass3 t ((nd t 0).ks.take n) = a at *
   obtain ⟨m, hm⟩ := ih.pre
   unfold one2 one3 at *
   by_cases c3 : (nd t k).kind = 3
   ·rw [if_pos c3] at hm2
    rw [if_pos c3, if_pos c3]
    have hs : b.vs.take b.seen = (gat t).vs.take b.seen := by rw [hm, List.take_append_of_le_length htk.2.2]
    obtain ⟨i1, i2⟩ := copyF_org (t := t) (k := k) (seen := b.seen) (nv := a.nv) (a := (b.vs, b.ps)) ih.nv hs htk.2.1 ((nd t k).num 0).toNat
    refine ⟨ih.seen, i1, ⟨m2, hm2⟩, ?_⟩
    show (copyF t (chs t) k b.seen ((nd t k).num 0).toNat (b.vs, b.ps)).2 = _
    rw [i2, List.map_append, <- ih.ps, ih.seen]
   ·rw [if_neg c3, if_neg c3]
    by_cases c2 : (nd t k).kind = 2
    ·rw [if_pos c2, if_pos c2]
     exact ⟨by simp [ih.seen], ih.nv, ih.pre, ih.ps⟩
    ·rw [if_neg c2, if_neg c2]
     exact ih
theorem orgs_eq (t : List Nd) : (gbt t).ps = (orgs t).map (proc1 t) /\ (gbt t).vs.length = (pass3 t (nd t 0).ks).nv := by
 have h := pass3_eq t (nd t 0).ks.length (Nat.le_refl _)
 rw [List.take_length] at h
 exact ⟨h.ps, h.nv⟩
structure OrgOk (t : List Nd) (nv : Nat) (o : Org) : Prop where
 at' : ∃ i, ∃ hi : i < (nd t 0).ks.length, (nd t 0).ks[i] = o.k /\ o.seen = (pass1 t ((nd t 0).ks.take i)).vs.length
 kind : (nd t o.k).kind = 3
 c : (o.c : Int) < (nd t o.k).num 0
 lo : (gat t).vs.length <= o.nv
 hi : o.nv + locN t (nd t o.k) <= nv
theorem orgs_ok (t : List Nd) : ∀ n, n <= (nd t 0).ks.length -> (gat t).vs.length <= (pass3 t ((nd t 0).ks.take n)).nv /\ (pass3 t ((nd t 0).ks.take n)).seen = (pass1 t ((nd t 0).ks.take n)).vs.length /\ ∀ o ∈ (pass3 t ((nd t 0).ks.take n)).l, OrgOk t (pass3 t ((nd t 0).ks.take n)).nv o
 | 0, _ => by simp [pass3, pass1]
 | n + 1, hn => by
   obtain ⟨i1, i2, i3⟩ := orgs_ok t n (by omega)
   have hs := pass3_eq t (n + 1) hn
   have hs1 := hs.seen
   rw [seen_eq] at hs1
   refine ⟨?_, hs1.symm, ?_⟩
   ·obtain ⟨m, hm⟩ := hs.pre
    have := hs.nv
    rw [hm, List.length_append] at this
    omega
   ·rw [List.take_succ_eq_append_getElem (by omega), pass3_snoc]
    intro o ho
    unfold one3 at ho ⊢
    by_cases c3 : (nd t (nd t 0).ks[n]).kind = 3
    ·rw [if_pos c3] at ho ⊢
     rcases List.mem_append.1 ho with ho | ho
     ·have := i3 o ho
      exact ⟨this.at', this.kind, this.c, this.lo, by have := this.hi; simp only; omega⟩
     ·obtain ⟨c, hc, rfl⟩ := List.mem_map.1 ho
      rw [List.mem_range] at hc
      refine ⟨⟨n, by omega, rfl, i2⟩, c3, by simp only; omega, by simp only; omega, ?_⟩
      simp only
      have : (c + 1) * locN t (nd t (nd t 0).ks[n]) <= ((nd t (nd t 0).ks[n]).num 0).toNat * locN t (nd t (nd t 0).ks[n]) := Nat.mul_le_mul_right _ (by omega)
      rw [Nat.succ_mul] at this
      omega
    ·rw [if_neg c3] at ho ⊢
     have key : ∀ (g : Gc), g.nv = (pass3 t ((nd t 0).ks.take n)).nv -> g.l = (pass3 t ((nd t 0).ks.take n)).l -> o ∈ g.l -> OrgOk t g.nv o := fun g e1 e2 h => by
      rw [e1]; rw [e2] at h; exact i3 o h
     split at ho
     ·rename_i h2; rw [if_pos h2]; exact key _ rfl rfl ho
     ·rename_i h2; rw [if_neg h2]; exact key _ rfl rfl ho
theorem org_ok {t : List Nd} {o : Org} (ho : o ∈ orgs t) : OrgOk t (gbt t).vs.length o := by
 have := (orgs_ok t (nd t 0).ks.length (Nat.le_refl _)).2.2
 rw [List.take_length] at this
 rw [(orgs_eq t).2]
 exact this o ho
def procW (t : List Nd) (k : Nat) : Nat := if (nd t k).kind = 3 then ((nd t k).num 0).toNat else 0
theorem pass3_len (t : List Nd) (l : List Nat) : (pass3 t l).nv = (gat t).vs.length + (l.map fun k => if (nd t k).kind = 3 then ((nd t k).num 0).toNat * locN t (nd t k) else 0).sum /\ (pass3 t l).l.length = (l.map (procW t)).sum := by
 have key : ∀ (l : List Nat) (a : Gc), (l.foldl (one3 t) a).nv = a.nv + (l.map fun k => if (nd t k).kind = 3 then ((nd t k).num 0).toNat * locN t (nd t k) else 0).sum /\ (l.foldl (one3 t) a).l.length = a.l.length + (l.map (procW t)).sum := by
  intro l
  induction l with
  | nil => intro a; simp
  | cons k l ih =>
    intro a
    rw [List.foldl_cons, (ih _).1, (ih _).2]
    unfold one3
    simp only [List.map_cons, List.sum_cons, procW]
    by_cases c3 : (nd t k).kind = 3
    ·simp only [c3, if_true, List.length_append, orgC, List.length_map, List.length_range]
     omega
    ·rw [if_neg c3, if_neg c3, if_neg c3]
     split <;> simp
 have := key l ⟨0, (gat t).vs.length, []⟩
 simpa [pass3] using this
theorem adds_eq (t : List Nd) (kind : Int) (w : Nat -> Nat) (ks : List Int) : adds t kind w ks = ((((ks.map Int.toNat).map w).sum : Nat) : Int) := by
 unfold adds
 induction ks with
 | nil => rfl
 | cons k ks ih =>
   simp only [List.map_cons, List.sum_cons, ih]
   omega
theorem csum_root {t : List Nd} (h : RightT t) {kind : Int} (hk : kind ≠ 0) : csum t kind 1 = 0 := by
 show csum t kind 0 + _ = 0
 rw [if_neg (by rw [h.ok.root]; omega)]
 rfl
theorem csum_item {t : List Nd} (h : RightT t) {kind : Int} (hkd : kind = 1 ∨ kind = 3) {k b : Nat} (hk : k ∈ (nd t 0).ks) (hs : Sub t k b) : csum t kind b = csum t kind k + if (nd t k).kind = kind then stepF t kind k else 0 := by
 have hl := hs.lt
 have hle := hs.le
 rw [csum_none (a := k + 1) (by omega)]
 ·rfl
 intro j j1 j2 e
 have hj := item_kind h (j := j) (by omega) (by omega)
 have h1 := item_self h (ks_z h hj)
 have h2 := item_range h hk hs j (by omega) j2
 omega
theorem greatV {t : List Nd} (h : RightT t) (hT : Typed t) : (gbt t).vs.length <= 8 := by
 have h1 := total_le (t := t) (kind := 2) (B := 8) (by decide) (by decide) fun i hi hk => ((hT.fine i hi).var hk).2.2.2
 rw [csum_items (w := varW t) h.subs fun k b hk hs => csum_var h hT (mem_ks hk) hs, csum_root h (by decide), adds_eq] at h1
 rw [(orgs_eq t).2, (pass3_len t _).1]
 have e : (gat t).vs.length = ((nd t 0).ks.map fun k => if (nd t k).kind = 2 then 1 else 0).sum := by
  unfold gat
  rw [pass1_eq]
  simp only [List.length_map]
  generalize (nd t 0).ks = l
  induction l with
  | nil => rfl
  | cons k l ih =>
    by_cases c : (nd t k).kind = 2
    ·rw [List.filter_cons_of_pos (by simpa using c)]; simp only [List.length_cons, ih, List.map_cons, List.sum_cons, c, if_true]; omega
    ·rw [List.filter_cons_of_neg (by simpa using c)]; simp only [ih, List.map_cons, List.sum_cons, c, if_false]; omega
 have e2 : ((nd t 0).ks.map (varW t)).sum = ((nd t 0).ks.map fun k => if (nd t k).kind = 2 then 1 else 0).sum + ((nd t 0).ks.map fun k => if (nd t k).kind = 3 then ((nd t k).num 0).toNat * locN t (nd t k) else 0).sum := by
  generalize (nd t 0).ks = l
  induction l with
  | nil => rfl
  | cons k l ih =>
    simp only [List.map_cons, List.sum_cons, ih, varW]
    by_cases c : (nd t k).kind = 2
    ·have c3 : (nd t k).kind ≠ 3 := by omega
     simp only [c, if_true]
     rw [if_neg (by decide)]
     omega
    ·simp only [c, if_false]; omega
 have h1 : ((((nd t 0).ks.map (varW t)).sum : Nat) : Int) <= 8 := by
  have e0 : (nd t 0).ks = (nd t 0).kids.map Int.toNat := rfl
  rw [e0]; omega
 rw [e]; omega
theorem greatP {t : List Nd} (h : RightT t) (hT : Typed t) : (gbt t).ps.length <= 4 := by
 have h1 := total_le (t := t) (kind := 3) (B := 4) (by decide) (by decide) fun i hi hk => ((hT.fine i hi).proc hk).2
 rw [csum_items (w := procW t) h.subs (fun k b hk hs => by
  rw [csum_item h (.inr rfl) (mem_ks hk) hs]
  unfold procW
  by_cases c : (nd t k).kind = 3
  ·have hc := copies_le h hT (mem_ks hk) c
   rw [if_pos c, if_pos c]
   unfold stepF copiesF
   rw [item_self h hk, if_neg (by decide), if_pos c]
   omega
  ·rw [if_neg c, if_neg c]; rfl), csum_root h (by decide), adds_eq] at h1
 rw [(orgs_eq t).1, List.length_map]
 unfold orgs
 rw [(pass3_len t _).2]
 have e0 : (nd t 0).ks = (nd t 0).kids.map Int.toNat := rfl
 rw [e0]; omega
theorem greatC {t : List Nd} (h : RightT t) (hT : Typed t) : (gat t).ch.length <= 3 := by
 have h1 := total_le (t := t) (kind := 1) (B := 3) (by decide) (by decide) fun i hi hk => ((hT.fine i hi).chan hk).2.2.2.2
 rw [csum_items (w := fun k => if (nd t k).kind = 1 then 1 else 0) h.subs (fun k b hk hs => by
  rw [csum_item h (.inl rfl) (mem_ks hk) hs]
  by_cases c : (nd t k).kind = 1
  ·rw [if_pos c, if_pos c]; rfl
  ·rw [if_neg c, if_neg c]; rfl), csum_root h (by decide), adds_eq] at h1
 have e0 : (nd t 0).ks = (nd t 0).kids.map Int.toNat := rfl
 rw [<- e0] at h1
 unfold gat
 rw [pass1_eq]
 simp only [List.length_map]
 have e : ((nd t 0).ks.filter fun k => (nd t k).kind == 1).length = ((nd t 0).ks.map fun k => if (nd t k).kind = 1 then 1 else 0).sum := by
  generalize (nd t 0).ks = l
  induction l with
  | nil => rfl
  | cons k l ih =>
    by_cases c : (nd t k).kind = 1
    ·rw [List.filter_cons_of_pos (by simpa using c)]; simp only [List.length_cons, ih, List.map_cons, List.sum_cons, c, if_true]; omega
    ·rw [List.filter_cons_of_neg (by simpa using c)]; simp only [ih, List.map_cons, List.sum_cons, c, if_false]; omega
 rw [e]; omega
end Go.V
namespace Go.V
structure PrOk (mo : Mo) (p : Pr) : Prop where
 inv : PInv mo.tree mo.chans.length p
 same : p.names.length = p.vars.length
 var : ∀ v ∈ p.vars, v < mo.vars.length
 loc : ∀ v ∈ p.locals, v ∈ p.vars /\ mo.globals <= v
 pl : p.places <= 4000
 el : p.edges.length <= 4000
 nl : p.names.length <= mo.vars.length
structure MoOk (mo : Mo) : Prop where
 tree : TreeOk mo.tree
 nv : mo.vars.length <= 8
 np : mo.procs.length <= 4
 nc : mo.chans.length <= 3
 gl : mo.globals <= mo.vars.length
 pr : ∀ p ∈ mo.procs, PrOk mo p
 sf : ∀ k ∈ mo.safe, k < mo.tree.length /\ exprK (nd mo.tree k).kind
 sl : mo.safe.length <= 800
theorem gbt_pre (t : List Nd) : ∃ m, (gbt t).vs = (gat t).vs ++ m := pass2_pre t (chs t) (gat t).vs (nd t 0).ks
theorem pr1_pr0 {t : List Nd} {o : Org} (ho : o ∈ orgs t) : ∃ vs : List Vr, vs.length = o.nv /\ vs.take o.seen = (gat t).vs.take o.seen /\ o.seen <= (gat t).vs.length /\ pr1 t o = pr0 (nd t o.k) o.c o.seen vs (locs t (nd t o.k)) := by
 have h := org_ok ho
 obtain ⟨m, hm⟩ := gbt_pre t
 have hlo := h.lo
 have hhi := h.hi
 have hseen : o.seen <= (gat t).vs.length := by
  obtain ⟨i, hi, _, e⟩ := h.at'
  have := pass1_mono t ((nd t 0).ks.take i) ((nd t 0).ks.drop i)
  rw [List.take_append_drop, <- e] at this
  exact this
 have e1 : ((gbt t).vs.take o.nv).length = o.nv := by rw [List.length_take]; omega
 have e2 : ((gbt t).vs.take o.nv).take o.seen = (gat t).vs.take o.seen := by
  rw [List.take_take, Nat.min_eq_left (by omega), hm, List.take_append_of_le_length hseen]
 refine ⟨_, e1, e2, hseen, ?_⟩
 unfold pr0 pr1
 rw [e2, e1, locs_length]
theorem org_sight {t : List Nd} (h : RightT t) (hS : Scoped t) {o : Org} (ho : o ∈ orgs t) : ∃ b, walkF t 19 o.k = (b, true) /\ Sub t o.k b /\ o.k < t.length /\ KF t 18 (nd t o.k).kids (o.k + 1) b /\ ∀ j, o.k <= j /\ j < b -> Sight t (gat t).ch.length (chs t) (pr1 t o).names (pr1 t o).vars j := by
 have hok := org_ok ho
 obtain ⟨i, hi, e, hseen⟩ := hok.at'
 have hkm : o.k ∈ (nd t 0).ks := e ▸ List.getElem_mem hi
 obtain ⟨k1, k2, b, b1, b2, b3, b4⟩ := h.item hkm
 have hsub := (walk_ok 19 k2 b1).1
 obtain ⟨vs, v1, v2, v3, v4⟩ := pr1_pr0 ho
 have hv : vs.take o.seen = (pass1 t ((nd t 0).ks.take i)).vs := by
  rw [v2]
  obtain ⟨r, hr⟩ := pass1_pre t ((nd t 0).ks.take i) ((nd t 0).ks.drop i)
  rw [List.take_append_drop] at hr
  have hg : (gat t).vs = (pass1 t ((nd t 0).ks.take i)).vs ++ r := hr
  rw [hg, hseen, List.take_left]
 refine ⟨b, b1, hsub, k2, b4, ?_⟩
 rw [v4]
 have := hok.lo
 exact sight_ok h hS hi e hok.kind hsub hv (by omega)
theorem org_kids {t : List Nd} (h : RightT t) (hS : Scoped t) {o : Org} (ho : o ∈ orgs t) : ∀ k ∈ (nd t o.k).ks.drop (locN t (nd t o.k)), StOk t (gat t).ch.length (pr1 t o).names (pr1 t o).vars (statF t (chs t) (t.length + 1)) k /\ StG t (statF t (chs t) (t.length + 1)) k := by
 obtain ⟨b, b1, hsub, k2, _, hsg⟩ := org_sight h hS ho
 have hok := org_ok ho
 have hpc := loc_proc ((h.ok.node o.k k2).proc hok.kind)
 have hclo : ∀ j, j < t.length -> (o.k <= j /\ j < b) -> ∀ k ∈ (nd t j).ks, o.k <= k /\ k < b := fun j _ hj k hk => by
  obtain ⟨z, hz, rfl⟩ := List.mem_map.1 hk
  have := hsub.down j hj.1 hj.2 z hz
  omega
 intro k hk
 have hst := hpc.1 k hk
 have hkm := List.mem_of_mem_drop hk
 have hkk := h.ok.ks k2 k hkm
 have hPk := hclo o.k k2 ⟨Nat.le_refl _, hsub.lt⟩ k hkm
 exact ⟨stat_ok h.ok hclo hsg (t.length + 1) k hkk.2 hPk hst (by omega), stat_gw h.ok _ (t.length + 1) k hkk.2 hst (by omega)⟩
theorem proc_inv {t : List Nd} (h : RightT t) (hS : Scoped t) {o : Org} (ho : o ∈ orgs t) : PInv t (gat t).ch.length (proc1 t o) /\ PGrow (pr1 t o) (proc1 t o) := by
 have := org_kids h hS ho
 exact sev_ok (fun k hk => (this k hk).1) ⟨by simp [pr1], by simp [pr1], by simp [pr1]⟩ rfl rfl (by simp [pr1]) (by simp [pr1])
theorem proc_gw {t : List Nd} (h : RightT t) (hS : Scoped t) {o : Org} (ho : o ∈ orgs t) : Gw (pr1 t o) (proc1 t o) 3300 := by
 have hk := org_kids h hS ho
 obtain ⟨b, b1, hsub, k2, hkf, _⟩ := org_sight h hS ho
 obtain ⟨b', hb1, hkf'⟩ := hkf.drop (locN t (nd t o.k))
 have := sev_gw (node := o.k) (p := pr1 t o) (frm := 0) (to := 1) hkf' (st := statF t (chs t) (t.length + 1)) (fun k hm => (hk k (by rw [List.map_drop] at hm; exact hm)).2)
 rw [List.map_drop] at this
 have hle := hsub.le
 have := h.ok.le
 exact Gw.le ‹_› (by omega)
theorem model_ok {t : List Nd} (h : RightT t) (hS : Scoped t) (hT : Typed t) : MoOk (modelOf t) := by
 have hg : (gat t).vs.length <= (gbt t).vs.length := by
  obtain ⟨m, hm⟩ := gbt_pre t
  rw [hm, List.length_append]; omega
 refine ⟨h.ok, greatV h hT, greatP h hT, greatC h hT, hg, fun p hp => ?_, fun k hk => ?_, ?_⟩
 ·have hp : p ∈ (gbt t).ps := hp
  rw [(orgs_eq t).1] at hp
  obtain ⟨o, ho, rfl⟩ := List.mem_map.1 hp
  have hok := org_ok ho
  obtain ⟨i1, g⟩ := proc_inv h hS ho
  have hw := proc_gw h hS ho
  obtain ⟨vs, v1, v2, v3, v4⟩ := pr1_pr0 ho
  have hhi := hok.hi
  have hlo := hok.lo
  refine ⟨i1, ?_, ?_, ?_, ?_, ?_, ?_⟩
  ·rw [g.names, g.vars]
   simp only [pr1, List.length_append, List.length_map, List.length_take, locs_length, List.length_range]
   omega
  ·rw [g.vars]
   intro v hv
   show v < (gbt t).vs.length
   simp only [pr1, List.mem_append, List.mem_range, List.mem_map] at hv
   rcases hv with hv | ⟨l, hl, rfl⟩ <;> omega
  ·rw [g.vars, g.locals]
   intro v hv
   simp only [pr1, List.mem_append, List.mem_range, List.mem_map] at hv ⊢
   obtain ⟨l, hl, rfl⟩ := hv
   exact ⟨.inr ⟨l, hl, rfl⟩, by show (gat t).vs.length <= _; omega⟩
  ·have := hw.pl; simp only [pr1] at this; omega
  ·have := hw.el; simp only [pr1, List.length_nil] at this; omega
  ·rw [g.names]
   show _ <= (gbt t).vs.length
   simp only [pr1, List.length_append, List.length_map, List.length_take, locs_length]
   omega
 ·have hk : k ∈ (gat t).sf := hk
  unfold gat at hk
  rw [pass1_eq] at hk
  simp only [List.mem_map, List.mem_filter, beq_iff_eq] at hk
  obtain ⟨j, ⟨j1, j2⟩, rfl⟩ := hk
  obtain ⟨q1, q2, _⟩ := h.item j1
  have h1 := (h.ok.node j q2).one (.inl j2)
  exact ⟨(h.ok.ks q2 _ (kid_mem (by omega))).2, h1.2⟩
 ·have h1 := (pass1_le t (nd t 0).ks).2.2
  have h2 := h.subs.length
  have h3 := h.ok.le
  rw [ks_len] at h1
  show (gat t).sf.length <= 800
  unfold gat
  omega
end Go.V
namespace Go.V
def idxB (l : List ByteArray) (w : ByteArray) : Nat := l.findIdx fun x => decide (x = w)
end Go.V
namespace Go.Proofs.Ytlaeblilmppodaa
open Go.V
set_option maxRecDepth 100000
set_option maxHeartbeats 4000000
def MadeR (t : List Nd) (r : D) : Prop := r = .tup [.agg [.nils, .int .i64 0, .nils, .nils, .nils, .nils, .bool false], .bool false] ∨ ∃ m ps, r = .tup [.agg (mdRow m), .bool true] /\ RightT t /\ Scoped t /\ Typed t /\ MoF m (modelOf t) ps
theorem makeI {d : D} {t : List Nd} (hT : TreeAt d t) (hR : RightT t) : ∃ r s1 d', Ev vfs 26 [d] Store.empty r s1 /\ V.ice s1.get 20 r = some d' /\ MadeR t d' := by
 obtain ⟨r, s1, h1, h2⟩ := make_ok hT hR
 rcases h2 with rfl | ⟨hS, hY, m, ps, rfl, hm, hn⟩
 ·exact ⟨_, s1, _, h1, rfl, .inl rfl⟩
 ·obtain ⟨m', ps', h3, h4⟩ := hm.frz hn true
  exact ⟨_, s1, _, h1, h3, .inr ⟨m', ps', rfl, hR, hS, hY, h4⟩⟩
end Go.Proofs.Ytlaeblilmppodaa
namespace Go.V
def setF (l : List Nat) : Nat := l.foldl (fun a v => a ||| 2 ^ v) 0
end Go.V
namespace Go.V
structure Stt where
 at' : List Nat
 vars : List Int
 chans : List (List Int)
 hold : Int
 deriving DecidableEq
def doZ (op : Nat) (a b : Int) (w : Nat) : Int := match op with
 | 0 => trimZ (a + b) w
 | 1 => trimZ (a - b) w
 | 2 => trimZ (a * b) w
 | 3 => if b = 0 then 0 else trimZ (a.tdiv b) w
 | _ => if b = 0 then 0 else trimZ (a.tmod b) w
def zAt (l : List Int) (i : Nat) : Int := l.getD i 0
def cAt (l : List (List Int)) (i : Nat) : List Int := l.getD i []
def nAt (l : List Nat) (i : Nat) : Nat := l.getD i 0
def chAt (l : List Ch) (i : Nat) : Ch := l.getD i default
theorem zAt_get {l : List Int} {i : Nat} (h : i < l.length) : zAt l i = l[i] := by simp [zAt, List.getD, h]
theorem cAt_get {l : List (List Int)} {i : Nat} (h : i < l.length) : cAt l i = l[i] := by simp [cAt, List.getD, h]
theorem nAt_get {l : List Nat} {i : Nat} (h : i < l.length) : nAt l i = l[i] := by simp [nAt, List.getD, h]
theorem chAt_get {l : List Ch} {i : Nat} (h : i < l.length) : chAt l i = l[i] := by simp [chAt, List.getD, h]
def oneZ (b : Bool) : Int := if b then 1 else 0
def lookP (p : Pr) (w : ByteArray) : Option Nat := if idxB p.names w < p.names.length then some (p.vars.getD (idxB p.names w) 0) else none
def binZ (op a b : Int) : Int × Bool :=
 if 7 <= op /\ b = 0 then (0, false)
 else if op = 0 then (oneZ (decide (a ≠ 0) || decide (b ≠ 0)), true)
 else if op = 1 then (oneZ (decide (a ≠ 0) && decide (b ≠ 0)), true)
 else if op = 2 then (oneZ (decide (a = b)), true)
 else if op = 3 then (oneZ (decide (a < b)), true)
 else (doZ (op - 4).toNat a b 8, true)
def valF (t : List Nd) (ch : List ByteArray) (look : ByteArray -> Option Nat) (st : Stt) : Nat -> Nat -> Int × Bool
 | 0, _ => (0, false)
 | n + 1, k =>
   let x := nd t k
   if x.kind = 17 then (trimZ (x.num 0) 8, true)
   else if x.kind = 18 then match look (x.word 0) with
    | none => (0, false)
    | some v => (zAt st.vars v, true)
   else if x.kind = 19 then (if idxB ch (x.word 0) < ch.length then (((cAt st.chans (idxB ch (x.word 0))).length : Int), true) else (0, false))
   else if x.kind = 20 then (trimZ (-(valF t ch look st n (x.kid 0)).1) 8, (valF t ch look st n (x.kid 0)).2)
   else if x.kind = 21 then (oneZ ((valF t ch look st n (x.kid 0)).2 && decide ((valF t ch look st n (x.kid 0)).1 = 0)), (valF t ch look st n (x.kid 0)).2)
   else if x.kind = 22 then
    if (valF t ch look st n (x.kid 0)).2 && (valF t ch look st n (x.kid 1)).2 then binZ (x.num 0) (valF t ch look st n (x.kid 0)).1 (valF t ch look st n (x.kid 1)).1 else (0, false)
   else (0, false)
def Mo.ch (mo : Mo) : List ByteArray := mo.chans.map Ch.name
def Mo.val (mo : Mo) (look : ByteArray -> Option Nat) (st : Stt) (k : Nat) : Int × Bool := valF mo.tree mo.ch look st (mo.tree.length + 1) k
def Mo.ex (mo : Mo) (p : Pr) (st : Stt) (e : Ed) (z : Int) : Int × Bool := if 0 <= e.expr then mo.val (lookP p) st e.expr.toNat else (z, true)
structure Mv where
 kind : Nat
 proc : Nat
 edge : Nat
 chan : Nat
 deriving DecidableEq, Inhabited
def Mv.row (v : Mv) : List D := [.int .i64 (v.kind : Int), .int .i64 (v.proc : Int), .int .i64 (v.edge : Int), .int .i64 (v.chan : Int)]
structure Fit (mo : Mo) (st : Stt) : Prop where
 at' : st.at'.length = mo.procs.length
 vars : st.vars.length = mo.vars.length
 chans : st.chans.length = mo.chans.length
 pl : ∀ i (h : i < st.at'.length) (h' : i < mo.procs.length), st.at'[i] < mo.procs[i].places
 vr : ∀ i (h : i < st.vars.length) (h' : i < mo.vars.length), trimZ st.vars[i] mo.vars[i].width.toNat = st.vars[i]
 cl : ∀ i (h : i < st.chans.length) (h' : i < mo.chans.length), (st.chans[i].length : Int) <= mo.chans[i].room
 cv : ∀ i (h : i < st.chans.length) (h' : i < mo.chans.length), ∀ n ∈ st.chans[i], trimZ n mo.chans[i].width.toNat = n
 hold : -1 <= st.hold /\ st.hold < (mo.procs.length : Int)
structure StD where
 da : D
 dv : D
 dc : D
def stRow (x : StD) (st : Stt) : List D := [x.da, x.dv, x.dc, .int .i64 st.hold]
structure StF (x : StD) (st : Stt) : Prop where
 a : FL 1 x.da (rowsN st.at')
 v : FI x.dv st.vars
 c : ∃ ds : List D, FL 1 x.dc (ds.map fun d => [d]) /\ ds.length = st.chans.length /\ ∀ i (h : i < ds.length) (h' : i < st.chans.length), FI ds[i] st.chans[i]
theorem StF.ones {x : StD} {st : Stt} (h : StF x st) : oneCell x.da = true /\ oneCell x.dv = true /\ oneCell x.dc = true := by
 obtain ⟨ds, h1, _⟩ := h.c
 exact ⟨h.a.one, FL.one h.v, h1.one⟩
theorem StF.fz {x : StD} {st : Stt} (h : StF x st) : Fz (.agg (stRow x st)) := fz_agg fun d hd => by
 obtain ⟨ds, h1, _⟩ := h.c
 simp only [stRow, List.mem_cons, List.not_mem_nil, or_false] at hd
 rcases hd with rfl | rfl | rfl | rfl
 ·exact FL.ic h.a
 ·exact FL.ic h.v
 ·exact FL.ic h1
 ·exact fun _ _ => rfl
theorem StF.chan {x : StD} {st : Stt} (h : StF x st) {i : Nat} (hi : i < st.chans.length) : ∃ d, FI d st.chans[i] /\ ∀ k : IntKind, idxAV 1 x.dc (.int k (i : Int)) = some (.fp [d] 0) := by
 obtain ⟨ds, h1, h2, h3⟩ := h.c
 have hi' : i < ds.length := by omega
 refine ⟨ds[i], h3 i hi' hi, fun k => ?_⟩
 rw [h1.idx (by simpa using hi')]
 simp
def I8 (n : Int) : Prop := -128 <= n /\ n <= 127
structure St8 (st : Stt) : Prop where
 v : ∀ n ∈ st.vars, I8 n
 c : ∀ l ∈ st.chans, l.length <= 3 /\ ∀ n ∈ l, I8 n
end Go.V
namespace Go.Proofs.Ytlaeblilmppodaa
open Go.V
set_option maxRecDepth 100000
set_option maxHeartbeats 4000000
end Go.Proofs.Ytlaeblilmppodaa
namespace Go.V
variable {fs : FuncId -> Option VFunc}
structure Ent where
 i : Nat
 rd : Option Nat
 eff : List Nat
structure TrE (n : Nat) (e : Ent) (t : Tr) : Prop where
 i : t.idx = e.i
 rd : t.rd = e.rd
 ef : ∀ id, id ∉ e.eff -> t.pre.get id = t.post.get id
 lt : ∀ id, e.rd = some id -> id < n
def TrM (n : Nat) (T : List Ent) (tr : List Tr) : Prop := ∀ t ∈ tr, (t.rd = none /\ ∀ id, t.pre.get id = t.post.get id) ∨ ∃ e ∈ T, TrE n e t
def WX (fs : FuncId -> Option VFunc) (pairs : List (Nat × Nat)) (T : List Ent) (ops : List (Nat × VOper)) (env : Env) (s : Store) (Q : Env -> Store -> Prop) : Prop := ∀ tr, TrM s.next T tr -> WO fs pairs ops tr env s Q
theorem vw_rgx {vars ops p pairs dr env s Q} (h : WX fs (p :: pairs) [] ops env s fun env' s' => Q .normal (env'.keep vars) s') : WP fs vars (.region ⟨ops, p :: pairs, dr⟩) env s Q := vw_region (h [] (by simp [TrM]))
theorem stable_of {a b : Store} {r : Option Nat} (h : ∀ id, r = some id -> a.get id = b.get id) : stable a b r = true := by
 cases r with
 | none => rfl
 | some id => simp only [stable]; rw [h id rfl]; exact beqO_self _
def Free (pairs : List (Nat × Nat)) (T : List Ent) (i : Nat) (r : Option Nat) (E : List Nat) : Prop := ∀ e ∈ T, (e.i, i) ∈ pairs -> (∀ id, e.rd = some id -> id ∉ E) /\ ∀ id, r = some id -> id ∉ e.eff
theorem pairs_free {pairs : List (Nat × Nat)} {T : List Ent} {n : Nat} {j : Tr} {E : List Nat} (hE : ∀ id, id ∉ E -> j.pre.get id = j.post.get id) (hf : Free pairs T j.idx j.rd E) : ∀ {tr : List Tr}, TrM n T tr -> pairsOk pairs j tr = true
 | [], _ => rfl
 | t :: r, h => by
   have ih := pairs_free hE hf (tr := r) fun x hx => h x (by simp [hx])
   rcases h t (by simp) with ⟨k1, k2⟩ | ⟨e, he, k⟩
   ·have s1 : stable j.pre j.post t.rd = true := by rw [k1]; rfl
    have s2 : stable t.pre t.post j.rd = true := stable_of fun id _ => k2 id
    simp only [pairsOk, s1, s2, Bool.and_self, ite_self, Bool.true_and, ih]
   by_cases hc : (t.idx, j.idx) ∈ pairs
   ·rw [k.i] at hc
    obtain ⟨f1, f2⟩ := hf e he hc
    have s1 : stable j.pre j.post t.rd = true := stable_of fun id hid => hE id (f1 id (by rw [<- k.rd]; exact hid))
    have s2 : stable t.pre t.post j.rd = true := stable_of fun id hid => k.ef id (f2 id hid)
    simp only [pairsOk, s1, s2, Bool.and_self, ite_self, Bool.true_and, ih]
   ·have hc' : pairs.contains (t.idx, j.idx) = false := by rw [Bool.eq_false_iff]; intro h'; rw [List.contains_iff_mem] at h'; exact hc h'
    simp only [pairsOk, hc', Bool.false_eq_true, if_false, Bool.true_and, ih]
theorem TrM.grow {n m : Nat} {T : List Ent} {tr : List Tr} (h : TrM n T tr) (hm : n <= m) (e : Ent) : TrM m (e :: T) tr := fun t ht => by
 rcases h t ht with k | ⟨e', h1, h2⟩
 ·exact .inl k
 ·exact .inr ⟨e', by simp [h1], h2.i, h2.rd, h2.ef, fun id hid => Nat.lt_of_lt_of_le (h2.lt id hid) hm⟩
theorem wx_op {pairs T i o rest env s Q} (hw : wantV env o.guard = some true) {d s'} {E : List Nat} (m : Nat) (hr : runOp (callWith fs (vexec fs m)) env s o.op = some (d, s')) (hE : ∀ id, id ∉ E -> s.get id = s'.get id) (hn : s.next <= s'.next) (hl : ∀ id, rdOf env o.op = some id -> id < s.next) (hf : Free pairs T i (rdOf env o.op) E)
 (h : WX fs pairs (⟨i, rdOf env o.op, E⟩ :: T) rest (env.put o.dst d) s' Q) : WX fs pairs T ((i, o) :: rest) env s Q := by
 intro tr ht
 refine vo_op hw m hr (pairs_free (j := ⟨i, rdOf env o.op, s, s'⟩) hE hf ht) (h _ ?_)
 split
 ·exact ht.grow hn _
 ·intro t hm
  rcases List.mem_cons.1 hm with rfl | hm
  ·exact .inr ⟨⟨i, rdOf env o.op, E⟩, by simp, rfl, rfl, hE, fun id hid => Nat.lt_of_lt_of_le (hl id hid) hn⟩
  ·exact ht.grow hn _ t hm
theorem free_none {pairs : List (Nat × Nat)} {T : List Ent} {i : Nat} : Free pairs T i none [] := fun e _ _ => ⟨by simp, by simp⟩
theorem wx_still {pairs T i o rest env s Q} (hw : wantV env o.guard = some true) {d} (m : Nat) (hr : runOp (callWith fs (vexec fs m)) env s o.op = some (d, s)) (hn : rdOf env o.op = none) (h : WX fs pairs T rest (env.put o.dst d) s Q) : WX fs pairs T ((i, o) :: rest) env s Q := by
 intro tr ht
 refine vo_op hw m hr (pairs_free (E := []) (fun _ _ => rfl) (by rw [hn]; exact free_none) ht) (h _ ?_)
 split
 ·exact ht
 ·intro t hm
  rcases List.mem_cons.1 hm with rfl | hm
  ·exact .inl ⟨hn, fun _ => rfl⟩
  ·exact ht t hm
theorem wx_nil {pairs T env s Q} (h : Q env s) : WX fs pairs T [] env s Q := fun _ _ => vo_nil h
theorem wx_skip {pairs T i o rest env s Q} (hw : wantV env o.guard = some false) (h : WX fs pairs T rest (env.put o.dst (.tup [])) s Q) : WX fs pairs T ((i, o) :: rest) env s Q := fun tr ht => vo_skip hw (h tr ht)
theorem wx_p {pairs T i t o rest s Q} {env : Env} {d : D} (hr : evP env o = some d) (h : WX fs pairs T rest ((t, d) :: env) s Q) : WX fs pairs T ((i, ⟨some t, .p o, none⟩) :: rest) env s Q :=
 wx_still rfl 0 (by simp only [runOp, hr, Option.map_some]) rfl h
theorem wx_fp {pairs T i t n x rest s Q} {env : Env} {d : D} {cs : List D} {off : Nat} (hx : env.ev x = .fp cs off) (hr : ldV s.get n (.fp cs off) = some d) (h : WX fs pairs T rest ((t, d) :: env) s Q) : WX fs pairs T ((i, ⟨some t, .r (.load n x), none⟩) :: rest) env s Q :=
 wx_still rfl 0 (by simp only [runOp, evR_load, hx, hr, Option.map_some]) (by simp only [rdOf, rdR, hx]) h
theorem wx_ld {pairs T i t n x rest s Q} {env : Env} {d : D} {id off : Nat} (hx : env.ev x = .ptr id off) (hr : ldV s.get n (.ptr id off) = some d) (hf : ∀ e ∈ T, (e.i, i) ∈ pairs -> id ∉ e.eff) (h : WX fs pairs (⟨i, some id, []⟩ :: T) rest ((t, d) :: env) s Q) : WX fs pairs T ((i, ⟨some t, .r (.load n x), none⟩) :: rest) env s Q := by
 have hrd : rdOf env (.r (.load n x)) = some id := by simp only [rdOf, rdR, hx]
 have hlt : id < s.next := by
  simp only [ldV] at hr
  cases hg : s.get id with
  | none => rw [hg] at hr; cases hr
  | some o => exact get_lts hg
 refine wx_op (E := []) rfl 0 (d := d) (s' := s) (by simp only [runOp, evR_load, hx, hr, Option.map_some]) (fun _ _ => rfl) (Nat.le_refl _) ?_ ?_ ?_
 ·intro j hj
  simp only [hrd, Option.some.injEq] at hj
  subst hj; exact hlt
 ·simp only [hrd]
  intro e he hp
  refine ⟨by simp, fun j hj => ?_⟩
  simp only [Option.some.injEq] at hj
  subst hj
  exact hf e he hp
 ·simp only [hrd]; exact h
theorem wx_a {pairs T i t o rest s Q} {env : Env} {ob : VObj} {m : Made} (hr : evA env o = some (ob, m)) (h : WX fs pairs (⟨i, none, [s.next]⟩ :: T) rest ((t, m.at s.next) :: env) (s.push ob) Q) : WX fs pairs T ((i, ⟨some t, .a o, none⟩) :: rest) env s Q := by
 intro tr ht
 have hE : ∀ id, id ∉ [s.next] -> s.get id = (s.push ob).get id := fun id hid => by
  rw [Store.get_push, if_neg (by simpa using hid)]
 refine vo_op rfl 0 (d := m.at s.next) (s' := s.push ob) (by simp only [runOp, hr]) ?_ (h _ ?_)
 ·have key : ∀ {tr : List Tr}, TrM s.next T tr -> pairsOk pairs ⟨i, none, s, s.push ob⟩ tr = true := by
   intro tr
   induction tr with
   | nil => intro _; rfl
   | cons x r ih =>
     intro hx
     have ih := ih fun y hy => hx y (by simp [hy])
     have s1 : stable s (s.push ob) x.rd = true := by
      rcases hx x (by simp) with ⟨k1, _⟩ | ⟨e, _, k⟩
      ·rw [k1]; rfl
      ·refine stable_of fun id hid => hE id ?_
       have := k.lt id (by rw [<- k.rd]; exact hid)
       simp only [List.mem_singleton]; omega
     have s2 : stable x.pre x.post none = true := rfl
     simp only [pairsOk, s1, s2, Bool.and_self, ite_self, Bool.true_and, ih]
  exact key ht
 ·have hn : s.next <= (s.push ob).next := by simp
  split
  ·exact ht.grow hn _
  ·intro x hm
   rcases List.mem_cons.1 hm with rfl | hm
   ·exact .inr ⟨⟨i, none, [s.next]⟩, by simp, rfl, rfl, hE, by simp⟩
   ·exact ht.grow hn _ x hm
theorem wx_w {pairs T i n a v rest s Q} {env : Env} {id off : Nat} {ob : VObj} (hx : env.ev a = .ptr id off) (hr : evW env s.get n a v = some (id, ob)) (hf : ∀ e ∈ T, (e.i, i) ∈ pairs -> e.rd ≠ some id /\ id ∉ e.eff) (h : WX fs pairs (⟨i, some id, [id]⟩ :: T) rest env (s.set id (some ob)) Q) : WX fs pairs T ((i, ⟨none, .w n a v, none⟩) :: rest) env s Q := by
 have hrd : rdOf env (.w n a v) = some id := by simp only [rdOf, rdW, hx]
 have hlt : id < s.next := by
  simp only [evW, hx] at hr
  cases hg : s.get id with
  | none => rw [hg] at hr; cases hr
  | some o => exact get_lts hg
 refine wx_op (E := [id]) rfl 0 (d := .tup []) (s' := s.set id (some ob)) (by simp only [runOp, hr]) (fun j hj => by rw [get_set_ne (by simpa using hj)]) (by simp) ?_ ?_ ?_
 ·intro j hj
  simp only [hrd, Option.some.injEq] at hj
  subst hj; exact hlt
 ·simp only [hrd]
  intro e he hp
  obtain ⟨f1, f2⟩ := hf e he hp
  refine ⟨fun j hj hm => ?_, fun j hj => ?_⟩
  ·simp only [List.mem_singleton] at hm
   subst hm
   exact f1 hj
  ·simp only [Option.some.injEq] at hj
   subst hj
   exact f2
 ·simp only [hrd]; exact h
theorem wx_m {pairs T i t o rest s Q} {env : Env} {d : D} {s' : Store} {E : List Nat} (hr : ∃ n, evM (callWith fs (vexec fs n)) env s o = some (d, s')) (hE : ∀ id, id ∉ E -> s.get id = s'.get id) (hn : s.next <= s'.next) (hf : ∀ e ∈ T, (e.i, i) ∈ pairs -> ∀ id, e.rd = some id -> id ∉ E)
 (h : WX fs pairs (⟨i, none, E⟩ :: T) rest ((t, d) :: env) s' Q) : WX fs pairs T ((i, ⟨some t, .m o, none⟩) :: rest) env s Q := by
 obtain ⟨n, hn'⟩ := hr
 refine wx_op (E := E) rfl n (d := d) (s' := s') (by simp only [runOp]; exact hn') hE hn (by intro id hid; simp [rdOf] at hid) (fun e he hp => ⟨hf e he hp, by intro id hid; simp [rdOf] at hid⟩) h
theorem wx_iso {pairs T i t f args rest s Q} {env : Env} {l l' : List D} {d r : D} {s1 : Store} (hl : env.evL args = l) (ha : mapO (ice s.get 20) l = some l')
 (hr : Ev fs f l' Store.empty r s1) (hi : ice s1.get 20 r = some d) (hs : (scalarD d || pureL l) = true)
 (h : WX fs pairs T rest ((t, d) :: env) s Q) : WX fs pairs T ((i, ⟨some t, .m (.call .iso (.cst (.fn f [])) args), none⟩) :: rest) env s Q := by
 subst hl
 obtain ⟨n, hn⟩ := hr
 have hn' : callWith fs (vexec fs n) f l' Store.empty = some (r, s1) := hn
 exact wx_still rfl n (by simp only [runOp, evM, callV, Env.ev, List.append_nil, ha, hn', hi, hs, if_true]) rfl h
end Go.V
namespace Go.V
variable {σ : Nat -> Nat} {l : List Nat} {c : Nat}
end Go.V
namespace Go.V
end Go.V
namespace Go.V
theorem snocInd {α : Type} {P : List α -> Prop} (h0 : P []) (h1 : ∀ l a, P l -> P (l ++ [a])) : ∀ l, P l := by
 intro l
 have : ∀ r : List α, P r.reverse := by
  intro r
  induction r with
  | nil => exact h0
  | cons a r ih => rw [List.reverse_cons]; exact h1 _ _ ih
 have h := this l.reverse
 rwa [List.reverse_reverse] at h
def insFrom : Nat -> List (Nat × Nat) -> List Nat
 | _, [] => []
 | k, p :: r => if p = (0, 0) /\ 0 < k then k :: insFrom (k + 1) r else insFrom (k + 1) r
structure Gr.WF (G : Gr) : Prop where
 pos : G.nodes[0]? = some (0, 0)
 nodes : ∀ (n : Nat) (p : Nat × Nat), G.nodes[n]? = some p -> p = (0, 0) ∨ (2 <= p.1 /\ p.1 < p.2 /\ p.2 < 2 * n)
 ins : G.ins = insFrom 0 G.nodes
 known : ∀ (p : Nat × Nat) (n : Nat), find p G.known = some n ↔ p ≠ (0, 0) /\ G.nodes[n]? = some p
theorem Gr.WF.len {G : Gr} (h : G.WF) : 0 < G.nodes.length := by
 have := h.pos
 rcases Nat.eq_zero_or_pos G.nodes.length with h0 | h0
 ·rw [List.getElem?_eq_none (by omega)] at this; cases this
 ·exact h0
theorem Gr.WF.lt {G : Gr} (h : G.WF) : ∀ p n, find p G.known = some n -> n < G.nodes.length := by
 intro p n hf
 have := (h.known p n).1 hf
 rcases Nat.lt_or_ge n G.nodes.length with h1 | h1
 ·exact h1
 ·rw [List.getElem?_eq_none h1] at this; cases this.2
def evL (vs : List Bool) (e : Nat) : Bool := vs.getD (e / 2) false != (e % 2 == 1)
def stepV (m : List Bool) (st : List Bool × Nat) (p : Nat × Nat) : List Bool × Nat :=
 if p = (0, 0) then (if st.1.length = 0 then (st.1 ++ [false], st.2) else (st.1 ++ [m.getD st.2 false], st.2 + 1))
 else (st.1 ++ [evL st.1 p.1 && evL st.1 p.2], st.2)
def valsS (m : List Bool) (nodes : List (Nat × Nat)) : List Bool × Nat := nodes.foldl (stepV m) ([], 0)
def vals (m : List Bool) (nodes : List (Nat × Nat)) : List Bool := (valsS m nodes).1
def Gr.ev (G : Gr) (m : List Bool) (e : Nat) : Bool := evL (vals m G.nodes) e
theorem valsS_snoc (m : List Bool) (l : List (Nat × Nat)) (p : Nat × Nat) : valsS m (l ++ [p]) = stepV m (valsS m l) p := by simp [valsS, List.foldl_append]
theorem vals_snoc (m : List Bool) (l : List (Nat × Nat)) (p : Nat × Nat) : ∃ v, vals m (l ++ [p]) = vals m l ++ [v] := by
 simp only [vals, valsS_snoc, stepV]
 split
 ·split <;> exact ⟨_, rfl⟩
 ·exact ⟨_, rfl⟩
theorem vals_append (m : List Bool) (l k : List (Nat × Nat)) : ∃ t, vals m (l ++ k) = vals m l ++ t := by
 induction k using snocInd with
 | h0 => exact ⟨[], by simp⟩
 | h1 k p ih =>
   obtain ⟨t, ht⟩ := ih
   obtain ⟨v, hv⟩ := vals_snoc m (l ++ k) p
   exact ⟨t ++ [v], by rw [<- List.append_assoc, hv, ht, List.append_assoc]⟩
theorem vals_length (m : List Bool) (l : List (Nat × Nat)) : (vals m l).length = l.length := by
 induction l using snocInd with
 | h0 => rfl
 | h1 l p ih =>
   obtain ⟨v, hv⟩ := vals_snoc m l p
   rw [hv]; simp [ih]
theorem evL_append {l t : List Bool} {e : Nat} (h : e / 2 < l.length) : evL (l ++ t) e = evL l e := by
 simp only [evL]
 congr 1
 simp [List.getD, List.getElem?_append_left h]
def Gr.Ext (G G' : Gr) : Prop := ∃ l, G'.nodes = G.nodes ++ l
theorem Gr.Ext.refl (G : Gr) : Gr.Ext G G := ⟨[], by simp⟩
theorem Gr.Ext.trans {A B C : Gr} (h : Gr.Ext A B) (k : Gr.Ext B C) : Gr.Ext A C := by
 obtain ⟨l, hl⟩ := h
 obtain ⟨r, hr⟩ := k
 exact ⟨l ++ r, by rw [hr, hl, List.append_assoc]⟩
theorem Gr.Ext.le {G G' : Gr} (h : Gr.Ext G G') : G.nodes.length <= G'.nodes.length := by
 obtain ⟨l, hl⟩ := h
 rw [hl]; simp
theorem Gr.Ext.ev {G G' : Gr} (h : Gr.Ext G G') {m : List Bool} {e : Nat} (he : e < 2 * G.nodes.length) : G'.ev m e = G.ev m e := by
 obtain ⟨l, hl⟩ := h
 obtain ⟨t, ht⟩ := vals_append m G.nodes l
 simp only [Gr.ev, hl, ht]
 exact evL_append (by rw [vals_length]; omega)
theorem Gr.Ext.get {G G' : Gr} (h : Gr.Ext G G') {n : Nat} {p : Nat × Nat} (hp : G.nodes[n]? = some p) : G'.nodes[n]? = some p := by
 obtain ⟨l, hl⟩ := h
 rw [hl, List.getElem?_append_left, hp]
 rcases Nat.lt_or_ge n G.nodes.length with h1 | h1
 ·exact h1
 ·rw [List.getElem?_eq_none h1] at hp; cases hp
structure Gr.Ok (G G' : Gr) (k : Nat) : Prop where
 wf : G'.WF
 ext : Gr.Ext G G'
 len : G'.nodes.length <= G.nodes.length + k
 one : G.nodes.length = 1 -> G'.nodes.length = 1
 ins : G'.ins = G.ins
theorem Gr.Ok.refl {G : Gr} (h : G.WF) : Gr.Ok G G 0 := ⟨h, Gr.Ext.refl G, by omega, fun h => h, rfl⟩
theorem Gr.Ok.trans {A B C : Gr} {j k : Nat} (h : Gr.Ok A B j) (l : Gr.Ok B C k) : Gr.Ok A C (j + k) := ⟨l.wf, h.ext.trans l.ext, by have := h.len; have := l.len; omega, fun e => l.one (h.one e), l.ins.trans h.ins⟩
theorem Gr.Ok.weaken {A B : Gr} {j k : Nat} (h : Gr.Ok A B j) (l : j <= k) : Gr.Ok A B k := ⟨h.wf, h.ext, by have := h.len; omega, h.one, h.ins⟩
theorem Gr.and_again {G G' : Gr} (h : G.WF) {a b : Nat} (hx : Gr.Ext (G.and a b).2 G') (hw : G'.WF) : G'.and b a = ((G.and a b).1, G') := by
 unfold Gr.and at *
 rw [Nat.min_comm b a, Nat.max_comm b a]
 by_cases h1 : min a b = 0 ∨ min a b = notN (max a b)
 ·simp only [if_pos h1]
 ·by_cases h2 : min a b = 1 ∨ min a b = max a b
  ·simp only [if_neg h1, if_pos h2]
  ·have hp : (min a b, max a b) ≠ (0, 0) := by
    intro he
    simp only [Prod.mk.injEq] at he
    exact h1 (.inl he.1)
   simp only [if_neg h1, if_neg h2] at hx ⊢
   cases hf : find (min a b, max a b) G.known with
   | some n =>
     simp only [hf] at hx ⊢
     have hk := (h.known _ _).1 hf
     rw [(hw.known _ _).2 ⟨hp, hx.get hk.2⟩]
   | none =>
     simp only [hf] at hx ⊢
     rw [(hw.known (min a b, max a b) G.nodes.length).2 ⟨hp, hx.get (by simp)⟩]
def Gr.new : Gr := ⟨[(0, 0)], [], []⟩
def Gr.Laid (G : Gr) (a b e : Nat) : Prop := ∀ G', Gr.Ext G G' -> G'.WF -> G'.and b a = (e, G')
theorem Gr.laid {G : Gr} (h : G.WF) (a b : Nat) : Gr.Laid (G.and a b).2 a b (G.and a b).1 := fun _ hx hw => Gr.and_again h hx hw
theorem Gr.Laid.mono {G G' : Gr} {a b e : Nat} (h : Gr.Laid G a b e) (hx : Gr.Ext G G') : Gr.Laid G' a b e := fun G'' hx' hw => h G'' (hx.trans hx') hw
def RdF (s : Store) (ids : List Nat) (d : D) (l : List D) : Prop := Rd s d l /\ ∀ id off n, d = .arr id off n 1 -> id ∉ ids
theorem RdF.fr {s s' : Store} {ids ids' : List Nat} {d : D} {l : List D} (h : RdF s ids d l) (hf : Fr ids s s') (hm : ∀ i ∈ ids', i ∈ ids ∨ s.next <= i) : RdF s' ids' d l := by
 obtain ⟨h1, h2⟩ := h
 have lt : ∀ id off n, d = .arr id off n 1 -> id < s.next := by
  rintro id off n rfl
  rcases h1 with ⟨h, _⟩ | h | ⟨id', off', cs, h, hg, _⟩
  ·cases h
  ·cases h
  ·cases h; exact get_lts hg
 refine ⟨h1.stay fun id off n hd => hf.2 id (lt id off n hd) (h2 id off n hd), fun id off n hd hc => ?_⟩
 rcases hm id hc with h | h
 ·exact h2 id off n hd h
 ·have := lt id off n hd; omega
theorem RdF.step {s s' : Store} {g : Nat} {ids ids' : List Nat} {G' : Gr} {d : D} {l : List D} (h : RdF s ids d l) (hs : GrStep s g ids s' G' ids') : RdF s' ids' d l := h.fr hs.2.1 hs.2.2
theorem RdF.newer {s s' : Store} {ids : List Nat} {d : D} {l : List D} (h : RdF s ids d l) (hf : Fr [] s s') : RdF s' ids d l := h.fr (hf.weaken (by simp)) fun _ h => .inl h
theorem RdF.of {s : Store} {d : D} {l : List D} {ids : List Nat} (h : ∀ s, Rd s d l) : RdF s ids d l := by
 refine ⟨h s, fun id off n he => ?_⟩
 subst he
 rcases h Store.empty with ⟨h, _⟩ | h | ⟨id', off', cs, h, hg, _⟩
 ·cases h
 ·cases h
 ·simp at hg
end Go.V
namespace Go.V
structure InW (V : List Bool) (ins : List Nat) (top i : Nat) (W : List Bool) : Prop where
 len : W.length = top + 1
 yes : ∀ n j, n <= top -> j < i -> ins[j]? = some n -> W[n]? = V[n]?
 no : ∀ n, n <= top -> (∀ j, j < i -> ins[j]? ≠ some n) -> W[n]? = some false
theorem InW.zero {V : List Bool} {ins : List Nat} {top : Nat} : InW V ins top 0 (List.replicate (top + 1) false) :=
 ⟨by simp, fun n j _ h => by omega, fun n h _ => by rw [List.getElem?_replicate, if_pos (by omega)]⟩
theorem InW.set {V W : List Bool} {ins : List Nat} {top i n : Nat} {b : Bool} (h : InW V ins top i W) (hn : ins[i]? = some n) (ht : n <= top) (hv : V[n]? = some b) : InW V ins top (i + 1) (W.set n b) := by
 refine ⟨by simp [h.len], fun k j hk hj he => ?_, fun k hk hj => ?_⟩
 ·by_cases e : n = k
  ·subst e
   rw [List.getElem?_set_self (by have := h.len; omega), hv]
  ·rw [List.getElem?_set_ne e]
   by_cases e2 : j = i
   ·subst e2; rw [hn] at he; cases he; exact absurd rfl e
   ·exact h.yes k j hk (by omega) he
 ·have e : n ≠ k := fun e => hj i (by omega) (by rw [hn, e])
  rw [List.getElem?_set_ne e]
  exact h.no k hk fun j hj' => hj j (by omega)
theorem InW.same {V W : List Bool} {ins : List Nat} {top i n : Nat} (h : InW V ins top i W) (hn : ins[i]? = some n) (ht : n <= top) (hv : V[n]? = some false) (hnew : ∀ j, j < i -> ins[j]? ≠ some n) : InW V ins top (i + 1) W := by
 refine ⟨h.len, fun k j hk hj he => ?_, fun k hk hj => h.no k hk fun j hj' => hj j (by omega)⟩
 by_cases e2 : j = i
 ·subst e2; rw [hn] at he; cases he
  rw [hv]; exact h.no _ ht hnew
 ·exact h.yes k j hk (by omega) he
theorem InW.all {V W : List Bool} {ins : List Nat} {top : Nat} (h : InW V ins top ins.length W) {n : Nat} (hn : n ∈ ins) (ht : n <= top) : W[n]? = V[n]? := by
 obtain ⟨j, hj, rfl⟩ := List.getElem_of_mem hn
 exact h.yes _ j ht hj (List.getElem?_eq_getElem hj)
end Go.V
namespace Go.V
theorem Sl.newer {s s' : Store} {d : D} {l : List D} {ids : List Nat} (h : Sl s d l ids) (hf : Fr [] s s') : Sl s' d l ids := h.stay hf (by simp)
section
variable {fs : FuncId -> Option VFunc}
end
end Go.V
namespace Go.V
def cellsR : List (Nat × Nat) -> List D
 | [] => []
 | p :: r => .bool (decide (p = (0, 0))) :: .int .i64 (p.1 : Int) :: .int .i64 (p.2 : Int) :: cellsR r
@[simp] theorem cellsR_length : ∀ (l : List (Nat × Nat)), (cellsR l).length = l.length * 3
 | [] => rfl
 | p :: r => by simp only [cellsR, List.length_cons, cellsR_length r]; omega
theorem cellsR_append : ∀ (l m : List (Nat × Nat)), cellsR (l ++ m) = cellsR l ++ cellsR m
 | [], m => rfl
 | p :: r, m => by simp [cellsR, cellsR_append r m]
theorem cellsR_get : ∀ {l : List (Nat × Nat)} {i : Nat} (h : i < l.length), (cellsR l)[i * 3]? = some (.bool (decide (l[i] = (0, 0)))) /\ (cellsR l)[i * 3 + 1]? = some (.int .i64 (l[i].1 : Int)) /\ (cellsR l)[i * 3 + 2]? = some (.int .i64 (l[i].2 : Int))
 | p :: r, 0, h => by simp [cellsR]
 | p :: r, i + 1, h => by
   have ih := cellsR_get (l := r) (i := i) (by simpa using h)
   rw [show (i + 1) * 3 = i * 3 + 1 + 1 + 1 by omega]
   simpa [cellsR, Nat.add_right_comm] using ih
structure RefAt (s : Store) (r : Nat) (N : List (Nat × Nat)) (dl : D) (ids : List Nat) : Prop where
 obj : s.get r = some (.cells [dl])
 row : (dl = .nils /\ N = [] /\ ids = [r]) ∨ ∃ id, dl = .arr id 0 N.length 3 /\ s.get id = some (.cells (cellsR N)) /\ id ≠ r /\ ids = [r, id]
theorem RefAt.one {s : Store} {r : Nat} {N : List (Nat × Nat)} {dl : D} {ids : List Nat} (h : RefAt s r N dl ids) : oneCell dl = true := by
 rcases h.row with ⟨rfl, _⟩ | ⟨id, rfl, _⟩ <;> rfl
theorem RefAt.len {s : Store} {r : Nat} {N : List (Nat × Nat)} {dl : D} {ids : List Nat} (h : RefAt s r N dl ids) : lenV false dl = some (.int .i64 (N.length : Int)) := by
 rcases h.row with ⟨rfl, rfl, _⟩ | ⟨id, rfl, _⟩ <;> rfl
theorem RefAt.idx {s : Store} {r : Nat} {N : List (Nat × Nat)} {dl : D} {ids : List Nat} (h : RefAt s r N dl ids) {i : Nat} (hi : i < N.length) :
 ∃ id, idxAV 3 dl (.int .i64 (i : Int)) = some (.ptr id (i * 3)) /\ ldV s.get none (.ptr id (i * 3)) = some (.bool (decide (N[i] = (0, 0)))) /\ ldV s.get none (.ptr id (i * 3 + 1)) = some (.int .i64 (N[i].1 : Int)) /\ ldV s.get none (.ptr id (i * 3 + 2)) = some (.int .i64 (N[i].2 : Int)) /\
   ldV s.get (some 3) (.ptr id (i * 3)) = some (.agg [.bool (decide (N[i] = (0, 0))), .int .i64 (N[i].1 : Int), .int .i64 (N[i].2 : Int)]) := by
 rcases h.row with ⟨_, rfl, _⟩ | ⟨id, rfl, hg, _, _⟩
 ·simp at hi
 ·obtain ⟨h1, h2, h3⟩ := cellsR_get hi
  refine ⟨id, ?_, ?_, ?_, ?_, ?_⟩
  ·rw [idx_arr rfl (by omega) (by omega)]; simp
  ·simp only [ldV, hg, pull, h1]; rfl
  ·simp only [ldV, hg, pull, h2]; rfl
  ·simp only [ldV, hg, pull, h3]; rfl
  ·simp only [ldV, hg, pull, cellsR_length]
   rw [if_pos (by omega)]
   congr 2
   have hl : i * 3 + 3 <= (cellsR N).length := by rw [cellsR_length]; omega
   have e1 := List.getElem?_eq_some_iff.1 h1
   have e2 := List.getElem?_eq_some_iff.1 h2
   have e3 := List.getElem?_eq_some_iff.1 h3
   obtain ⟨q1, e1⟩ := e1
   obtain ⟨q2, e2⟩ := e2
   obtain ⟨q3, e3⟩ := e3
   rw [List.drop_eq_getElem_cons q1, List.drop_eq_getElem_cons q2, List.drop_eq_getElem_cons q3, e1, e2, e3]
   rfl
theorem RefAt.lt {s : Store} {r : Nat} {N : List (Nat × Nat)} {dl : D} {ids : List Nat} (h : RefAt s r N dl ids) : ∀ i ∈ ids, i < s.next := by
 rcases h.row with ⟨_, _, rfl⟩ | ⟨id, _, hg, _, rfl⟩
 ·intro i hi; simp at hi; subst hi; exact get_lts h.obj
 ·intro i hi; simp at hi
  rcases hi with rfl | rfl
  ·exact get_lts h.obj
  ·exact get_lts hg
theorem RefAt.stay {s s' : Store} {r : Nat} {N : List (Nat × Nat)} {dl : D} {ids ids2 : List Nat} (h : RefAt s r N dl ids) (hf : Fr ids2 s s') (hd : ∀ i ∈ ids, i ∉ ids2) : RefAt s' r N dl ids := by
 have hl := h.lt
 rcases h.row with ⟨rfl, rfl, rfl⟩ | ⟨id, rfl, hg, hne, rfl⟩
 ·exact ⟨by rw [hf.2 r (hl r (by simp)) (hd r (by simp)), h.obj], .inl ⟨rfl, rfl, rfl⟩⟩
 ·exact ⟨by rw [hf.2 r (hl r (by simp)) (hd r (by simp)), h.obj], .inr ⟨id, rfl, by rw [hf.2 id (hl id (by simp)) (hd id (by simp)), hg], hne, rfl⟩⟩
theorem RefAt.app {s : Store} {r : Nat} {N : List (Nat × Nat)} {dl : D} {ids : List Nat} (h : RefAt s r N dl ids) (p : Nat × Nat) (hN : N.length < 1000000) :
 ∃ s' id', appendV 3 24 dl (.arr s.next 0 1 3) (s.push (.cells [.bool (decide (p = (0, 0))), .int .i64 (p.1 : Int), .int .i64 (p.2 : Int)])) = some (.arr id' 0 (N.length + 1) 3, s') /\ s'.get id' = some (.cells (cellsR (N ++ [p]))) /\ s.next <= id' /\ Fr ids s s' /\ s'.get r = some (.cells [dl]) /\ r < s'.next := by
 have hr := get_lts h.obj
 have hg2 : (s.push (.cells [.bool (decide (p = (0, 0))), .int .i64 (p.1 : Int), .int .i64 (p.2 : Int)])).get s.next = some (.cells [.bool (decide (p = (0, 0))), .int .i64 (p.1 : Int), .int .i64 (p.2 : Int)]) := get_push_new rfl
 have b1 : ∀ n, n <= 1000000 -> n * 24 <= 2 ^ 45 /\ n <= 2 ^ 45 := fun n hn => ⟨Nat.le_trans (Nat.mul_le_mul_right _ hn) (by decide), Nat.le_trans hn (by decide)⟩
 rcases h.row with ⟨rfl, rfl, rfl⟩ | ⟨id, rfl, hg, hne, rfl⟩
 ·refine ⟨(s.push (.cells [.bool (decide (p = (0, 0))), .int .i64 (p.1 : Int), .int .i64 (p.2 : Int)])).push (.cells (cellsR [p])), s.next + 1, ?_, get_push_new (by simp), by omega, (Fr.push _).thenPush _, ?_, by simp; omega⟩
  ·unfold appendV
   simp only [rowOf, hg2, srcLen, srcSz, beq_self_eq_true]
   simp [cellsR]
  ·rw [get_push_old (by simp; omega), get_push_old hr]; exact h.obj
 ·have hl := get_lts hg
  refine ⟨((s.push (.cells [.bool (decide (p = (0, 0))), .int .i64 (p.1 : Int), .int .i64 (p.2 : Int)])).set id none).push (.cells (cellsR (N ++ [p]))), s.next + 1, ?_, get_push_new (by simp), by omega, ((Fr.push _).thenSet _ (.inl (by simp))).thenPush _, ?_, by simp; omega⟩
  ·have hg' : (s.push (.cells [.bool (decide (p = (0, 0))), .int .i64 (p.1 : Int), .int .i64 (p.2 : Int)])).get id = some (.cells (cellsR N)) := by rw [get_push_old hl]; exact hg
   have hb := b1 (N.length + 1) (by omega)
   unfold appendV
   simp only [rowOf, hg2, srcLen, srcSz, beq_self_eq_true, hg', cellsR_length, Nat.zero_add]
   simp [cellsR_append, cellsR, hb.1, hb.2]
  ·rw [get_push_old (by simp; omega), get_set_ne (fun e => hne e.symm), get_push_old hr]; exact h.obj
end Go.V
namespace Go.V
section
variable {fs : FuncId -> Option VFunc}
end
end Go.V
namespace Go.V
structure VI (s : Store) (ids : List Nat) (G : Gr) (d : D) (es : List Nat) : Prop where
 rd : RdF s ids d (cellsI es)
 lt : ∀ e ∈ es, e < 2 * G.nodes.length
theorem VI.step {s s' : Store} {g : Nat} {ids ids' : List Nat} {G G' : Gr} {d : D} {es : List Nat} (h : VI s ids G d es) (hs : GrStep s g ids s' G' ids') (hx : Gr.Ext G G') : VI s' ids' G' d es :=
 ⟨h.rd.step hs, fun e he => by have := h.lt e he; have := hx.le; omega⟩
theorem VI.newer {s s' : Store} {ids : List Nat} {G : Gr} {d : D} {es : List Nat} (h : VI s ids G d es) (hf : Fr [] s s') : VI s' ids G d es := ⟨h.rd.newer hf, h.lt⟩
theorem VI.of {s : Store} {ids : List Nat} {G : Gr} {id : Nat} {es : List Nat} {w : Nat} (h : s.get id = some (.cells (cellsI es))) (hw : es.length = w) (hid : id ∉ ids) (hl : ∀ e ∈ es, e < 2 * G.nodes.length) : VI s ids G (.arr id 0 w 1) es := by
 subst hw
 refine ⟨⟨rdI_arr h, fun id' off n he => ?_⟩, hl⟩
 cases he; exact hid
theorem GrStep.nw {s s' s'' : Store} {g : Nat} {ids ids' : List Nat} {G' : Gr} (h : GrStep s g ids s' G' ids') (hf : Fr [] s' s'') : GrStep s g ids s'' G' ids' :=
 ⟨(h.1.newer hf).1, h.2.1.trans hf (by simp), h.2.2⟩
theorem Gr.Ok.get {G G' : Gr} {k : Nat} (h : Gr.Ok G G' k) {m : List Bool} {e : Nat} (he : e < 2 * G.nodes.length) : G'.ev m e = G.ev m e := h.ext.ev he
end Go.V
namespace Go.V
theorem valZ_emod {f : Nat -> Bool} {w : Nat} (h : 0 < w) : valZ f w % 2 ^ w = (num f w : Int) % 2 ^ w := by rw [valZ_trim h, trimZ_emod]
theorem valZ_lo {f : Nat -> Bool} {w : Nat} (h : 0 < w) : -2 ^ (w - 1) <= valZ f w /\ valZ f w < 2 ^ (w - 1) := by rw [valZ_trim h]; exact trimZ_lo h
theorem trimZ_valZ {f : Nat -> Bool} {w : Nat} (h : 0 < w) : trimZ (valZ f w) w = valZ f w := trimZ_id h (valZ_lo h).1 (valZ_lo h).2
theorem num_trim {f : Nat -> Bool} {w : Nat} {n : Int} (h : 0 < w) (e : (num f w : Int) % 2 ^ w = n % 2 ^ w) : valZ f w = trimZ n w := by rw [valZ_trim h, trimZ_mod e]
theorem pow_dvd' {v w : Nat} (h : w <= v) : (2 : Int) ^ w ∣ 2 ^ v := by
 obtain ⟨k, rfl⟩ : ∃ k, v = w + k := ⟨v - w, by omega⟩
 rw [Int.pow_add]; exact Int.dvd_mul_right _ _
theorem pow_le' {v w : Nat} (h : w <= v) : (2 : Int) ^ w <= 2 ^ v := by
 have : (2 : Nat) ^ w <= 2 ^ v := Nat.pow_le_pow_right (by omega) h
 exact_mod_cast this
def bitZ (n : Int) (i : Nat) : Bool := decide (n / 2 ^ i % 2 = 1)
theorem bit_num (n : Int) : ∀ w, (num (bitZ n) w : Int) = n % 2 ^ w
 | 0 => by simp [num]
 | w + 1 => by
   have ih := bit_num n w
   rw [num]
   have e : n % 2 ^ (w + 1) = n % 2 ^ w + 2 ^ w * (n / 2 ^ w % 2) := by
    rw [Int.pow_succ]
    have p := pow_pos' w
    have h1 := Int.emod_add_mul_ediv n (2 ^ w)
    have h2 := Int.emod_add_mul_ediv (n / 2 ^ w) 2
    have h3 := Int.emod_add_mul_ediv n (2 ^ w * 2)
    rw [<- Int.ediv_ediv_of_nonneg (by omega)] at h3
    generalize n / 2 ^ w / 2 = q at *
    generalize n / 2 ^ w = u at *
    generalize u % 2 = r at *
    subst h2
    rw [Int.mul_add, <- Int.mul_assoc] at h1
    omega
   rw [e, <- ih]
   simp only [Int.natCast_add, Int.natCast_mul]
   congr 1
   rw [Int.mul_comm]
   have : ((2 ^ w : Nat) : Int) = 2 ^ w := by simp
   rw [this]
   congr 1
   unfold bitZ
   rcases Int.emod_two_eq (n / 2 ^ w) with h | h <;> simp [h]
theorem bit_val {n : Int} {w : Nat} (h : 0 < w) : valZ (bitZ n) w = trimZ n w := by
 refine num_trim h ?_
 rw [bit_num, Int.emod_emod_of_dvd _ (Int.dvd_refl _)]
theorem i64_and1 {x : Int} : IntKind.i64.wrap (andI .i64 x 1) = x % 2 := by
 show IntKind.i64.wrap ((BitVec.ofInt IntKind.i64.bits x &&& BitVec.ofInt IntKind.i64.bits 1).toNat : Int) = x % 2
 have e1 : (BitVec.ofInt IntKind.i64.bits x &&& BitVec.ofInt IntKind.i64.bits 1).toNat = (x % 2 ^ 64).toNat % 2 := by
  rw [BitVec.toNat_and]
  have a2 : (BitVec.ofInt IntKind.i64.bits (1 : Int)).toNat = 1 := rfl
  rw [a2, Nat.and_one_is_mod, BitVec.toNat_ofInt]
  rfl
 rw [e1]
 have h0 : 0 <= x % 2 ^ 64 := Int.emod_nonneg _ (by decide)
 rw [i64_id (by omega) (by omega)]
 omega
end Go.V
namespace Go.Proofs.Ytlaeblilmppodaa
open Go.V
set_option maxRecDepth 100000
theorem awake21 : ∃ s', Ev vfs 23 [] Store.empty (.bool true) s' := ev_of_fst (n := 400) (by kernel_rfl)
end Go.Proofs.Ytlaeblilmppodaa
namespace Go.V
variable {fs : FuncId -> Option VFunc}
def IsoC (fs : FuncId -> Option VFunc) (f : FuncId) (args : List D) (d : D) : Prop := ∃ r s1, Ev fs f args Store.empty r s1 /\ ice s1.get 20 r = some d
theorem IsoC.det {f : FuncId} {args : List D} {d d' : D} (h : IsoC fs f args d) (k : IsoC fs f args d') : d = d' := by
 obtain ⟨r, s1, h1, h2⟩ := h
 obtain ⟨r', s1', k1, k2⟩ := k
 obtain ⟨rfl, rfl⟩ := h1.det k1
 rw [h2] at k2
 exact Option.some.inj k2
def PZ (d : D) : Prop := pureD d = true /\ Fz d
theorem FL.pz {sz : Nat} {d : D} {rows : List (List D)} (h : FL sz d rows) : PZ d := ⟨h.pure, h.fz⟩
theorem pz_agg {l : List D} (h : ∀ d ∈ l, pureD d = true /\ ∀ g n, ice g (n + 2) d = some d) : PZ (.agg l) := ⟨by
 show pureL l = true
 induction l with
 | nil => rfl
 | cons a r ih => simp only [pureL, (h a (by simp)).1, Bool.true_and]; exact ih fun d hd => h d (by simp [hd]), fz_agg fun d hd => (h d hd).2⟩
def End (Q : VExit -> Env -> Store -> Prop) (e : VExit) (env : Env) (s : Store) : Prop := Q e env s
def RgK (vars : List Nat) (Q : VExit -> Env -> Store -> Prop) (env : Env) (s : Store) : Prop := End Q .normal (env.keep vars) s
abbrev Kt := Env -> Store -> Prop
abbrev Ops := List (Nat × VOper)
abbrev Prs := List (Nat × Nat)
def freeB (pairs : Prs) (ops : Ops) : Bool := ops.all fun o => pairs.all fun p => p.2 != o.1
def XQ (fs : FuncId -> Option VFunc) : Prs -> Ops -> Env -> Store -> Kt -> Prop
 | _, [], env, s, K => K env s
 | pairs, (i, ⟨dst, op, g⟩) :: rest, env, s, K =>
   let run : Prop := match dst, op with
    | some t, .p o => match evP env o with
      | some d => XQ fs pairs rest ((t, d) :: env) s K
      | none => False
    | some t, .r o => match evR env s.get o with
      | some d => XQ fs pairs rest ((t, d) :: env) s K
      | none => False
    | some t, .a o => match pairs with
      | [] => match evA env o with
        | some (ob, m) => XQ fs [] rest ((t, m.at s.next) :: env) (s.push ob) K
        | none => False
      | p :: ps => if freeB (p :: ps) ((i, ⟨some t, .a o, none⟩) :: rest) = true then (match evA env o with
        | some (ob, m) => XQ fs [] rest ((t, m.at s.next) :: env) (s.push ob) K
        | none => False) else WQ fs (p :: ps) ((i, ⟨some t, .a o, none⟩) :: rest) env s K
    | none, .w n a v => match pairs with
      | [] => match evW env s.get n a v with
        | some (id, ob) => XQ fs [] rest env (s.set id (some ob)) K
        | none => False
      | p :: ps => if freeB (p :: ps) ((i, ⟨none, .w n a v, none⟩) :: rest) = true then (match evW env s.get n a v with
        | some (id, ob) => XQ fs [] rest env (s.set id (some ob)) K
        | none => False) else WQ fs (p :: ps) ((i, ⟨none, .w n a v, none⟩) :: rest) env s K
    | some t, .m o => match o, pairs with
      | .call .iso (.cst (.fn f [])) args, pairs => match mapO (ice s.get 20) (env.evL args) with
        | some l => ∃ d, IsoC fs f l d /\ (scalarD d || pureL (env.evL args)) = true /\ XQ fs pairs rest ((t, d) :: env) s K
        | none => False
      | .append sz bytes a x, [] => match appendV sz bytes (env.ev a) (env.ev x) s with
        | some (d, s') => XQ fs [] rest ((t, d) :: env) s' K
        | none => False
      | .append sz bytes a x, p :: ps => if freeB (p :: ps) ((i, ⟨some t, .m (.append sz bytes a x), none⟩) :: rest) = true then (match appendV sz bytes (env.ev a) (env.ev x) s with
        | some (d, s') => XQ fs [] rest ((t, d) :: env) s' K
        | none => False) else WQ fs (p :: ps) ((i, ⟨some t, .m (.append sz bytes a x), none⟩) :: rest) env s K
      | o, pairs => WQ fs pairs ((i, ⟨some t, .m o, none⟩) :: rest) env s K
    | dst, op => WQ fs pairs ((i, ⟨dst, op, none⟩) :: rest) env s K
   match g with
   | none => run
   | some (r, b) => Way (env.get r) b run (XQ fs pairs rest (env.put dst (.tup [])) s K)
def BP (r : Option D) (fs : FuncId -> Option VFunc) (pairs : Prs) (t : Nat) (rest : Ops) (env : Env) (s : Store) (K : Kt) : Prop := match r with
 | some d => XQ fs pairs rest ((t, d) :: env) s K
 | none => False
def BA (r : Option (VObj × Made)) (fs : FuncId -> Option VFunc) (t : Nat) (rest : Ops) (env : Env) (s : Store) (K : Kt) : Prop := match r with
 | some (ob, m) => XQ fs [] rest ((t, m.at s.next) :: env) (s.push ob) K
 | none => False
def BW (r : Option (Nat × VObj)) (fs : FuncId -> Option VFunc) (rest : Ops) (env : Env) (s : Store) (K : Kt) : Prop := match r with
 | some (id, ob) => XQ fs [] rest env (s.set id (some ob)) K
 | none => False
def BM (r : Option (D × Store)) (fs : FuncId -> Option VFunc) (t : Nat) (rest : Ops) (env : Env) (K : Kt) : Prop := match r with
 | some (d, s) => XQ fs [] rest ((t, d) :: env) s K
 | none => False
def BC (fs : FuncId -> Option VFunc) (f : FuncId) (l : List D) (p : Bool) (pairs : Prs) (t : Nat) (rest : Ops) (env : Env) (s : Store) (K : Kt) : Prop := ∃ d, IsoC fs f l d /\ (scalarD d || p) = true /\ XQ fs pairs rest ((t, d) :: env) s K
def BL (r : Option (List D)) (p : Bool) (fs : FuncId -> Option VFunc) (f : FuncId) (pairs : Prs) (t : Nat) (rest : Ops) (env : Env) (s : Store) (K : Kt) : Prop := match r with
 | some l => BC fs f l p pairs t rest env s K
 | none => False
def BF (b : Bool) (d : D) (fs : FuncId -> Option VFunc) (pairs : Prs) (t : Nat) (rest : Ops) (env : Env) (s : Store) (K : Kt) : Prop := match b with
 | true => XQ fs pairs rest ((t, d) :: env) s K
 | false => False
def GW (d : D) (b : Bool) (fs : FuncId -> Option VFunc) (pairs : Prs) (x : Nat × VOper) (t : Option Nat) (rest : Ops) (env : Env) (s : Store) (K : Kt) : Prop := Way d b (XQ fs pairs (x :: rest) env s K) (XQ fs pairs rest (env.put t (.tup [])) s K)
def NeId (a b : Nat) : Prop := a ≠ b
def NotIn (id : Nat) : List Nat -> Prop
 | [] => True
 | x :: r => NeId id x /\ NotIn id r
theorem notIn_mem {id : Nat} : ∀ {l : List Nat}, NotIn id l -> id ∉ l
 | [], _ => by simp
 | x :: r, h => by
   have := notIn_mem h.2
   have h1 : id ≠ x := h.1
   simp [h1, this]
def hasP : Prs -> Nat -> Nat -> Bool
 | [], _, _ => false
 | (a, b) :: r, i, j => match Nat.beq a i with
   | true => match Nat.beq b j with
     | true => true
     | false => hasP r i j
   | false => hasP r i j
theorem hasP_mem : ∀ {l : Prs} {i j : Nat}, (i, j) ∈ l -> hasP l i j = true
 | (a, b) :: r, i, j, h => by
   simp only [hasP]
   rcases List.mem_cons.1 h with h | h
   ·cases h
    have e : ∀ n : Nat, Nat.beq n n = true := fun n => Nat.beq_refl n
    rw [e, e]
   ·have ih := hasP_mem h
    split
    ·split
     ·rfl
     ·exact ih
    ·exact ih
def LdOk (pairs : Prs) (i id : Nat) : List Ent -> Prop
 | [] => True
 | e :: T => (hasP pairs e.i i = true -> NotIn id e.eff) /\ LdOk pairs i id T
theorem ldOk_all {pairs : Prs} {i id : Nat} : ∀ {T : List Ent}, LdOk pairs i id T -> ∀ e ∈ T, (e.i, i) ∈ pairs -> id ∉ e.eff
 | e :: T, h, x, hx, hp => by
   rcases List.mem_cons.1 hx with rfl | hx
   ·exact notIn_mem (h.1 (hasP_mem hp))
   ·exact ldOk_all h.2 x hx hp
def NeO (r : Option Nat) (id : Nat) : Prop := match r with
 | some x => NeId x id
 | none => True
def WrOk (pairs : Prs) (i id : Nat) : List Ent -> Prop
 | [] => True
 | e :: T => (hasP pairs e.i i = true -> NeO e.rd id /\ NotIn id e.eff) /\ WrOk pairs i id T
theorem wrOk_all {pairs : Prs} {i id : Nat} : ∀ {T : List Ent}, WrOk pairs i id T -> ∀ e ∈ T, (e.i, i) ∈ pairs -> e.rd ≠ some id /\ id ∉ e.eff
 | e :: T, h, x, hx, hp => by
   rcases List.mem_cons.1 hx with rfl | hx
   ·obtain ⟨h1, h2⟩ := h.1 (hasP_mem hp)
    refine ⟨fun he => ?_, notIn_mem h2⟩
    rw [he] at h1; exact h1 rfl
   ·exact wrOk_all h.2 x hx hp
def EfOk (pairs : Prs) (i : Nat) (E : List Nat) : List Ent -> Prop
 | [] => True
 | e :: T => (hasP pairs e.i i = true -> match e.rd with | some x => NotIn x E | none => True) /\ EfOk pairs i E T
theorem efOk_all {pairs : Prs} {i : Nat} {E : List Nat} : ∀ {T : List Ent}, EfOk pairs i E T -> ∀ e ∈ T, (e.i, i) ∈ pairs -> ∀ id, e.rd = some id -> id ∉ E
 | e :: T, h, x, hx, hp, id, hr => by
   rcases List.mem_cons.1 hx with rfl | hx
   ·have h1 := h.1 (hasP_mem hp)
    rw [hr] at h1
    exact notIn_mem h1
   ·exact efOk_all h.2 x hx hp id hr
def XX (fs : FuncId -> Option VFunc) (pairs : Prs) : List Ent -> Ops -> Env -> Store -> Kt -> Prop
 | _, [], env, s, K => K env s
 | T, (i, ⟨dst, op, g⟩) :: rest, env, s, K =>
   let run : Prop := match dst, op with
    | some t, .p o => match evP env o with
      | some d => XX fs pairs T rest ((t, d) :: env) s K
      | none => False
    | some t, .r (.load n x) => match env.ev x with
      | .fp cs off => match ldV s.get n (.fp cs off) with
        | some d => XX fs pairs T rest ((t, d) :: env) s K
        | none => False
      | .ptr id off => match ldV s.get n (.ptr id off) with
        | some d => LdOk pairs i id T /\ XX fs pairs (⟨i, some id, []⟩ :: T) rest ((t, d) :: env) s K
        | none => False
      | _ => False
    | some t, .a o => match evA env o with
      | some (ob, m) => XX fs pairs (⟨i, none, [s.next]⟩ :: T) rest ((t, m.at s.next) :: env) (s.push ob) K
      | none => False
    | none, .w n a v => match env.ev a with
      | .ptr id _ => match evW env s.get n a v with
        | some (id', ob) => id' = id /\ WrOk pairs i id T /\ XX fs pairs (⟨i, some id, [id]⟩ :: T) rest env (s.set id (some ob)) K
        | none => False
      | _ => False
    | some t, .m (.call .iso (.cst (.fn f [])) args) => match mapO (ice s.get 20) (env.evL args) with
      | some l => ∃ d, IsoC fs f l d /\ (scalarD d || pureL (env.evL args)) = true /\ XX fs pairs T rest ((t, d) :: env) s K
      | none => False
    | some t, .m (.append sz bytes a x) => ∃ d s' E, appendV sz bytes (env.ev a) (env.ev x) s = some (d, s') /\ s.next <= s'.next /\ (∀ id, id ∉ E -> s.get id = s'.get id) /\ EfOk pairs i E T /\ XX fs pairs (⟨i, none, E⟩ :: T) rest ((t, d) :: env) s' K
    | dst, op => WX fs pairs T ((i, ⟨dst, op, none⟩) :: rest) env s K
   match g with
   | none => run
   | some (r, b) => Way (env.get r) b run (XX fs pairs T rest (env.put dst (.tup [])) s K)
theorem wx_guard {pairs T i t o r b rest s Q} {env : Env} {d : D} (hw : env.get r = d)
 (h : Way d b (WX fs pairs T ((i, ⟨t, o, none⟩) :: rest) env s Q) (WX fs pairs T rest (env.put t (.tup [])) s Q)) : WX fs pairs T ((i, ⟨t, o, some (r, b)⟩) :: rest) env s Q := by
 unfold Way at h
 split at h
 ·rename_i c
  by_cases hc : c = b
  ·rw [if_pos hc] at h; subst hc
   intro tr ht
   obtain ⟨n, env', s', h1, h2⟩ := h tr ht
   refine ⟨n, env', s', ?_, h2⟩
   simp only [runOps, wantV, hw, beq_self_eq_true] at h1 ⊢
   exact h1
  ·rw [if_neg hc] at h
   exact wx_skip (by simp only [wantV, hw]; cases c <;> cases b <;> simp_all) h
 ·exact wx_skip (by simp only [wantV, hw]) h
 ·exact h.elim
theorem xx_sound {pairs : Prs} : ∀ {T : List Ent} {ops : Ops} {env : Env} {s : Store} {K : Kt}, XX fs pairs T ops env s K -> WX fs pairs T ops env s K
 | T, [], env, s, K, h => wx_nil h
 | T, (i, ⟨dst, op, g⟩) :: rest, env, s, K, h => by
   have key : ∀ (h : XX fs pairs T ((i, ⟨dst, op, none⟩) :: rest) env s K), WX fs pairs T ((i, ⟨dst, op, none⟩) :: rest) env s K := by
    intro h
    unfold XX at h
    simp only at h
    split at h
    ·split at h
     ·rename_i d e; exact wx_p e (xx_sound h)
     ·exact h.elim
    ·split at h
     ·rename_i e
      split at h
      ·rename_i d e2; exact wx_fp e e2 (xx_sound h)
      ·exact h.elim
     ·rename_i e
      split at h
      ·rename_i d e2; exact wx_ld e e2 (ldOk_all h.1) (xx_sound h.2)
      ·exact h.elim
     ·exact h.elim
    ·split at h
     ·rename_i ob m e; exact wx_a e (xx_sound h)
     ·exact h.elim
    ·split at h
     ·rename_i e
      split at h
      ·rename_i id' ob e2
       obtain ⟨rfl, h2, h3⟩ := h
       exact wx_w e e2 (wrOk_all h2) (xx_sound h3)
      ·exact h.elim
     ·exact h.elim
    ·split at h
     ·rename_i l hl
      obtain ⟨d, ⟨r, s1, h1, h2⟩, h3, h4⟩ := h
      exact wx_iso rfl hl h1 h2 h3 (xx_sound h4)
     ·exact h.elim
    ·obtain ⟨d, s', E, h1, h2, h3, h4, h5⟩ := h
     exact wx_m ⟨0, by simp only [evM]; exact h1⟩ h3 h2 (efOk_all h4) (xx_sound h5)
    ·exact h
   cases g with
   | none => exact key h
   | some rb =>
     obtain ⟨r, b⟩ := rb
     refine wx_guard (d := env.get r) rfl ?_
     have h' : Way (env.get r) b (XX fs pairs T ((i, ⟨dst, op, none⟩) :: rest) env s K) (XX fs pairs T rest (env.put dst (.tup [])) s K) := h
     unfold Way at h' ⊢
     split at h'
     ·rename_i c _
      split at h'
      ·rename_i hc; simp only [hc, if_true]; exact key h'
      ·rename_i hc; simp only [hc, if_false]; exact xx_sound h'
     ·exact xx_sound h'
     ·exact h'
def RX (fs : FuncId -> Option VFunc) (pairs : Prs) (ops : Ops) (env : Env) (s : Store) (K : Kt) : Prop := match pairs with
 | [] => XQ fs [] ops env s K
 | p :: ps => XX fs (p :: ps) [] ops env s K
def thenF (k : Env -> Store -> Prop) (Q : VExit -> Env -> Store -> Prop) : VExit -> Env -> Store -> Prop
 | .normal, env, s => k env s
 | e, env, s => Q e env s
def YW (fs : FuncId -> Option VFunc) (vars : List Nat) : VCode -> (VExit -> Env -> Store -> Prop) -> Env -> Store -> Prop
 | .skip, Q, env, s => End Q .normal env s
 | .region r, Q, env, s => RX fs r.pairs r.ops env s (RgK vars Q)
 | .seq a b, Q, env, s => YW fs vars a (thenF (YW fs vars b Q) Q) env s
 | .cond c x y, Q, env, s => WayC (env.ev c) (YW fs vars x Q env s) (YW fs vars y Q env s)
 | .block id b, Q, env, s => YW fs vars b (Out' id Q) env s
 | .loop b, Q, env, s => WP fs vars (.loop b) env s Q
 | .exit id, Q, env, s => End Q (.exit id) env s
 | .ret, Q, env, s => End Q .ret env s
def ThenY (fs : FuncId -> Option VFunc) (vars : List Nat) (b : VCode) (Q : VExit -> Env -> Store -> Prop) : VExit -> Env -> Store -> Prop
 | .normal, env, s => YW fs vars b Q env s
 | e, env, s => Q e env s
theorem xq_sound : ∀ {pairs : Prs} {ops : Ops} {env : Env} {s : Store} {K : Kt}, XQ fs pairs ops env s K -> WQ fs pairs ops env s K
 | pairs, [], env, s, K, h => vq_nil h
 | pairs, (i, ⟨dst, op, g⟩) :: rest, env, s, K, h => by
   have key : ∀ (h : XQ fs pairs ((i, ⟨dst, op, none⟩) :: rest) env s K), WQ fs pairs ((i, ⟨dst, op, none⟩) :: rest) env s K := by
    intro h
    unfold XQ at h
    simp only at h
    split at h
    ·split at h
     ·rename_i d e; exact vq_p e (xq_sound h)
     ·exact h.elim
    ·split at h
     ·rename_i d e; exact vq_r e (xq_sound h)
     ·exact h.elim
    ·split at h
     ·split at h
      ·rename_i ob m e; exact vq_a e (xq_sound h)
      ·exact h.elim
     ·split at h
      ·rename_i hf
       refine vq_free' hf ?_
       split at h
       ·rename_i ob m e; exact vq_a e (xq_sound h)
       ·exact h.elim
      ·exact h
    ·split at h
     ·split at h
      ·rename_i ob m e; exact vq_w e (xq_sound h)
      ·exact h.elim
     ·split at h
      ·rename_i hf
       refine vq_free' hf ?_
       split at h
       ·rename_i ob m e; exact vq_w e (xq_sound h)
       ·exact h.elim
      ·exact h
    ·split at h
     ·split at h
      ·rename_i l hl
       obtain ⟨d, ⟨r, s1, h1, h2⟩, h3, h4⟩ := h
       exact vq_iso hl h1 h2 h3 (xq_sound h4)
      ·exact h.elim
     ·split at h
      ·rename_i d s' e; exact vq_append e (xq_sound h)
      ·exact h.elim
     ·split at h
      ·rename_i hf
       refine vq_free' hf ?_
       split at h
       ·rename_i d s' e; exact vq_append e (xq_sound h)
       ·exact h.elim
      ·exact h
     ·exact h
    ·exact h
   cases g with
   | none => exact key h
   | some rb =>
     obtain ⟨r, b⟩ := rb
     refine vq_g (d := env.get r) rfl ?_
     have h' : Way (env.get r) b (XQ fs pairs ((i, ⟨dst, op, none⟩) :: rest) env s K) (XQ fs pairs rest (env.put dst (.tup [])) s K) := h
     unfold Way at h' ⊢
     split at h'
     ·rename_i c _
      split at h'
      ·rename_i hc; simp only [hc, if_true]; exact key h'
      ·rename_i hc; simp only [hc, if_false]; exact xq_sound h'
     ·exact xq_sound h'
     ·exact h'
theorem yw_sound {vars : List Nat} : ∀ {c : VCode} {Q : VExit -> Env -> Store -> Prop} {env : Env} {s : Store}, YW fs vars c Q env s -> WP fs vars c env s Q
 | .skip, _, _, _, h => vw_skip h
 | .region ⟨ops, [], dr⟩, Q, _, _, h => vw_rg (xq_sound h)
 | .region ⟨ops, p :: ps, dr⟩, Q, _, _, h => vw_rgx (xx_sound h)
 | .seq a b, Q, env, s, h => by
   refine vw_seq ((yw_sound (c := a) h).mono fun e env s h => ?_)
   cases e with
   | normal => exact yw_sound (c := b) h
   | exit id => exact h
   | ret => exact h
 | .cond c x y, Q, env, s, h => by
   refine vw_condm (d := env.ev c) rfl ?_
   have h' : WayC (env.ev c) (YW fs vars x Q env s) (YW fs vars y Q env s) := h
   unfold WayC at h' ⊢
   split at h'
   ·split at h'
    ·rename_i hc; simp only [hc, if_true]; exact yw_sound h'
    ·rename_i hc; simp only [hc]; exact yw_sound h'
   ·exact h'
 | .block id b, Q, env, s, h => vw_block (yw_sound (c := b) h)
 | .loop b, Q, env, s, h => h
 | .exit id, _, _, _, h => vw_exit h
 | .ret, _, _, _, h => vw_ret h
theorem then_eq {vars b Q} : thenF (YW fs vars b Q) Q = ThenY fs vars b Q := by
 funext e env s
 cases e <;> rfl
theorem yw_skip {vars Q env s} : YW fs vars .skip Q env s = End Q .normal env s := Eq.trans rfl rfl
theorem yw_seq {vars a b Q env s} : YW fs vars (.seq a b) Q env s = YW fs vars a (ThenY fs vars b Q) env s := by rw [<- then_eq]; rfl
def CW (d : D) (fs : FuncId -> Option VFunc) (vars : List Nat) (x y : VCode) (Q : VExit -> Env -> Store -> Prop) (env : Env) (s : Store) : Prop := WayC d (YW fs vars x Q env s) (YW fs vars y Q env s)
theorem yw_cond {vars c x y Q env s} : YW fs vars (.cond c x y) Q env s = CW (env.ev c) fs vars x y Q env s := Eq.trans rfl rfl
theorem yw_block {vars id b Q env s} : YW fs vars (.block id b) Q env s = YW fs vars b (Out' id Q) env s := Eq.trans rfl rfl
theorem yw_exit {vars id Q env s} : YW fs vars (.exit id) Q env s = End Q (.exit id) env s := Eq.trans rfl rfl
theorem yw_loop {vars b Q env s} : YW fs vars (.loop b) Q env s = WP fs vars (.loop b) env s Q := Eq.trans rfl rfl
theorem yw_ret {vars Q env s} : YW fs vars .ret Q env s = End Q .ret env s := Eq.trans rfl rfl
theorem xq_nil {pairs vars Q env s} : XQ fs pairs [] env s (RgK vars Q) = End Q .normal (env.keep vars) s := Eq.trans rfl rfl
theorem xq_g {pairs i t o r b rest env s K} : XQ fs pairs ((i, ⟨t, o, some (r, b)⟩) :: rest) env s K = GW (env.get r) b fs pairs (i, ⟨t, o, none⟩) t rest env s K := Eq.trans rfl rfl
theorem xq_i {pairs i t f args rest env s K} : XQ fs pairs ((i, ⟨some t, .m (.call .iso (.cst (.fn f [])) args), none⟩) :: rest) env s K = BL (mapO (ice s.get 20) (env.evL args)) (pureL (env.evL args)) fs f pairs t rest env s K := by
 unfold XQ BL BC; cases pairs <;> rfl
theorem xq_c {pairs i t f args rest env s K} : XQ fs pairs ((i, ⟨some t, .m (.call .raw f args), none⟩) :: rest) env s K = WQ fs pairs ((i, ⟨some t, .m (.call .raw f args), none⟩) :: rest) env s K := by cases pairs <;> rfl
theorem xq_ap {i t sz bytes a x rest env s K} : XQ fs [] ((i, ⟨some t, .m (.append sz bytes a x), none⟩) :: rest) env s K = BM (appendV sz bytes (env.ev a) (env.ev x) s) fs t rest env K := Eq.trans rfl rfl
theorem bp_s {d pairs t rest env s K} : BP (some d) fs pairs t rest env s K = XQ fs pairs rest ((t, d) :: env) s K := Eq.trans rfl rfl
theorem ba_p {ob t rest env s K} : BA (some (ob, .ptr)) fs t rest env s K = XQ fs [] rest ((t, .ptr s.next 0) :: env) (s.push ob) K := Eq.trans rfl rfl
theorem ba_r {ob t rest env s K l sz} : BA (some (ob, .arr l sz)) fs t rest env s K = XQ fs [] rest ((t, .arr s.next 0 l sz) :: env) (s.push ob) K := Eq.trans rfl rfl
theorem bw_s {id ob rest env s K} : BW (some (id, ob)) fs rest env s K = XQ fs [] rest env (s.set id (some ob)) K := Eq.trans rfl rfl
theorem bl_s {l p f pairs t rest env s K} : BL (some l) p fs f pairs t rest env s K = BC fs f l p pairs t rest env s K := Eq.trans rfl rfl
theorem bf_t {d pairs t rest env s K} : BF true d fs pairs t rest env s K = XQ fs pairs rest ((t, d) :: env) s K := Eq.trans rfl rfl
theorem cw_t {vars x y Q env s} : CW (.bool true) fs vars x y Q env s = YW fs vars x Q env s := by simp [CW, WayC]
theorem cw_f {vars x y Q env s} : CW (.bool false) fs vars x y Q env s = YW fs vars y Q env s := by simp [CW, WayC]
theorem gw_tt {pairs x t rest env s K} : GW (.bool true) true fs pairs x t rest env s K = XQ fs pairs (x :: rest) env s K := by simp [GW, Way]
theorem gw_ff {pairs x t rest env s K} : GW (.bool false) false fs pairs x t rest env s K = XQ fs pairs (x :: rest) env s K := by simp [GW, Way]
theorem gw_tf {pairs x t rest env s K} : GW (.bool true) false fs pairs x t rest env s K = XQ fs pairs rest (env.put t (.tup [])) s K := by simp [GW, Way]
theorem gw_ft {pairs x t rest env s K} : GW (.bool false) true fs pairs x t rest env s K = XQ fs pairs rest (env.put t (.tup [])) s K := by simp [GW, Way]
theorem gw_u {b pairs x t rest env s K} : GW (.tup []) b fs pairs x t rest env s K = XQ fs pairs rest (env.put t (.tup [])) s K := Eq.trans rfl rfl
theorem put_s {env : Env} {t d} : env.put (some t) d = (t, d) :: env := Eq.trans rfl rfl
theorem en_tn {vars b Q env s} : End (ThenY fs vars b Q) .normal env s = YW fs vars b Q env s := Eq.trans rfl rfl
theorem en_te {vars b Q id env s} : End (ThenY fs vars b Q) (.exit id) env s = End Q (.exit id) env s := Eq.trans rfl rfl
theorem en_tr {vars b Q env s} : End (ThenY fs vars b Q) .ret env s = End Q .ret env s := Eq.trans rfl rfl
theorem en_on {id Q env s} : End (Out' id Q) .normal env s = End Q .normal env s := Eq.trans rfl rfl
theorem en_or {id Q env s} : End (Out' id Q) .ret env s = End Q .ret env s := Eq.trans rfl rfl
theorem en_oe {id id' Q env s} : End (Out' id Q) (.exit id') env s = if id' = id then End Q .normal env s else End Q (.exit id') env s := Eq.trans rfl rfl
theorem cw_sp {b : Bool} {vars x y Q env s} (h1 : b = true -> YW fs vars x Q env s) (h2 : b = false -> YW fs vars y Q env s) : CW (.bool b) fs vars x y Q env s := by
 cases b
 ·rw [cw_f]; exact h2 rfl
 ·rw [cw_t]; exact h1 rfl
theorem gw_sp {c b : Bool} {pairs x t rest env s K} (h1 : c = true -> GW (.bool true) b fs pairs x t rest env s K) (h2 : c = false -> GW (.bool false) b fs pairs x t rest env s K) : GW (.bool c) b fs pairs x t rest env s K := by
 cases c
 ·exact h2 rfl
 ·exact h1 rfl
theorem ic_nil {g : Look} {n : Nat} : mapO (ice g (n + 1)) [] = some [] := Eq.trans rfl rfl
theorem ic_int {g : Look} {n : Nat} {k : IntKind} {x : Int} {l : List D} : mapO (ice g (n + 1)) (.int k x :: l) = (mapO (ice g (n + 1)) l).map (.int k x :: ·) := by
 simp only [mapO, ice]; cases mapO (ice g (n + 1)) l <;> rfl
theorem ic_bool {g : Look} {n : Nat} {x : Bool} {l : List D} : mapO (ice g (n + 1)) (.bool x :: l) = (mapO (ice g (n + 1)) l).map (.bool x :: ·) := by
 simp only [mapO, ice]; cases mapO (ice g (n + 1)) l <;> rfl
theorem ic_pz {g : Look} {n : Nat} {d : D} {l : List D} (h : PZ d) : mapO (ice g (n + 3)) (d :: l) = (mapO (ice g (n + 3)) l).map (d :: ·) := by
 simp only [mapO, h.2 g n]; cases mapO (ice g (n + 3)) l <;> rfl
theorem ic_ice {g : Look} {n : Nat} {d d' : D} {l : List D} (h : ice g n d = some d') : mapO (ice g n) (d :: l) = (mapO (ice g n) l).map (d' :: ·) := by
 simp only [mapO, h]; cases mapO (ice g n) l <;> rfl
theorem pd_pz {d : D} (h : PZ d) : pureD d = true := h.1
theorem pl_nil : pureL [] = true := Eq.trans rfl rfl
theorem pl_cons {d : D} {l : List D} : pureL (d :: l) = (pureD d && pureL l) := Eq.trans rfl rfl
theorem pd_int {k : IntKind} {n : Int} : pureD (.int k n) = true := Eq.trans rfl rfl
theorem sd_int {k : IntKind} {n : Int} : scalarD (.int k n) = true := Eq.trans rfl rfl
theorem sd_bool {b : Bool} : scalarD (.bool b) = true := Eq.trans rfl rfl
theorem sd_agg {l : List D} : scalarD (.agg l) = scalarL l := Eq.trans rfl rfl
theorem sd_tup {l : List D} : scalarD (.tup l) = scalarL l := Eq.trans rfl rfl
theorem sl_nil : scalarL [] = true := Eq.trans rfl rfl
theorem sl_cons {d : D} {l : List D} : scalarL (d :: l) = (scalarD d && scalarL l) := Eq.trans rfl rfl
theorem ice_int {g : Look} {n : Nat} {k : IntKind} {x : Int} : ice g (n + 1) (.int k x) = some (.int k x) := Eq.trans rfl rfl
theorem ice_bool {g : Look} {n : Nat} {x : Bool} : ice g (n + 1) (.bool x) = some (.bool x) := Eq.trans rfl rfl
theorem ice_tup {g : Look} {n : Nat} {l : List D} : ice g (n + 1) (.tup l) = (mapO (ice g n) l).map .tup := Eq.trans rfl rfl
theorem res_1 {env : Env} {s : Store} {x} : resOf env s [x] = resOne env s x := by
 unfold resOf resAll
 cases resOne env s x <;> rfl
theorem res_2 {env : Env} {s : Store} {x y l} : resOf env s (x :: y :: l) = (resAll env s (x :: y :: l)).map .tup := by
 unfold resOf
 simp only [resAll]
 cases resOne env s x <;> cases resOne env s y <;> cases resAll env s l <;> rfl
theorem res_n {env : Env} {s : Store} : resAll env s [] = some [] := Eq.trans rfl rfl
theorem res_c {env : Env} {s : Store} {x l} : resAll env s (x :: l) = (resOne env s x).bind fun d => (resAll env s l).map (d :: ·) := by
 simp only [resAll]
 cases resOne env s x <;> cases resAll env s l <;> rfl
theorem res_o {env : Env} {s : Store} {t} : resOne env s (t, none) = some (env.get t) := Eq.trans rfl rfl
def resPl (s : Store) (n : Option Nat) : D -> Option D
 | .ptr id off => ldV s.get n (.ptr id off)
 | _ => none
theorem res_s {env : Env} {s : Store} {t n} : resOne env s (t, some n) = resPl s n (env.get t) := by
 simp only [resOne, resPl]
 cases h : env.get t <;> rfl
theorem res_l {s : Store} {n id off} : resPl s n (.ptr id off) = ldV s.get n (.ptr id off) := Eq.trans rfl rfl
def RetQ (res : List (Nat × Option (Option Nat))) (P : D -> Store -> Prop) : VExit -> Env -> Store -> Prop := fun e env s => (e = .normal ∨ e = .ret) /\ ∃ d, resOf env s res = some d /\ P d s
def RB (r : Option D) (s : Store) (P : D -> Store -> Prop) : Prop := match r with
 | some d => P d s
 | none => False
theorem rq_r {res P env s} : End (RetQ res P) .ret env s = RB (resOf env s res) s P := by
 unfold End RetQ RB
 apply propext
 cases resOf env s res <;> simp
theorem rb_of {d s} {P : D -> Store -> Prop} (h : P d s) : RB (some d) s P := h
def IceQ (x : D) : D -> Store -> Prop := fun r s => ice s.get 20 r = some x
theorem rb_i {d s x} : RB (some d) s (IceQ x) = (ice s.get 20 d = some x) := Eq.trans rfl rfl
def IceP (P : D -> Prop) : D -> Store -> Prop := fun r s => ∃ d, ice s.get 20 r = some d /\ P d
theorem rb_p {d s P} : RB (some d) s (IceP P) = ∃ x, ice s.get 20 d = some x /\ P x := Eq.trans rfl rfl
theorem yevp {f : FuncId} {vf : VFunc} {args : List D} {s : Store} {P : D -> Store -> Prop} (hf : fs f = some vf) (h : YW fs vf.vars vf.code (RetQ vf.res P) (vf.vars.map fun t => (t, args.getD t .undef)) s) : EvP fs f args s P := evp_of hf (yw_sound h)
theorem yiso {f : FuncId} {vf : VFunc} {args : List D} {d : D} (hf : fs f = some vf) (h : YW fs vf.vars vf.code (RetQ vf.res (IceQ d)) (vf.vars.map fun t => (t, args.getD t .undef)) Store.empty) : IsoC fs f args d := by
 obtain ⟨r, s1, h1, h2⟩ := yevp hf h
 exact ⟨r, s1, h1, h2⟩
def IsoP (fs : FuncId -> Option VFunc) (f : FuncId) (args : List D) (P : D -> Prop) : Prop := ∃ d, IsoC fs f args d /\ P d
theorem yisop {f : FuncId} {vf : VFunc} {args : List D} {P : D -> Prop} (hf : fs f = some vf) (h : YW fs vf.vars vf.code (RetQ vf.res (IceP P)) (vf.vars.map fun t => (t, args.getD t .undef)) Store.empty) : IsoP fs f args P := by
 obtain ⟨r, s1, h1, d, h2, h3⟩ := yevp hf h
 exact ⟨d, ⟨r, s1, h1, h2⟩, h3⟩
theorem xq_evp {i t f args rest s K} {env : Env} {l : List D} {P : D -> Store -> Prop} (hr : EvP fs f l s P) (ha : env.evL args = l)
 (h : ∀ d s', P d s' -> XQ fs [] rest ((t, d) :: env) s' K) : WQ fs [] ((i, ⟨some t, .m (.call .raw (.cst (.fn f [])) args), none⟩) :: rest) env s K := vq_evpf hr ha fun d s' hp => xq_sound (h d s' hp)
inductive Rf {α : Type} (a b : α) : Prop where
 | mk (h : a = b)
def getO : Env -> Nat -> Option D
 | [], _ => none
 | (s, d) :: r, t => match Nat.beq s t with
   | true => some d
   | false => getO r t
theorem getO_get : ∀ {env : Env} {t : Nat} {d : D}, getO env t = some d -> env.get t = d
 | [], _, _, h => by simp [getO] at h
 | (s, d) :: r, t, d', h => by
   simp only [getO] at h
   split at h
   ·rename_i e
    have := Nat.eq_of_beq_eq_true e
    cases h
    simp only [Env.get, this, if_true]
   ·rename_i e
    have : s ≠ t := fun he => by subst he; simp at e
    simp only [Env.get, this, if_false]
    exact getO_get h
theorem get_is {env : Env} {t : Nat} {d : D} (h : Rf (getO env t) (some d)) : Env.get env t = d := getO_get h.1
def keepO : List Nat -> Env -> Option Env
 | [], _ => some []
 | t :: r, env => match getO env t with
   | some d => match keepO r env with
     | some l => some ((t, d) :: l)
     | none => none
   | none => none
theorem keepO_keep : ∀ {vars : List Nat} {env e : Env}, keepO vars env = some e -> env.keep vars = e
 | [], _, _, h => by simp [keepO] at h; exact h.symm
 | t :: r, env, e, h => by
   simp only [keepO] at h
   split at h
   ·rename_i d hd
    split at h
    ·rename_i l hl
     cases h
     show (t, env.get t) :: env.keep r = _
     rw [getO_get hd, keepO_keep hl]
    ·cases h
   ·cases h
theorem keep_is {vars : List Nat} {env e : Env} (h : Rf (keepO vars env) (some e)) : env.keep vars = e := keepO_keep h.1
def formE (vars l : List Nat) (e0 : Env) (f : Nat -> D) : Env := vars.map fun t => (t, if l.contains t then e0.get t else f t)
def hasB : List Nat -> Nat -> Bool
 | [], _ => false
 | s :: r, t => match Nat.beq s t with
   | true => true
   | false => hasB r t
theorem hasB_eq : ∀ {l : List Nat} {t : Nat}, hasB l t = l.contains t
 | [], _ => rfl
 | s :: r, t => by
   simp only [hasB, List.contains_cons]
   split
   ·rename_i e
    have := Nat.eq_of_beq_eq_true e
    simp [this]
   ·rename_i e
    have : (t == s) = false := by
     rw [beq_eq_false_iff_ne]; intro he; subst he; simp at e
    rw [this, Bool.false_or]; exact hasB_eq
def formO : List Nat -> List Nat -> Env -> (Nat -> D) -> Option Env
 | [], _, _, _ => some []
 | t :: r, l, e0, f => match hasB l t with
   | true => match getO e0 t with
     | some d => match formO r l e0 f with
       | some e => some ((t, d) :: e)
       | none => none
     | none => none
   | false => match formO r l e0 f with
     | some e => some ((t, f t) :: e)
     | none => none
theorem formO_form : ∀ {vars l : List Nat} {e0 e : Env} {f : Nat -> D}, formO vars l e0 f = some e -> formE vars l e0 f = e
 | [], _, _, _, _, h => by simp [formO] at h; exact h.symm
 | t :: r, l, e0, e, f, h => by
   simp only [formO] at h
   show (t, if l.contains t then e0.get t else f t) :: formE r l e0 f = e
   rw [<- hasB_eq]
   split at h
   ·rename_i hb
    split at h
    ·rename_i d hd
     split at h
     ·rename_i e' he
      cases h
      rw [hb, if_pos rfl, getO_get hd, formO_form he]
     ·cases h
    ·cases h
   ·rename_i hb
    split at h
    ·rename_i e' he
     cases h
     rw [hb, if_neg (by simp), formO_form he]
    ·cases h
theorem form_is {vars l : List Nat} {e0 e : Env} {f : Nat -> D} (h : Rf (formO vars l e0 f) (some e)) : formE vars l e0 f = e := formO_form h.1
def KeepE (vars l : List Nat) (e0 e : Env) : Prop := e.keep vars = e /\ e.keep l = e0.keep l
theorem keepE_is {vars l : List Nat} {e0 e x : Env} (h1 : Rf (keepO vars e) (some e)) (h2 : Rf (keepO l e0) (some x)) (h3 : Rf (keepO l e) (some x)) : KeepE vars l e0 e = True := eq_true ⟨keepO_keep h1.1, by rw [keepO_keep h2.1, keepO_keep h3.1]⟩
theorem keep_mem {l : List Nat} {e e0 : Env} (h : e.keep l = e0.keep l) {t : Nat} (ht : t ∈ l) : e.get t = e0.get t := by
 unfold Env.keep at h
 have := List.map_inj_left.1 h t ht
 simpa using this
theorem form_of {vars l : List Nat} {e0 e : Env} (h : KeepE vars l e0 e) : e = formE vars l e0 fun t => e.get t := by
 conv => lhs; rw [<- h.1]
 unfold Env.keep formE
 refine List.map_congr_left fun t _ => ?_
 by_cases ht : t ∈ l
 ·rw [if_pos (List.contains_iff_mem.2 ht), keep_mem h.2 ht]
 ·rw [if_neg (by simpa using ht)]
abbrev It := Nat -> (Nat -> D) -> Store -> Prop
def UpQ (vars l : List Nat) (e0 : Env) (n i : Nat) (I : It) (Q : VExit -> Env -> Store -> Prop) : VExit -> Env -> Store -> Prop
 | .normal, env, s => KeepE vars l e0 env /\ i < n /\ I (i + 1) (fun t => env.get t) s
 | e, env, s => Q e env s
theorem uq_n {vars l e0 n i I Q env s} : End (UpQ vars l e0 n i I Q) .normal env s = (KeepE vars l e0 env /\ i < n /\ I (i + 1) (fun t => env.get t) s) := Eq.trans rfl rfl
theorem uq_e {vars l e0 n i I Q id env s} : End (UpQ vars l e0 n i I Q) (.exit id) env s = End Q (.exit id) env s := Eq.trans rfl rfl
theorem uq_r {vars l e0 n i I Q env s} : End (UpQ vars l e0 n i I Q) .ret env s = End Q .ret env s := Eq.trans rfl rfl
theorem keepE_refl {vars l : List Nat} {e : Env} (h : Rf (keepO vars e) (some e)) : KeepE vars l e e := ⟨keepO_keep h.1, rfl⟩
theorem yw_up {vars b Q env0 s0} (l : List Nat) (a n : Nat) (I : It) (h1 : Rf (keepO vars env0) (some env0)) (ha : a <= n) (h0 : I a (fun t => env0.get t) s0) (hs : ∀ i f s, i <= n -> I i f s -> YW fs vars b (UpQ vars l env0 n i I Q) (formE vars l env0 f) s) : WP fs vars (.loop b) env0 s0 Q := by
 refine vw_loop_inv (fun k env s => ∃ i, i <= n /\ k = n - i /\ KeepE vars l env0 env /\ I i (fun t => env.get t) s) ?_ (n - a) _ _ ⟨a, ha, rfl, keepE_refl h1, h0⟩
 rintro k env s ⟨i, hi, rfl, hk, hI⟩
 have := hs i _ s hi hI
 rw [<- form_of hk] at this
 refine (yw_sound this).mono fun e env' s' h => ?_
 cases e with
 | normal =>
   obtain ⟨h1, h2, h3⟩ := h
   exact ⟨n - (i + 1), by omega, i + 1, by omega, rfl, h1, h3⟩
 | exit id => exact h
 | ret => exact h
def CutQ (vars l : List Nat) (e0 : Env) (P : (Nat -> D) -> Store -> Prop) (Q : VExit -> Env -> Store -> Prop) : VExit -> Env -> Store -> Prop
 | .normal, env, s => KeepE vars l e0 env /\ P (fun t => env.get t) s
 | e, env, s => Q e env s
theorem cq_n {vars l e0 P Q env s} : End (CutQ vars l e0 P Q) .normal env s = (KeepE vars l e0 env /\ P (fun t => env.get t) s) := Eq.trans rfl rfl
theorem WQ.mono {pairs ops env s} {K K' : Env -> Store -> Prop} (h : WQ fs pairs ops env s K) (hk : ∀ env s, K env s -> K' env s) : WQ fs pairs ops env s K' := fun tr ht => by
 obtain ⟨n, env', s', h1, h2⟩ := h tr ht
 exact ⟨n, env', s', h1, hk _ _ h2⟩
theorem Way.mono {d : D} {b : Bool} {A B A' B' : Prop} (h : Way d b A B) (h1 : A -> A') (h2 : B -> B') : Way d b A' B' := by
 unfold Way at *; split at h
 ·split at h
  ·rename_i hc; rw [if_pos hc]; exact h1 h
  ·rename_i hc; rw [if_neg hc]; exact h2 h
 ·exact h2 h
 ·exact h
theorem WayC.mono {d : D} {A B A' B' : Prop} (h : WayC d A B) (h1 : A -> A') (h2 : B -> B') : WayC d A' B' := by
 unfold WayC at *; split at h
 ·split at h
  ·rename_i hc; rw [if_pos hc]; exact h1 h
  ·rename_i hc; rw [if_neg hc]; exact h2 h
 ·exact h
theorem WX.mono {pairs T ops env s} {K K' : Kt} (h : WX fs pairs T ops env s K) (hk : ∀ env s, K env s -> K' env s) : WX fs pairs T ops env s K' := fun tr ht => by
 obtain ⟨n, env', s', h1, h2⟩ := h tr ht
 exact ⟨n, env', s', h1, hk _ _ h2⟩
theorem wp_cut {vars c Q env s id} (l : List Nat) (P : (Nat -> D) -> Store -> Prop) (h : WP fs vars c env s (Out' id (CutQ vars l env P Q))) (k : ∀ f s, P f s -> End Q .normal (formE vars l env f) s) : WP fs vars c env s (Out' id Q) := by
 have key : ∀ env' s, CutQ vars l env P Q .normal env' s -> Q .normal env' s := fun env' s h => by
  have := k _ s h.2
  rw [<- form_of h.1] at this
  exact this
 refine WP.mono h fun e env' s h => ?_
 cases e with
 | normal => exact key _ _ h
 | exit id' =>
   simp only [Out'] at h ⊢
   by_cases hc : id' = id
   ·rw [if_pos hc] at h ⊢; exact key _ _ h
   ·rw [if_neg hc] at h ⊢; exact h
 | ret => exact h
theorem ev_tmp {env : Env} {t : Nat} : env.ev (.tmp t) = env.get t := Eq.trans rfl rfl
theorem ev_cst {env : Env} {d : D} : env.ev (.cst d) = d := Eq.trans rfl rfl
theorem ww_q {pairs i t o rest env s K} : XQ fs pairs (xq i t o :: rest) env s K = BP (evP env o) fs pairs t rest env s K := Eq.trans rfl rfl
theorem ww_g {pairs i t o g b rest env s K} : XQ fs pairs (xg i t o g b :: rest) env s K = GW (env.get g) b fs pairs (xq i t o) (some t) rest env s K := Eq.trans rfl rfl
theorem ww_m {pairs i t x rest env s K} : XQ fs pairs (xm i t x :: rest) env s K = BP (some (env.get x)) fs pairs t rest env s K := Eq.trans rfl rfl
theorem ww_mg {pairs i t x g b rest env s K} : XQ fs pairs (xmg i t x g b :: rest) env s K = GW (env.get g) b fs pairs (xm i t x) (some t) rest env s K := Eq.trans rfl rfl
theorem ww_c {pairs i t d rest env s K} : XQ fs pairs (xc i t d :: rest) env s K = XQ fs pairs rest ((t, d) :: env) s K := Eq.trans rfl rfl
theorem ww_l {pairs i t n x rest env s K} : XQ fs pairs (xl i t n x :: rest) env s K = BP (ldV s.get n (env.get x)) fs pairs t rest env s K := by
 rw [<- show env.ev (.tmp x) = env.get x from rfl, <- evR_load]; rfl
theorem ww_lg {pairs i t n x g b rest env s K} : XQ fs pairs (xlg i t n x g b :: rest) env s K = GW (env.get g) b fs pairs (xl i t n x) (some t) rest env s K := Eq.trans rfl rfl
theorem ww_f {pairs i t off x rest env s K} : XQ fs pairs (xf i t off x :: rest) env s K = BP (evP env (.fieldA off (.tmp x))) fs pairs t rest env s K := Eq.trans rfl rfl
theorem ww_fg {pairs i t off x g b rest env s K} : XQ fs pairs (xfg i t off x g b :: rest) env s K = GW (env.get g) b fs pairs (xf i t off x) (some t) rest env s K := Eq.trans rfl rfl
theorem ww_a0 {i t o rest env s K} : XQ fs [] (xa i t o :: rest) env s K = BA (evA env o) fs t rest env s K := Eq.trans rfl rfl
theorem ww_w0 {i n a v rest env s K} : XQ fs [] (xw i n a v :: rest) env s K = BW (evW env s.get n (.tmp a) v) fs rest env s K := Eq.trans rfl rfl
theorem ww_i {pairs i t f args rest env s K} : XQ fs pairs (xi i t f args :: rest) env s K = BL (mapO (ice s.get 20) (env.evL args)) (pureL (env.evL args)) fs f pairs t rest env s K := xq_i
theorem ww_ig {pairs i t f args g b rest env s K} : XQ fs pairs (xig i t f args g b :: rest) env s K = GW (env.get g) b fs pairs (xi i t f args) (some t) rest env s K := Eq.trans rfl rfl
theorem ww_k {pairs i t f args rest env s K} : XQ fs pairs (xk i t f args :: rest) env s K = WQ fs pairs (xk i t f args :: rest) env s K := xq_c
theorem ww_o {pairs i t o g rest env s K} : XQ fs pairs (xo i t o g :: rest) env s K = XQ fs pairs ((i, ⟨t, o, g⟩) :: rest) env s K := Eq.trans rfl rfl
theorem wy_r {vars l Q env s} : YW fs vars (xr l) Q env s = XQ fs [] l env s (RgK vars Q) := Eq.trans rfl rfl
theorem wy_rp {vars l b Q env s} : YW fs vars (xrp l [] b) Q env s = XQ fs [] l env s (RgK vars Q) := Eq.trans rfl rfl
theorem wy_rx {vars l p ps b Q env s} : YW fs vars (xrp l (p :: ps) b) Q env s = XX fs (p :: ps) [] l env s (RgK vars Q) := Eq.trans rfl rfl
theorem nx_empty : Store.empty.next = 0 := Eq.trans rfl rfl
def BX (r : Option D) (fs : FuncId -> Option VFunc) (pairs : Prs) (T : List Ent) (t : Nat) (rest : Ops) (env : Env) (s : Store) (K : Kt) : Prop := match r with
 | some d => XX fs pairs T rest ((t, d) :: env) s K
 | none => False
def BD (d : D) (n : Option Nat) (i : Nat) (fs : FuncId -> Option VFunc) (pairs : Prs) (T : List Ent) (t : Nat) (rest : Ops) (env : Env) (s : Store) (K : Kt) : Prop := match d with
 | .fp cs off => match ldV s.get n (.fp cs off) with
   | some d => XX fs pairs T rest ((t, d) :: env) s K
   | none => False
 | .ptr id off => match ldV s.get n (.ptr id off) with
   | some d => LdOk pairs i id T /\ XX fs pairs (⟨i, some id, []⟩ :: T) rest ((t, d) :: env) s K
   | none => False
 | _ => False
def BE (C : Prop) (r : Option D) (fs : FuncId -> Option VFunc) (pairs : Prs) (T : List Ent) (t : Nat) (rest : Ops) (env : Env) (s : Store) (K : Kt) : Prop := C /\ BX r fs pairs T t rest env s K
def AX (r : Option (VObj × Made)) (i : Nat) (fs : FuncId -> Option VFunc) (pairs : Prs) (T : List Ent) (t : Nat) (rest : Ops) (env : Env) (s : Store) (K : Kt) : Prop := match r with
 | some (ob, m) => XX fs pairs (⟨i, none, [s.next]⟩ :: T) rest ((t, m.at s.next) :: env) (s.push ob) K
 | none => False
def UX (d : D) (r : Option (Nat × VObj)) (i : Nat) (fs : FuncId -> Option VFunc) (pairs : Prs) (T : List Ent) (rest : Ops) (env : Env) (s : Store) (K : Kt) : Prop := match d with
 | .ptr id _ => match r with
   | some (id', ob) => id' = id /\ WrOk pairs i id T /\ XX fs pairs (⟨i, some id, [id]⟩ :: T) rest env (s.set id (some ob)) K
   | none => False
 | _ => False
def VX (C : Prop) (fs : FuncId -> Option VFunc) (pairs : Prs) (T : List Ent) (rest : Ops) (env : Env) (s : Store) (K : Kt) : Prop := C /\ XX fs pairs T rest env s K
def MX (d x : D) (sz bytes i : Nat) (fs : FuncId -> Option VFunc) (pairs : Prs) (T : List Ent) (t : Nat) (rest : Ops) (env : Env) (s : Store) (K : Kt) : Prop := ∃ d' s' E, appendV sz bytes d x s = some (d', s') /\ s.next <= s'.next /\ (∀ id, id ∉ E -> s.get id = s'.get id) /\ EfOk pairs i E T /\ XX fs pairs (⟨i, none, E⟩ :: T) rest ((t, d') :: env) s' K
def CX (fs : FuncId -> Option VFunc) (f : FuncId) (l : List D) (p : Bool) (pairs : Prs) (T : List Ent) (t : Nat) (rest : Ops) (env : Env) (s : Store) (K : Kt) : Prop := ∃ d, IsoC fs f l d /\ (scalarD d || p) = true /\ XX fs pairs T rest ((t, d) :: env) s K
def LX (r : Option (List D)) (p : Bool) (fs : FuncId -> Option VFunc) (f : FuncId) (pairs : Prs) (T : List Ent) (t : Nat) (rest : Ops) (env : Env) (s : Store) (K : Kt) : Prop := match r with
 | some l => CX fs f l p pairs T t rest env s K
 | none => False
def FX (b : Bool) (d : D) (fs : FuncId -> Option VFunc) (pairs : Prs) (T : List Ent) (t : Nat) (rest : Ops) (env : Env) (s : Store) (K : Kt) : Prop := match b with
 | true => XX fs pairs T rest ((t, d) :: env) s K
 | false => False
abbrev Eqc (fs : FuncId -> Option VFunc) (f : FuncId) (l : List D) (d : D) : Prop := (∀ p pairs t rest env s K, BC fs f l p pairs t rest env s K = BF (scalarD d || p) d fs pairs t rest env s K) /\ ∀ p pairs T t rest env s K, CX fs f l p pairs T t rest env s K = FX (scalarD d || p) d fs pairs T t rest env s K
theorem bc_of {f : FuncId} {args : List D} {d : D} (h : IsoC fs f args d) : Eqc fs f args d := by
 refine ⟨fun p pairs t rest env s K => propext ⟨?_, fun hk => ?_⟩, fun p pairs T t rest env s K => propext ⟨?_, fun hk => ?_⟩⟩
 ·rintro ⟨d', h1, h2, h3⟩
  obtain rfl := h.det h1
  unfold BF; rw [h2]; exact h3
 ·unfold BF at hk
  split at hk
  ·rename_i hs; exact ⟨d, h, hs, hk⟩
  ·exact hk.elim
 ·rintro ⟨d', h1, h2, h3⟩
  obtain rfl := h.det h1
  unfold FX; rw [h2]; exact h3
 ·unfold FX at hk
  split at hk
  ·rename_i hs; exact ⟨d, h, hs, hk⟩
  ·exact hk.elim
theorem fx_t {d pairs T t rest env s K} : FX true d fs pairs T t rest env s K = XX fs pairs T rest ((t, d) :: env) s K := Eq.trans rfl rfl
theorem xx_nil {pairs T vars Q env s} : XX fs pairs T [] env s (RgK vars Q) = End Q .normal (env.keep vars) s := Eq.trans rfl rfl
theorem xx_i {pairs T i t f args rest env s K} : XX fs pairs T ((i, ⟨some t, .m (.call .iso (.cst (.fn f [])) args), none⟩) :: rest) env s K = LX (mapO (ice s.get 20) (env.evL args)) (pureL (env.evL args)) fs f pairs T t rest env s K := by
 unfold XX LX CX; rfl
theorem xx_m {pairs T i t sz bytes a x rest env s K} : XX fs pairs T ((i, ⟨some t, .m (.append sz bytes a x), none⟩) :: rest) env s K = MX (env.ev a) (env.ev x) sz bytes i fs pairs T t rest env s K := Eq.trans rfl rfl
theorem xx_c {pairs T i t f args rest env s K} : XX fs pairs T ((i, ⟨some t, .m (.call .raw f args), none⟩) :: rest) env s K = WX fs pairs T ((i, ⟨some t, .m (.call .raw f args), none⟩) :: rest) env s K := Eq.trans rfl rfl
theorem bx_s {d pairs T t rest env s K} : BX (some d) fs pairs T t rest env s K = XX fs pairs T rest ((t, d) :: env) s K := Eq.trans rfl rfl
theorem bd_f {cs off n i pairs T t rest env s K} : BD (.fp cs off) n i fs pairs T t rest env s K = BX (ldV s.get n (.fp cs off)) fs pairs T t rest env s K := by
 unfold BD BX; rfl
theorem bd_p {id off n i pairs T t rest env s K} : BD (.ptr id off) n i fs pairs T t rest env s K = BE (LdOk pairs i id T) (ldV s.get n (.ptr id off)) fs pairs (⟨i, some id, []⟩ :: T) t rest env s K := by
 unfold BD BE BX
 simp only
 cases ldV s.get n (.ptr id off) with
 | some d => rfl
 | none => simp
theorem be_t {r pairs T t rest env s K} : BE True r fs pairs T t rest env s K = BX r fs pairs T t rest env s K := by simp [BE]
theorem ax_r {ob l sz i pairs T t rest env s K} : AX (some (ob, .arr l sz)) i fs pairs T t rest env s K = XX fs pairs (⟨i, none, [s.next]⟩ :: T) rest ((t, .arr s.next 0 l sz) :: env) (s.push ob) K := Eq.trans rfl rfl
theorem ux_s {id off ob i pairs T rest env s K} : UX (.ptr id off) (some (id, ob)) i fs pairs T rest env s K = VX (WrOk pairs i id T) fs pairs (⟨i, some id, [id]⟩ :: T) rest env (s.set id (some ob)) K := by
 unfold UX VX; simp
theorem vx_t {pairs T rest env s K} : VX True fs pairs T rest env s K = XX fs pairs T rest env s K := by simp [VX]
theorem lx_s {l p f pairs T t rest env s K} : LX (some l) p fs f pairs T t rest env s K = CX fs f l p pairs T t rest env s K := Eq.trans rfl rfl
theorem wz_q {pairs T i t o rest env s K} : XX fs pairs T (xq i t o :: rest) env s K = BX (evP env o) fs pairs T t rest env s K := Eq.trans rfl rfl
theorem wz_m {pairs T i t x rest env s K} : XX fs pairs T (xm i t x :: rest) env s K = BX (some (env.get x)) fs pairs T t rest env s K := Eq.trans rfl rfl
theorem wz_l {pairs T i t n x rest env s K} : XX fs pairs T (xl i t n x :: rest) env s K = BD (env.get x) n i fs pairs T t rest env s K := Eq.trans rfl rfl
theorem wz_f {pairs T i t off x rest env s K} : XX fs pairs T (xf i t off x :: rest) env s K = BX (evP env (.fieldA off (.tmp x))) fs pairs T t rest env s K := Eq.trans rfl rfl
theorem wz_a {pairs T i t o rest env s K} : XX fs pairs T (xa i t o :: rest) env s K = AX (evA env o) i fs pairs T t rest env s K := Eq.trans rfl rfl
theorem wz_w {pairs T i n a v rest env s K} : XX fs pairs T (xw i n a v :: rest) env s K = UX (env.get a) (evW env s.get n (.tmp a) v) i fs pairs T rest env s K := Eq.trans rfl rfl
theorem wz_i {pairs T i t f args rest env s K} : XX fs pairs T (xi i t f args :: rest) env s K = LX (mapO (ice s.get 20) (env.evL args)) (pureL (env.evL args)) fs f pairs T t rest env s K := xx_i
theorem wz_k {pairs T i t f args rest env s K} : XX fs pairs T (xk i t f args :: rest) env s K = WX fs pairs T (xk i t f args :: rest) env s K := xx_c
theorem wz_o {pairs T i t o g rest env s K} : XX fs pairs T (xo i t o g :: rest) env s K = XX fs pairs T ((i, ⟨t, o, g⟩) :: rest) env s K := Eq.trans rfl rfl
theorem ni_c {id x r} : NotIn id (x :: r) = (NeId id x /\ NotIn id r) := Eq.trans rfl rfl
theorem ne_t {a b : Nat} (h : a ≠ b) : NeId a b = True := eq_true h
theorem lo_n {pairs i id} : LdOk pairs i id [] = True := Eq.trans rfl rfl
theorem lo_0 {pairs i id a r E T} (h : Rf (hasP pairs a i) false) : LdOk pairs i id (⟨a, r, E⟩ :: T) = LdOk pairs i id T := by simp [LdOk, h.1]
theorem wo_n {pairs i id} : WrOk pairs i id [] = True := Eq.trans rfl rfl
theorem wo_0 {pairs i id a r E T} (h : Rf (hasP pairs a i) false) : WrOk pairs i id (⟨a, r, E⟩ :: T) = WrOk pairs i id T := by simp [WrOk, h.1]
theorem eo_n {pairs i E} : EfOk pairs i E [] = True := Eq.trans rfl rfl
theorem eo_0 {pairs i E a r F T} (h : Rf (hasP pairs a i) false) : EfOk pairs i E (⟨a, r, F⟩ :: T) = EfOk pairs i E T := by simp [EfOk, h.1]
theorem eo_1 {pairs i E a F x T} (h : Rf (hasP pairs a i) true) : EfOk pairs i E (⟨a, some x, F⟩ :: T) = (NotIn x E /\ EfOk pairs i E T) := by simp [EfOk, h.1]
attribute [go_sem] fx_t wy_rx xx_nil xx_i xx_m xx_c bx_s bd_f bd_p be_t ax_r ux_s vx_t lx_s wz_q wz_m wz_l wz_f wz_a wz_w wz_i wz_k wz_o ni_c ne_t lo_n lo_0 wo_n wo_0 eo_n eo_0 eo_1
attribute [go_sem] Nat.reduceLT nx_empty ww_q ww_g ww_m ww_mg ww_c ww_l ww_lg ww_f ww_fg ww_a0 ww_w0 ww_i ww_ig ww_k ww_o wy_r wy_rp
attribute [go_sem] yw_skip yw_seq yw_cond yw_block yw_loop yw_exit yw_ret xq_nil xq_g xq_i xq_c xq_ap bp_s bl_s ba_p ba_r bw_s bf_t cw_t cw_f gw_tt gw_ff gw_tf gw_ft gw_u en_tn en_te en_tr en_on en_or en_oe keep_is get_is form_is keepE_is ev_tmp ev_cst put_s
attribute [go_sem] ic_nil ic_int ic_bool ic_pz pd_pz pl_nil pl_cons pd_int sd_int sd_bool sd_agg sd_tup sl_nil sl_cons ice_int ice_bool ice_tup res_1 res_2 res_n res_c res_o res_s res_l rq_r rb_i rb_p Option.some.injEq D.tup.injEq D.int.injEq D.bool.injEq D.agg.injEq D.str.injEq List.cons.injEq uq_n uq_e uq_r cq_n Option.bind Bool.or_true Bool.true_or
theorem yw_congr {vars c Q env env' s s'} (h : env = env') (h' : s = s') : YW fs vars c Q env s = YW fs vars c Q env' s' := by rw [h, h']
theorem xq_congr {pairs ops K env env' s s'} (h : env = env') (h' : s = s') : XQ fs pairs ops env s K = XQ fs pairs ops env' s' K := by rw [h, h']
theorem end_congr {Q e env env' s s'} (h : env = env') (h' : s = s') : End Q e env s = End Q e env' s' := by rw [h, h']
theorem bp_congr {r r' pairs t rest env s K} (h : r = r') : BP r fs pairs t rest env s K = BP r' fs pairs t rest env s K := by rw [h]
theorem bl_congr {r r' p p' f pairs t rest env s K} (h : r = r') (h' : p = p') : BL r p fs f pairs t rest env s K = BL r' p' fs f pairs t rest env s K := by rw [h, h']
theorem bm_congr {r r' t rest env K} (h : r = r') : BM r fs t rest env K = BM r' fs t rest env K := by rw [h]
theorem bf_congr {r r' d pairs t rest env s K} (h : r = r') : BF r d fs pairs t rest env s K = BF r' d fs pairs t rest env s K := by rw [h]
theorem cw_congr {d d' vars x y Q env s} (h : d = d') : CW d fs vars x y Q env s = CW d' fs vars x y Q env s := by rw [h]
theorem gw_congr {d d' b pairs x t rest env s K} (h : d = d') : GW d b fs pairs x t rest env s K = GW d' b fs pairs x t rest env s K := by rw [h]
theorem fx_congr {b b' d pairs T t rest env s K} (h : b = b') : FX b d fs pairs T t rest env s K = FX b' d fs pairs T t rest env s K := by rw [h]
theorem bx_congr {r r' pairs T t rest env s K} (h : r = r') : BX r fs pairs T t rest env s K = BX r' fs pairs T t rest env s K := by rw [h]
theorem bd_congr {r r' n i pairs T t rest env s K} (h : r = r') : BD r n i fs pairs T t rest env s K = BD r' n i fs pairs T t rest env s K := by rw [h]
theorem vx_congr {C C' pairs T rest env s K} (hc : C = C') : VX C fs pairs T rest env s K = VX C' fs pairs T rest env s K := by rw [hc]
theorem mx_congr {d d' x x' sz bytes i pairs T t rest env s s' K} (h : d = d') (h2 : x = x') (h3 : s = s') : MX d x sz bytes i fs pairs T t rest env s K = MX d' x' sz bytes i fs pairs T t rest env s' K := by rw [h, h2, h3]
theorem lx_congr {f l l' p p' pairs T t rest env s K} (h : l = l') (h2 : p = p') : LX l p fs f pairs T t rest env s K = LX l' p' fs f pairs T t rest env s K := by rw [h, h2]
attribute [congr] fx_congr bx_congr bd_congr vx_congr mx_congr lx_congr
attribute [congr] yw_congr xq_congr end_congr bp_congr bl_congr bm_congr bf_congr cw_congr gw_congr
theorem zF {P Q : Prop} (k : Q) (h : P = Q := by
 simp only [xn, List.map, List.getD, List.getElem?_cons_zero, List.getElem?_cons_succ, List.getElem?_nil, Option.getD]
 exact rfl) : P := h.mpr k
theorem zY0 {P Q : Prop} (k : Q) (h : P = Q := by
 simp (maxSteps := 1000000) (disch := (first|exact Rf.mk rfl|with_reducible assumption|omega|((repeat (first|rw [nP]|rw [nS]|rw [nx_empty]))<;>omega)|decide)) only [go_sem, ↓reduceIte]
 exact rfl) : P := h.mpr k
theorem zY {F P Q : Prop} (f : F) (k : Q) (h : F -> P = Q := by
 intro f
 simp (maxSteps := 1000000) (disch := (first|exact Rf.mk rfl|with_reducible assumption|omega|((repeat (first|rw [nP]|rw [nS]|rw [nx_empty]))<;>omega)|decide)) only [go_sem, ↓reduceIte, f]
 exact rfl) : P := (h f).mpr k
theorem zZ0 {P : Prop} (h : P := by simp (maxSteps := 1000000) (disch := (first|exact Rf.mk rfl|with_reducible assumption|omega|((repeat (first|rw [nP]|rw [nS]|rw [nx_empty]))<;>omega)|decide)) only [go_sem, ↓reduceIte]) : P := h
theorem zZ {F P : Prop} (f : F) (h : F -> P := by
 intro f
 simp (maxSteps := 1000000) (disch := (first|exact Rf.mk rfl|with_reducible assumption|omega|((repeat (first|rw [nP]|rw [nS]|rw [nx_empty]))<;>omega)|decide)) only [go_sem, ↓reduceIte, f]) : P := h f
end Go.V
namespace Go.Proofs.Ytlaeblilmppodaa
open Go.V
set_option maxRecDepth 100000
theorem iso_c {f : Nat} {l : List D} {r : D} (h : Iso f l r) (hs : scal1 r = true) : IsoC vfs f l r := by
 obtain ⟨s1, h⟩ := h
 exact ⟨r, s1, h, ice_scal hs 19⟩
theorem iso_bc {f : Nat} {l : List D} {r : D} (h : Iso f l r) (hs : scal1 r = true) : Eqc vfs f l r := bc_of (iso_c h hs)
end Go.Proofs.Ytlaeblilmppodaa
namespace Go.Proofs.Ytlaeblilmppodaa
open Go.V
set_option maxRecDepth 100000
set_option maxHeartbeats 4000000
end Go.Proofs.Ytlaeblilmppodaa
namespace Go.V
def vAt (l : List Vr) (i : Nat) : Vr := l.getD i default
def bAt (l : List Bool) (i : Nat) : Bool := l.getD i false
def pAt (l : List Pr) (i : Nat) : Pr := l.getD i default
def prX (l : List (Pr × PrD)) (i : Nat) : PrD := (l.getD i ⟨default, ⟨.nils, .nils, .nils, .nils, .nils⟩⟩).2
theorem vAt_get {l : List Vr} {i : Nat} (h : i < l.length) : vAt l i = l[i] := by simp [vAt, List.getD, h]
theorem bAt_get {l : List Bool} {i : Nat} (h : i < l.length) : bAt l i = l[i] := by simp [bAt, List.getD, h]
theorem pAt_get {l : List Pr} {i : Nat} (h : i < l.length) : pAt l i = l[i] := by simp [pAt, List.getD, h]
theorem pAt_mem {l : List Pr} {i : Nat} (h : i < l.length) : pAt l i ∈ l := by rw [pAt_get h]; exact List.getElem_mem h
theorem chAt_mem {l : List Ch} {i : Nat} (h : i < l.length) : chAt l i ∈ l := by rw [chAt_get h]; exact List.getElem_mem h
theorem vAt_mem {l : List Vr} {i : Nat} (h : i < l.length) : vAt l i ∈ l := by rw [vAt_get h]; exact List.getElem_mem h
theorem zAt_mem {l : List Int} {i : Nat} (h : i < l.length) : zAt l i ∈ l := by rw [zAt_get h]; exact List.getElem_mem h
theorem cAt_mem {l : List (List Int)} {i : Nat} (h : i < l.length) : cAt l i ∈ l := by rw [cAt_get h]; exact List.getElem_mem h
variable {k : IntKind} {i j : Nat} {d : D}
theorem ix_i {l : List Int} (h : FI d l) (hi : i < l.length) : idxAV 1 d (.int k (i : Int)) = some (.fp [.int .i64 (zAt l i)] 0) := by rw [FI.idx h hi, zAt_get hi]
theorem ix_n {l : List Nat} (h : FL 1 d (rowsN l)) (hi : i < l.length) : idxAV 1 d (.int k (i : Int)) = some (.fp [.int .i64 (nAt l i : Int)] 0) := by rw [FLN.idx h hi, nAt_get hi]
theorem ix_b {l : List Bool} (h : FL 1 d (rowsB l)) (hi : i < l.length) : idxAV 1 d (.int k (i : Int)) = some (.fp [.bool (bAt l i)] 0) := by rw [FLB.idx h hi, bAt_get hi]
theorem ix_c {l : List Ch} (h : FL 5 d (rowsC l)) (hi : i < l.length) : idxAV 5 d (.int k (i : Int)) = some (.fp [.str (chAt l i).name, .int .i64 (chAt l i).room, .int .i64 (chAt l i).width, .bool (chAt l i).lossy, .bool (chAt l i).copying] 0) := by rw [FLC.idx h hi, chAt_get hi]; rfl
theorem ix_v {l : List Vr} (h : FL 3 d (rowsV l)) (hi : i < l.length) : idxAV 3 d (.int k (i : Int)) = some (.fp [.str (vAt l i).name, .int .i64 (vAt l i).width, .int .i64 (vAt l i).value] 0) := by rw [FLV.idx h hi, vAt_get hi]; rfl
theorem ln_i {l : List Int} (h : FI d l) : lenV false d = some (.int .i64 (l.length : Int)) := FI.len h
theorem ln_n {l : List Nat} (h : FL 1 d (rowsN l)) : lenV false d = some (.int .i64 (l.length : Int)) := by rw [h.len, rowsN_length]
theorem ln_b {l : List Bool} (h : FL 1 d (rowsB l)) : lenV false d = some (.int .i64 (l.length : Int)) := by rw [h.len, rowsB_length]
theorem ln_c {l : List Ch} (h : FL 5 d (rowsC l)) : lenV false d = some (.int .i64 (l.length : Int)) := by rw [h.len, rowsC_length]
theorem ln_v {l : List Vr} (h : FL 3 d (rowsV l)) : lenV false d = some (.int .i64 (l.length : Int)) := by rw [h.len, rowsV_length]
theorem pz_i {l : List Int} (h : FI d l) : PZ d := FL.pz h
variable {m : MdX} {mo : Mo} {ps : List (Pr × PrD)}
theorem mp_ok (h : MoF m mo ps) (hi : i < mo.procs.length) : PrF (pAt mo.procs i) (prX ps i) := by
 have hi' : i < ps.length := by rw [h.plen]; exact hi
 have e : pAt mo.procs i = ps[i].1 := by rw [pAt_get hi]; simp [<- h.eq]
 have e2 : prX ps i = ps[i].2 := by simp [prX, List.getD, hi']
 rw [e, e2]
 exact h.at' _ (List.getElem_mem hi')
theorem ix_p (h : MoF m mo ps) (hi : i < mo.procs.length) : idxAV 8 m.dp (.int k (i : Int)) = some (.fp [.str (pAt mo.procs i).name, .int .i64 ((pAt mo.procs i).copy : Int), (prX ps i).dl, .int .i64 ((pAt mo.procs i).places : Int), (prX ps i).dr, (prX ps i).de, (prX ps i).dn, (prX ps i).dv] 0) := by
 have hi' : i < ps.length := by rw [h.plen]; exact hi
 have e : pAt mo.procs i = ps[i].1 := by rw [pAt_get hi]; simp [<- h.eq]
 have e2 : prX ps i = ps[i].2 := by simp [prX, List.getD, hi']
 rw [h.p.idx (by simpa using hi'), e, e2]
 simp [rowsP, prRow]
theorem ln_p (h : MoF m mo ps) : lenV false m.dp = some (.int .i64 (mo.procs.length : Int)) := h.lenP
theorem pr_ol (h : MoF m mo ps) (hi : i < mo.procs.length) : oneCell (prX ps i).dl = true := (mp_ok h hi).l.one
theorem pr_or (h : MoF m mo ps) (hi : i < mo.procs.length) : oneCell (prX ps i).dr = true := (mp_ok h hi).r.one
theorem pr_oe (h : MoF m mo ps) (hi : i < mo.procs.length) : oneCell (prX ps i).de = true := (mp_ok h hi).e.one
theorem pr_on' (h : MoF m mo ps) (hi : i < mo.procs.length) : oneCell (prX ps i).dn = true := (mp_ok h hi).n.one
theorem pr_ov (h : MoF m mo ps) (hi : i < mo.procs.length) : oneCell (prX ps i).dv = true := (mp_ok h hi).v.one
theorem pz_mo (h : MoF m mo ps) : PZ (.agg [m.dt, .int .i64 m.g, m.dc, m.dv, m.dp, m.ds, .bool m.b]) := pz_agg fun d hd => by
 simp only [List.mem_cons, List.not_mem_nil, or_false] at hd
 rcases hd with rfl | rfl | rfl | rfl | rfl | rfl | rfl
 ·exact ⟨FL.pure h.tr.fl, FL.ic h.tr.fl⟩
 ·exact ⟨rfl, fun _ _ => rfl⟩
 ·exact ⟨h.c.pure, FL.ic h.c⟩
 ·exact ⟨h.v.pure, FL.ic h.v⟩
 ·exact ⟨h.p.pure, FL.ic h.p⟩
 ·exact ⟨h.sf.pure, FL.ic h.sf⟩
 ·exact ⟨rfl, fun _ _ => rfl⟩
theorem pz_st {x : StD} {st : Stt} (h : StF x st) : PZ (.agg [x.da, x.dv, x.dc, .int .i64 st.hold]) := pz_agg fun d hd => by
 obtain ⟨ds, h1, _⟩ := h.c
 simp only [List.mem_cons, List.not_mem_nil, or_false] at hd
 rcases hd with rfl | rfl | rfl | rfl
 ·exact ⟨h.a.pure, FL.ic h.a⟩
 ·exact ⟨FL.pure h.v, FL.ic h.v⟩
 ·exact ⟨h1.pure, FL.ic h1⟩
 ·exact ⟨rfl, fun _ _ => rfl⟩
def chX : D -> Nat -> D
 | .lst _ xs, i => (xs.getD i []).getD 0 .nils
 | _, _ => .nils
theorem st_ch {x : StD} {st : Stt} (h : StF x st) (hi : i < st.chans.length) : FI (chX x.dc i) (cAt st.chans i) /\ idxAV 1 x.dc (.int k (i : Int)) = some (.fp [chX x.dc i] 0) := by
 obtain ⟨ds, h1, h2, h3⟩ := h.c
 have hi' : i < ds.length := by omega
 have e : chX x.dc i = ds[i] := by
  rcases h1 with ⟨_, e⟩ | e
  ·simp at e; subst e; simp at hi'
  ·rw [e]; simp [chX, List.getD, hi']
 rw [e, cAt_get hi]
 refine ⟨h3 i hi' hi, ?_⟩
 rw [h1.idx (by simpa using hi')]
 simp
theorem st_cf {x : StD} {st : Stt} (h : StF x st) (hi : i < st.chans.length) : FI (chX x.dc i) (cAt st.chans i) := (st_ch (k := .i64) h hi).1
theorem st_ci {x : StD} {st : Stt} (h : StF x st) (hi : i < st.chans.length) : idxAV 1 x.dc (.int k (i : Int)) = some (.fp [chX x.dc i] 0) := (st_ch h hi).2
theorem st_co {x : StD} {st : Stt} (h : StF x st) (hi : i < st.chans.length) : oneCell (chX x.dc i) = true := FL.one (st_cf h hi)
theorem st_cl {x : StD} {st : Stt} (h : StF x st) (hi : i < st.chans.length) : lenV false (chX x.dc i) = some (.int .i64 ((cAt st.chans i).length : Int)) := FI.len (st_cf h hi)
theorem st_cx {x : StD} {st : Stt} (h : StF x st) (hi : i < st.chans.length) (hj : j < (cAt st.chans i).length) : idxAV 1 (chX x.dc i) (.int k (j : Int)) = some (.fp [.int .i64 (zAt (cAt st.chans i) j)] 0) := ix_i (st_cf h hi) hj
theorem st_lc {x : StD} {st : Stt} (h : StF x st) : lenV false x.dc = some (.int .i64 (st.chans.length : Int)) := by
 obtain ⟨ds, h1, h2, _⟩ := h.c
 rw [h1.len, List.length_map, h2]
theorem nat_succ {n : Nat} : (n : Int) + 1 = ((n + 1 : Nat) : Int) := by omega
theorem lt_nat {a b : Nat} : ((a : Int) < (b : Int)) = (a < b) := by apply propext; omega
theorem le_nat {a b : Nat} : ((a : Int) <= (b : Int)) = (a <= b) := by apply propext; omega
theorem nc_0 : ((0 : Nat) : Int) = 0 := rfl
theorem nc_1 : ((1 : Nat) : Int) = 1 := rfl
theorem nc_2 : ((2 : Nat) : Int) = 2 := rfl
theorem nc_3 : ((3 : Nat) : Int) = 3 := rfl
theorem nc_4 : ((4 : Nat) : Int) = 4 := rfl
theorem nc_5 : ((5 : Nat) : Int) = 5 := rfl
theorem nc_6 : ((6 : Nat) : Int) = 6 := rfl
theorem nc_7 : ((7 : Nat) : Int) = 7 := rfl
theorem nc_8 : ((8 : Nat) : Int) = 8 := rfl
theorem nc_9 : ((9 : Nat) : Int) = 9 := rfl
theorem nc_10 : ((10 : Nat) : Int) = 10 := rfl
theorem nc_11 : ((11 : Nat) : Int) = 11 := rfl
theorem nc_12 : ((12 : Nat) : Int) = 12 := rfl
theorem nc_13 : ((13 : Nat) : Int) = 13 := rfl
theorem nc_14 : ((14 : Nat) : Int) = 14 := rfl
theorem nc_15 : ((15 : Nat) : Int) = 15 := rfl
theorem nc_16 : ((16 : Nat) : Int) = 16 := rfl
theorem beq_int {a b : Int} : (a == b) = decide (a = b) := by rw [Bool.eq_iff_iff]; simp
theorem bne_int {a b : Int} : (a != b) = !decide (a = b) := by rw [bne, beq_int]
theorem eq_nat {a b : Nat} : ((a : Int) = (b : Int)) = (a = b) := by apply propext; omega
theorem nat_pos {a : Nat} : ((0 : Int) < (a : Int)) = (0 < a) := by apply propext; omega
theorem nat_nn {a : Nat} : ((0 : Int) <= (a : Int)) = True := eq_true (by omega)
attribute [go_sem] nc_0 nc_1 nc_2 nc_3 nc_4 nc_5 nc_6 nc_7 nc_8 nc_9 nc_10 nc_11 nc_12 nc_13 nc_14 nc_15 nc_16 beq_int bne_int eq_nat nat_pos nat_nn ix_i ix_n ix_b ix_c ix_v ln_i ln_n ln_b ln_c ln_v ix_p ln_p pr_ol pr_or pr_oe pr_on' pr_ov st_ci st_co st_cl st_cx st_lc nat_succ lt_nat le_nat
theorem z_ext {a b : List Int} (h : a.length = b.length) (hz : ∀ j, j < a.length -> zAt a j = zAt b j) : a = b := List.ext_getElem h fun j h1 h2 => by
 have := hz j h1
 rwa [zAt_get h1, zAt_get h2] at this
theorem cnd_1 {p : Prop} [Decidable p] : (decide p = true) = p := by simp
theorem cnd_2 {p : Prop} [Decidable p] : (decide p = false) = ¬ p := by simp
theorem cnd_3 {b : Bool} : ((!b) = true) = (b = false) := by simp
theorem cnd_4 {b : Bool} : ((!b) = false) = (b = true) := by simp
end Go.V
namespace Go.Proofs.Ytlaeblilmppodaa
open Go.V
set_option maxRecDepth 100000
set_option maxHeartbeats 4000000
theorem ints_bc {da db : D} {a b : List Int} (ha : FI da a) (hb : FI db b) (hl : a.length <= 1000000) : Eqc vfs 49 [da, db] (.bool (decide (a = b))) := by
 refine bc_of ?_
 refine yiso (vf := vf49) rfl ?_
 unfold vf49; refine zF ?_
 refine zY0 ?_
 repeat' (first|(refine cw_sp (fun c => ?_) (fun c => ?_) <;> (try simp only [cnd_1, cnd_2, cnd_3, cnd_4] at c) <;> simp (disch := (first|exact Rf.mk rfl|with_reducible assumption|omega|((repeat (first|rw [nP]|rw [nS]|rw [nx_empty]))<;>omega)|decide)) only [go_sem, ↓reduceIte, c])|(refine gw_sp (fun c => ?_) (fun c => ?_) <;> (try simp only [cnd_1, cnd_2, cnd_3, cnd_4] at c) <;> simp (disch := (first|exact Rf.mk rfl|with_reducible assumption|omega|((repeat (first|rw [nP]|rw [nS]|rw [nx_empty]))<;>omega)|decide)) only [go_sem, ↓reduceIte, c]))
 ·simp; intro h; exact c (by rw [h])
 ·refine yw_up [0, 1, 10] 0 a.length (fun i f s => f 5 = .int .i64 (i : Int) /\ ∀ j, j < i -> zAt a j = zAt b j) (.mk rfl) (by omega) ⟨rfl, fun j h => by omega⟩ ?_
  rintro i f s hi ⟨hE, hall⟩
  by_cases ci : i < a.length
  ·have ci' : i < b.length := by omega
   refine zY (aN hE ci) ?_
   repeat' (first|(refine cw_sp (fun c => ?_) (fun c => ?_) <;> (try simp only [cnd_1, cnd_2, cnd_3, cnd_4] at c) <;> simp (disch := (first|exact Rf.mk rfl|with_reducible assumption|omega|((repeat (first|rw [nP]|rw [nS]|rw [nx_empty]))<;>omega)|decide)) only [go_sem, ↓reduceIte, hE, ci, c])|(refine gw_sp (fun c => ?_) (fun c => ?_) <;> (try simp only [cnd_1, cnd_2, cnd_3, cnd_4] at c) <;> simp (disch := (first|exact Rf.mk rfl|with_reducible assumption|omega|((repeat (first|rw [nP]|rw [nS]|rw [nx_empty]))<;>omega)|decide)) only [go_sem, ↓reduceIte, hE, ci, c]))
   ·simp; intro h; exact c (by rw [h])
   ·intro j hj
    by_cases ej : j = i
    ·subst ej; exact c
    ·exact hall j (by omega)
  ·refine zY (aN hE ci) ?_
   exact (decide_eq_true (z_ext c fun j hj => hall j (by omega))).symm
structure StGood (mo : Mo) (x : StD) (st : Stt) : Prop where
 f : StF x st
 e : St8 st
 fit : Fit mo st
variable {m : MdX} {mo : Mo} {ps : List (Pr × PrD)} {x : StD} {st : Stt}
end Go.Proofs.Ytlaeblilmppodaa
namespace Go.V
variable {fs : FuncId -> Option VFunc}
theorem rp_frz {s : Store} {d : D} {sz : Nat} {rows : List (List D)} {E W R : Hs} (h : Rp d sz rows E) (hp : Hp s W R) (he : ∀ e ∈ E, e ∈ W) (hr : ∀ r ∈ rows, r.length = sz) (hs : ∀ r ∈ rows, r.all scal1 = true) : ∃ d', ice s.get 20 d = some d' /\ FL sz d' rows :=
 (h.sn fun e hm => hp.w e (he e hm)).frz1 (n := 18) hr hs
theorem rp_one {d : D} {sz : Nat} {rows : List (List D)} {E : Hs} (h : Rp d sz rows E) : oneCell d = true := h.one
attribute [go_sem] rp_one
theorem Hp.hd {s : Store} {id : Nat} {cs : List D} {W R : Hs} (h : Hp s ((id, cs) :: W) R) : s.get id = some (.cells cs) := h.w (id, cs) (by simp)
theorem Hp.tl {s : Store} {w : Nat × List D} {W R : Hs} (h : Hp s (w :: W) R) : Hp s W R := h.sub (List.sublist_cons_self _ _) fun _ h => h
theorem Hp.rh {s : Store} {id : Nat} {cs : List D} {W R : Hs} (h : Hp s W ((id, cs) :: R)) : s.get id = some (.cells cs) := h.r (id, cs) (by simp)
theorem Hp.rt {s : Store} {w : Nat × List D} {W R : Hs} (h : Hp s W (w :: R)) : Hp s W R := h.sub (List.Sublist.refl _) fun _ h => by simp [h]
def cellsZ (l : List Int) : List D := l.map fun n => .int .i64 n
def rowsZ (l : List Int) : List (List D) := l.map fun n => [.int .i64 n]
@[simp] theorem cellsZ_length (l : List Int) : (cellsZ l).length = l.length := by simp [cellsZ]
@[simp] theorem rowsZ_length (l : List Int) : (rowsZ l).length = l.length := by simp [rowsZ]
theorem rowsZ_flat (l : List Int) : (rowsZ l).flatten = cellsZ l := by induction l with
 | nil => rfl
 | cons a l ih => simp only [rowsZ, cellsZ, List.map_cons, List.flatten_cons, List.singleton_append] at *; rw [ih]
theorem rowsN_flat (l : List Nat) : (rowsN l).flatten = cellsI l := by induction l with
 | nil => rfl
 | cons a l ih => simp only [rowsN, cellsI, List.map_cons, List.flatten_cons, List.singleton_append] at *; rw [ih]
theorem rowsZ_len (l : List Int) : ∀ r ∈ rowsZ l, r.length = 1 := by intro r h; obtain ⟨b, _, rfl⟩ := List.mem_map.1 h; rfl
theorem rowsZ_scal (l : List Int) : ∀ r ∈ rowsZ l, r.all scal1 = true := by intro r h; obtain ⟨b, _, rfl⟩ := List.mem_map.1 h; rfl
theorem fl_row {d : D} {rows : List (List D)} (h : FL 1 d rows) {g : Look} : rowOf g d = some rows.flatten /\ srcLen d = some rows.length /\ srcSz 1 d = true := by
 rcases h with ⟨rfl, rfl⟩ | rfl <;> exact ⟨rfl, rfl, rfl⟩
theorem Hp.notIn {x : Nat} {E : Hs} (h : ∀ e ∈ E, e.1 ≠ x) : NotIn x (E.map Prod.fst) := by
 induction E with
 | nil => trivial
 | cons a E ih => exact ⟨fun e => h a (by simp) e.symm, ih fun e he => h e (by simp [he])⟩
theorem Hp.ltW {s : Store} {W R : Hs} (h : Hp s W R) {w : Nat × List D} (hw : w ∈ W) : w.1 < s.next := get_lts (h.w w hw)
theorem Hp.ltR {s : Store} {W R : Hs} (h : Hp s W R) {w : Nat × List D} (hw : w ∈ R) : w.1 < s.next := get_lts (h.r w hw)
theorem Rp.exp {s : Store} {d : D} {sz bytes idt : Nat} {rows : List (List D)} {row : List D} {E : Hs} (h : Rp d sz rows E) (he : Has s E) (ht : s.get idt = some (.cells row)) (hr : row.length = sz) (hrs : ∀ r ∈ rows, r.length = sz) (hb : bytes <= 1000) (hl : rows.length <= 1000000000) :
 ∃ s', appendV sz bytes d (.arr idt 0 1 sz) s = some (.arr s.next 0 (rows.length + 1) sz, s') /\ s'.next = s.next + 1 /\ s'.get s.next = some (.cells (rows.flatten ++ row)) /\ ∀ id, id ≠ s.next -> (∀ e ∈ E, e.1 ≠ id) -> s'.get id = s.get id := by
 have b3 : bytes <= 2 ^ 20 := Nat.le_trans hb (by decide)
 have r1 : rowOf s.get (.arr idt 0 1 sz) = some row := by
  simp only [rowOf, ht, Nat.zero_add, Nat.one_mul, List.drop_zero]
  rw [if_pos (by omega), List.take_of_length_le (by omega)]
 have r2 : srcLen (.arr idt 0 1 sz) = some 1 := rfl
 have r3 : srcSz sz (.arr idt 0 1 sz) = true := by simp [srcSz]
 rcases h with ⟨rfl, rfl, rfl⟩ | ⟨id, rfl, rfl, hne⟩
 ·refine ⟨s.push (.cells row), ?_, by simp, by rw [get_push_new rfl]; simp, fun j hj _ => by rw [Store.get_push, if_neg hj]⟩
  unfold appendV
  simp only [r1, r2, r3, b3, decide_true, Bool.and_self, if_true]
  rw [if_neg (by omega), if_pos ⟨by omega, by omega⟩]
  rfl
 ·have hf := flat_len hrs
  have hg : s.get id = some (.cells rows.flatten) := he (id, rows.flatten) (by simp)
  have b1 : (rows.length + 1) * bytes <= 2 ^ 45 := Nat.le_trans (Nat.mul_le_mul (show rows.length + 1 <= 1000000001 by omega) hb) (by decide)
  have b2 : rows.length + 1 <= 2 ^ 45 := by omega
  refine ⟨(s.set id none).push (.cells (rows.flatten ++ row)), ?_, by simp, get_push_new (by simp), fun j hj hn => ?_⟩
  ·unfold appendV
   simp only [r1, r2, r3, b3, decide_true, Bool.and_self, if_true, hg, Nat.zero_add, hf, and_self, List.drop_zero]
   rw [if_neg (by omega), if_pos ⟨b1, b2⟩]
  ·have : id ≠ j := hn (id, rows.flatten) (by simp)
   rw [Store.get_push, if_neg (by simpa using hj), get_set_ne this.symm]
theorem Rp.app2 {s : Store} {d : D} {sz bytes : Nat} {rows : List (List D)} {row : List D} {A B E R : Hs} (h : Rp d sz rows E) (hp : Hp s (A ++ E ++ B) R) (hr : row.length = sz) (hrs : ∀ r ∈ rows, r.length = sz) (hb : bytes <= 1000) (hl : rows.length <= 1000000000) :
 ∃ s', appendV sz bytes d (.arr s.next 0 1 sz) (s.push (.cells row)) = some (.arr (s.next + 1) 0 (rows.length + 1) sz, s') /\ Rp (.arr (s.next + 1) 0 (rows.length + 1) sz) sz (rows ++ [row]) [(s.next + 1, (rows ++ [row]).flatten)] /\ Hp s' (A ++ (s.next + 1, (rows ++ [row]).flatten) :: B) R /\ s'.next = s.next + 2 /\ (∀ j, j < s.next -> (∀ e ∈ E, e.1 ≠ j) -> s'.get j = s.get j) /\ ∀ j, j ∉ (s.next + 1) :: E.map Prod.fst -> (s.push (.cells row)).get j = s'.get j := by
 have hp1 := hp.push (.cells row)
 have heE : Has (s.push (.cells row)) E := fun x hx => hp1.w x (by simp [hx])
 obtain ⟨s', h1, h2, h3, h4⟩ := h.exp heE (get_push_new rfl) hr hrs hb hl
 rw [Store.next_push] at h1 h2 h3 h4
 refine ⟨s', h1, .inr ⟨s.next + 1, by simp, by simp, by simp⟩, ?_, h2, fun j hj hn => ?_, fun j hj => ?_⟩
 ·have hn := hp1.nd
  have hE : ∀ w ∈ A ++ B, ∀ e ∈ E, e.1 ≠ w.1 := by
   intro w hw e hee hc
   rw [List.append_assoc, List.map_append, List.map_append, List.nodup_append, List.nodup_append] at hn
   obtain ⟨_, ⟨_, _, n2⟩, n3⟩ := hn
   rcases List.mem_append.1 hw with hw | hw
   ·exact n3 w.1 (List.mem_map_of_mem hw) e.1 (List.mem_append_left _ (List.mem_map_of_mem hee)) hc.symm
   ·exact n2 e.1 (List.mem_map_of_mem hee) w.1 (List.mem_map_of_mem hw) hc
  have hsub : Hp (s.push (.cells row)) (A ++ B) R := hp1.sub (by
   rw [List.append_assoc]
   exact List.Sublist.append (List.Sublist.refl _) (List.sublist_append_right _ _)) fun x h => h
  have key : ∀ w ∈ A ++ B, s'.get w.1 = some (.cells w.2) := fun w hw => by
   have hl := hp.ltW (w := w) (by rcases List.mem_append.1 hw with h | h <;> simp [h])
   rw [h4 w.1 (by omega) (hE w hw)]
   exact hsub.w w hw
  refine Hp.perm (W := (s.next + 1, (rows ++ [row]).flatten) :: (A ++ B)) ⟨?_, ?_, ?_, ?_⟩ List.perm_middle
  ·rw [List.map_cons, List.nodup_cons]
   refine ⟨fun hm => ?_, hsub.nd⟩
   obtain ⟨w, hw, e⟩ := List.mem_map.1 hm
   have := hp.ltW (w := w) (by rcases List.mem_append.1 hw with h | h <;> simp [h])
   simp only at e; omega
  ·intro w hw r hrr
   rcases List.mem_cons.1 hw with rfl | hw
   ·have := hp.ltR hrr
    simp only; omega
   ·exact hsub.ap w hw r hrr
  ·intro w hw
   rcases List.mem_cons.1 hw with rfl | hw
   ·rw [h3]; simp
   ·exact key w hw
  ·intro r hrr
   have hl := hp.ltR hrr
   rw [h4 r.1 (by omega) fun e hee => hp.ap e (by simp [hee]) r hrr]
   exact hsub.r r hrr
 ·rw [h4 j (by omega) hn, get_push_old hj]
 ·simp only [List.mem_cons, not_or, List.mem_map, not_exists, not_and] at hj
  exact (h4 j hj.1 fun e he hc => hj.2 e he hc).symm
theorem mx_app {pairs T i t rest env K s d sz bytes rows row A B E R} (h : Rp d sz rows E) (hp : Hp s (A ++ E ++ B) R) (hr : row.length = sz) (hrs : ∀ r ∈ rows, r.length = sz) (hb : bytes <= 1000) (hl : rows.length <= 1000000000) (he : EfOk pairs i ((s.next + 1) :: E.map Prod.fst) T)
 (k : ∀ s', Rp (.arr (s.next + 1) 0 (rows.length + 1) sz) sz (rows ++ [row]) [(s.next + 1, (rows ++ [row]).flatten)] -> Hp s' (A ++ (s.next + 1, (rows ++ [row]).flatten) :: B) R -> s'.next = s.next + 2 -> (∀ j, j < s.next -> (∀ e ∈ E, e.1 ≠ j) -> s'.get j = s.get j) -> XX fs pairs (⟨i, none, (s.next + 1) :: E.map Prod.fst⟩ :: T) rest ((t, .arr (s.next + 1) 0 (rows.length + 1) sz) :: env) s' K) : MX d (.arr s.next 0 1 sz) sz bytes i fs pairs T t rest env (s.push (.cells row)) K := by
 obtain ⟨s', h1, h2, h3, h4, h5, h6⟩ := h.app2 hp hr hrs hb hl
 exact ⟨_, s', (s.next + 1) :: E.map Prod.fst, h1, by rw [h4, Store.next_push]; omega, h6, he, k s' h2 h3 h4 h5⟩
theorem bm_app2 {t rest env K s d sz bytes rows row A B E R} (h : Rp d sz rows E) (hp : Hp s (A ++ E ++ B) R) (hr : row.length = sz) (hrs : ∀ r ∈ rows, r.length = sz) (hb : bytes <= 1000) (hl : rows.length <= 1000000000)
 (k : ∀ s', Rp (.arr (s.next + 1) 0 (rows.length + 1) sz) sz (rows ++ [row]) [(s.next + 1, (rows ++ [row]).flatten)] -> Hp s' (A ++ (s.next + 1, (rows ++ [row]).flatten) :: B) R -> s'.next = s.next + 2 -> (∀ j, j < s.next -> (∀ e ∈ E, e.1 ≠ j) -> s'.get j = s.get j) -> XQ fs [] rest ((t, .arr (s.next + 1) 0 (rows.length + 1) sz) :: env) s' K) : BM (appendV sz bytes d (.arr s.next 0 1 sz) (s.push (.cells row))) fs t rest env K := by
 obtain ⟨s', h1, h2, h3, h4, h5, _⟩ := h.app2 hp hr hrs hb hl
 rw [h1]
 exact k s' h2 h3 h4 h5
end Go.V
namespace Go.Proofs.Ytlaeblilmppodaa
open Go.V
set_option maxRecDepth 100000
set_option maxHeartbeats 4000000
variable {m : MdX} {mo : Mo} {ps : List (Pr × PrD)} {x : StD} {st : Stt}
end Go.Proofs.Ytlaeblilmppodaa
namespace Go.V
def Mo.actS (mo : Mo) (st : Stt) (e : Ed) (n : Int) : Stt :=
 if e.act = 1 then { st with vars := st.vars.set e.var.toNat (trimZ n (vAt mo.vars e.var.toNat).width.toNat) }
 else if e.act = 2 then { st with chans := st.chans.set e.chan.toNat (cAt st.chans e.chan.toNat ++ [trimZ n (chAt mo.chans e.chan.toNat).width.toNat]) }
 else if e.act = 3 then { st with vars := st.vars.set e.var.toNat (trimZ (zAt (cAt st.chans e.chan.toNat) 0) (vAt mo.vars e.var.toNat).width.toNat), chans := st.chans.set e.chan.toNat ((cAt st.chans e.chan.toNat).drop 1) }
 else st
def Stt.go (st : Stt) (i to : Nat) : Stt := { st with at' := st.at'.set i to }
def ChR (s : Store) (q : D) (l : List Int) : Prop := (q = .nils /\ l = []) ∨ q = .lst 1 (rowsZ l) ∨ ∃ id off cs, q = .arr id off l.length 1 /\ s.get id = some (.cells cs) /\ off + l.length <= cs.length /\ (cs.drop off).take l.length = cellsZ l
theorem cellsZ_scal (l : List Int) : (cellsZ l).all scal1 = true := by simp [cellsZ, scal1]
theorem ChR.one {s : Store} {q : D} {l : List Int} (h : ChR s q l) : oneCell q = true := by
 rcases h with ⟨rfl, _⟩ | rfl | ⟨id, off, cs, rfl, _⟩ <;> rfl
theorem ChR.frz {s : Store} {q : D} {l : List Int} (h : ChR s q l) (n : Nat) : ∃ q', ice s.get (n + 2) q = some q' /\ FI q' l := by
 rcases h with ⟨rfl, rfl⟩ | rfl | ⟨id, off, cs, rfl, h1, h2, h3⟩
 ·exact ⟨_, rfl, .inl ⟨rfl, rfl⟩⟩
 ·exact ⟨_, rfl, .inr rfl⟩
 ·refine ⟨.lst 1 (rowsZ l), ?_, .inr rfl⟩
  have e1 : rowOf s.get (.arr id off l.length 1) = some (cellsZ l) := by
   simp only [rowOf, h1, Nat.mul_one, h3]
   rw [if_pos h2]
  have e2 : mapO (ice s.get (n + 1)) (cellsZ l) = some (cellsZ l) := mapO_ice (cellsZ_scal l)
  simp only [ice, e1, e2, Option.map_some]
  have e3 := chunk_one (cellsZ l)
  rw [cellsZ_length] at e3
  rw [e3]
  simp [cellsZ, rowsZ]
def dAt (l : List D) (i : Nat) : D := l.getD i .undef
theorem dAt_get {l : List D} {i : Nat} (h : i < l.length) : dAt l i = l[i] := by simp [dAt, List.getD, h]
def SttR (s : Store) (cs : List D) (st : Stt) : Prop := ∃ dA dV dC qs, cs = [dA, dV, dC, .int .i64 st.hold] /\ SN s 1 dA (rowsN st.at') /\ SN s 1 dV (rowsZ st.vars) /\ SN s 1 dC (qs.map fun q => [q]) /\ (qs = [] ∨ ∃ id, dC = .arr id 0 qs.length 1) /\ qs.length = st.chans.length /\ ∀ j (h : j < qs.length) (h' : j < st.chans.length), ChR s qs[j] st.chans[j]
theorem SttR.mk {s : Store} {dA dV dC : D} {st : Stt} (qs : List D) (hA : SN s 1 dA (rowsN st.at')) (hV : SN s 1 dV (rowsZ st.vars)) (hC : SN s 1 dC (qs.map fun q => [q])) (hn : qs = [] ∨ ∃ id, dC = .arr id 0 qs.length 1) (hl : qs.length = st.chans.length) (hq : ∀ j, j < qs.length -> ChR s (dAt qs j) (cAt st.chans j)) : SttR s [dA, dV, dC, .int .i64 st.hold] st :=
 ⟨dA, dV, dC, qs, rfl, hA, hV, hC, hn, hl, fun j h h' => by
  have := hq j h
  rwa [dAt_get h, cAt_get h'] at this⟩
theorem frz_all {s : Store} (n : Nat) : ∀ {qs : List D} {l : List (List Int)}, qs.length = l.length -> (∀ j (h : j < qs.length) (h' : j < l.length), ChR s qs[j] l[j]) -> ∃ ds : List D, mapL (ice s.get (n + 2)) (qs.map fun q => [q]) = some (ds.map fun d => [d]) /\ ds.length = l.length /\ ∀ i (h : i < ds.length) (h' : i < l.length), FI ds[i] l[i]
 | [], [], _, _ => ⟨[], rfl, rfl, fun i h => by simp at h⟩
 | [], _ :: _, h, _ => by simp at h
 | _ :: _, [], h, _ => by simp at h
 | q :: qs, a :: l, h, hr => by
   obtain ⟨ds, h1, h2, h3⟩ := frz_all n (qs := qs) (l := l) (by simpa using h) fun j hj hj' => hr (j + 1) (by simp; omega) (by simp; omega)
   obtain ⟨d, h4, h5⟩ := (hr 0 (by simp) (by simp)).frz n
   refine ⟨d :: ds, ?_, by simp [h2], fun i hi hi' => ?_⟩
   ·have h4 : ice s.get (n + 2) q = some d := h4
    simp only [List.map_cons, mapL, mapO, h4, h1]
   ·cases i with
    | zero => exact h5
    | succ i => exact h3 i (by simpa using hi) (by simpa using hi')
theorem SttR.frz {s : Store} {cs : List D} {st : Stt} (h : SttR s cs st) : ∃ x, ice s.get 20 (.agg cs) = some (.agg [x.da, x.dv, x.dc, .int .i64 st.hold]) /\ StF x st := by
 obtain ⟨dA, dV, dC, qs, rfl, hA, hV, hC, hn, hl, hq⟩ := h
 obtain ⟨da, a1, b1⟩ := hA.frz1 (n := 17) (rowsN_len _) (rowsN_scal _)
 obtain ⟨dv, a2, b2⟩ := hV.frz1 (n := 17) (rowsZ_len _) (rowsZ_scal _)
 obtain ⟨ds, h1, h2, h3⟩ := frz_all 16 hl hq
 obtain ⟨dc, a3, b3⟩ := hC.frz (n := 18) (fun r hr => by obtain ⟨x, _, rfl⟩ := List.mem_map.1 hr; rfl) h1 (fun e => by
  rcases hn with rfl | ⟨id, hid⟩
  ·have : ds = [] := List.length_eq_zero_iff.1 (by rw [h2, <- hl]; rfl)
   rw [this]
  ·rw [hid] at e; cases e)
 refine ⟨⟨da, dv, dc⟩, ?_, ⟨b1, b2, ds, b3, h2, h3⟩⟩
 have e1 : ice s.get 19 (.int .i64 st.hold) = some (.int .i64 st.hold) := rfl
 simp only [ice, mapO, a1, a2, a3, e1, Option.map_some]
def qcs (ids : List Nat) (l : List (List Int)) : List D := List.zipWith (fun id q => .arr id 0 q.length 1) ids l
theorem flat_one {l : List D} : (l.map fun q => [q]).flatten = l := by induction l with
 | nil => rfl
 | cons a l ih => simp [ih]
theorem qcs_len {ids : List Nat} {l : List (List Int)} (h : ids.length = l.length) : (qcs ids l).length = l.length := by simp [qcs, h]
theorem qcs_at : ∀ {ids : List Nat} {l : List (List Int)} {j : Nat}, ids.length = l.length -> j < l.length -> (qcs ids l)[j]? = some (.arr (nAt ids j) 0 (cAt l j).length 1)
 | [], [], j, _, h => by simp at h
 | [], _ :: _, j, h, _ => by simp at h
 | _ :: _, [], j, h, _ => by simp at h
 | i :: ids, a :: l, 0, h, _ => by simp [qcs, nAt, cAt]
 | i :: ids, a :: l, j + 1, h, hj => by
   have := qcs_at (ids := ids) (l := l) (j := j) (by simpa using h) (by simpa using hj)
   simpa [qcs, nAt, cAt] using this
theorem qcs_d {ids : List Nat} {l : List (List Int)} {j : Nat} (h : ids.length = l.length) (hj : j < l.length) : dAt (qcs ids l) j = .arr (nAt ids j) 0 (cAt l j).length 1 := by
 have := qcs_at h hj
 simp [dAt, List.getD, this]
structure OutO (s : Store) (n : Nat) (a v : Nat) (dC : D) (ids : List Nat) (st : Stt) : Prop where
 len : ids.length = st.chans.length
 ga : s.get a = some (.cells (cellsI st.at'))
 gv : s.get v = some (.cells (cellsZ st.vars))
 gc : (st.chans = [] /\ dC = .nils) ∨ ∃ c, dC = .arr c 0 st.chans.length 1 /\ s.get c = some (.cells (qcs ids st.chans)) /\ n <= c /\ c ≠ a /\ c ≠ v /\ ∀ j, j < st.chans.length -> nAt ids j ≠ c
 gq : ∀ j, j < st.chans.length -> s.get (nAt ids j) = some (.cells (cellsZ (cAt st.chans j))) /\ n <= nAt ids j /\ nAt ids j ≠ a /\ nAt ids j ≠ v
 inj : ∀ i j, i < st.chans.length -> j < st.chans.length -> nAt ids i = nAt ids j -> i = j
 av : a ≠ v
 na : n <= a
 nv : n <= v
theorem tk_D {l : List D} {n : Nat} {x : D} (h : n < l.length) : List.take n l ++ [x] ++ List.drop (n + 1) l = l.set n x := by
 have := splice_set (x := x) h
 rw [<- this]
 simp [splice]
theorem cellsZ_set (l : List Int) (n : Nat) (k : Int) : (cellsZ l).set n (.int .i64 k) = cellsZ (l.set n k) := by simp [cellsZ, List.map_set]
theorem tk_I {l : List Nat} {n x : Nat} (h : n < l.length) : List.take n (cellsI l) ++ [.int .i64 (x : Int)] ++ List.drop (n + 1) (cellsI l) = cellsI (l.set n x) := by rw [tk_D (by simpa using h), cellsI_set]
theorem tk_Z {l : List Int} {n : Nat} {x : Int} (h : n < l.length) : List.take n (cellsZ l) ++ [.int .i64 x] ++ List.drop (n + 1) (cellsZ l) = cellsZ (l.set n x) := by rw [tk_D (by simpa using h), cellsZ_set]
theorem le_succ {a b : Nat} : (a + 1 <= b) = (a < b) := by apply propext; omega
attribute [go_sem] tk_I tk_Z qcs_len qcs_at cellsZ_set cellsI_set cellsI_length cellsZ_length le_succ
structure MoFi (mo : Mo) : Prop where
 ch : ∀ c ∈ mo.chans, 1 <= c.room /\ c.room <= 3 /\ 1 <= c.width /\ c.width <= 8
 vr : ∀ v ∈ mo.vars, 1 <= v.width /\ v.width <= 8 /\ trimZ v.value v.width.toNat = v.value
theorem dAt_set {l : List D} {k j : Nat} {d : D} (hk : k < l.length) : dAt (l.set k d) j = if j = k then d else dAt l j := by
 unfold dAt
 simp only [List.getD, List.getElem?_set]
 split
 ·rename_i h; subst h; simp [hk]
 ·rename_i h; rw [if_neg (Ne.symm h)]
theorem cAt_set {l : List (List Int)} {k j : Nat} {d : List Int} (hk : k < l.length) : cAt (l.set k d) j = if j = k then d else cAt l j := by
 unfold cAt
 simp only [List.getD, List.getElem?_set]
 split
 ·rename_i h; subst h; simp [hk]
 ·rename_i h; rw [if_neg (Ne.symm h)]
theorem chr_full {s : Store} {id : Nat} {l : List Int} (h : s.get id = some (.cells (cellsZ l))) : ChR s (.arr id 0 l.length 1) l :=
 .inr (.inr ⟨id, 0, _, rfl, h, by simp, by rw [List.drop_zero, <- cellsZ_length l, List.take_length]⟩)
theorem OutO.chan {s S : Store} {n a v c : Nat} {ids : List Nat} {st : Stt} (h : OutO s n a v (.arr c 0 st.chans.length 1) ids st) {k : Nat} (hk : k < st.chans.length) {A : List Nat} {V : List Int} {l : List Int} {d : D} {hd : Int} (hA : A.length = st.at'.length) (hV : V.length = st.vars.length)
 (ga : S.get a = some (.cells (cellsI A))) (gv : S.get v = some (.cells (cellsZ V))) (gc : S.get c = some (.cells ((qcs ids st.chans).set k d))) (hr : ChR S d l) (hq : ∀ j, j < st.chans.length -> j ≠ k -> S.get (nAt ids j) = s.get (nAt ids j)) :
 SttR S [.arr a 0 st.at'.length 1, .arr v 0 st.vars.length 1, .arr c 0 st.chans.length 1, .int .i64 hd] ⟨A, V, st.chans.set k l, hd⟩ := by
 refine SttR.mk (st := ⟨A, V, st.chans.set k l, hd⟩) ((qcs ids st.chans).set k d) (.inr (.inl ⟨a, by simp [hA], by rw [rowsN_flat]; exact ga⟩)) (.inr (.inl ⟨v, by simp [hV], by rw [rowsZ_flat]; exact gv⟩)) (.inr (.inl ⟨c, by simp [qcs_len h.len], by rw [flat_one]; exact gc⟩)) (.inr ⟨c, by simp [qcs_len h.len]⟩) (by simp [qcs_len h.len]) fun j hj => ?_
 rw [List.length_set, qcs_len h.len] at hj
 rw [dAt_set (by rw [qcs_len h.len]; exact hk), cAt_set hk]
 split
 ·exact hr
 ·rename_i hjk
  rw [qcs_d h.len hj]
  exact chr_full (by rw [hq j hj hjk]; exact (h.gq j hj).1)
theorem OutO.same {s S : Store} {n a v : Nat} {dC : D} {ids : List Nat} {st : Stt} (h : OutO s n a v dC ids st) {A : List Nat} {V : List Int} {hd : Int} (hA : A.length = st.at'.length) (hV : V.length = st.vars.length)
 (ga : S.get a = some (.cells (cellsI A))) (gv : S.get v = some (.cells (cellsZ V))) (hq : ∀ j, n <= j -> j < s.next -> j ≠ a -> j ≠ v -> S.get j = s.get j) :
 SttR S [.arr a 0 st.at'.length 1, .arr v 0 st.vars.length 1, dC, .int .i64 hd] ⟨A, V, st.chans, hd⟩ := by
 refine SttR.mk (st := ⟨A, V, st.chans, hd⟩) (qcs ids st.chans) (.inr (.inl ⟨a, by simp [hA], by rw [rowsN_flat]; exact ga⟩)) (.inr (.inl ⟨v, by simp [hV], by rw [rowsZ_flat]; exact gv⟩)) ?_ ?_ (qcs_len h.len) fun j hj => ?_
 ·rcases h.gc with ⟨e, rfl⟩ | ⟨c, rfl, g, nc, ca, cv, _⟩
  ·refine .inl ⟨rfl, ?_⟩
   rw [e]; simp [qcs]
  ·refine .inr (.inl ⟨c, by simp [qcs_len h.len], ?_⟩)
   rw [flat_one, hq c nc (get_lts g) ca cv]; exact g
 ·rcases h.gc with ⟨e, rfl⟩ | ⟨c, rfl, g, nc, ca, cv, _⟩
  ·left; rw [e]; simp [qcs]
  ·exact .inr ⟨c, by simp [qcs_len h.len]⟩
 ·rw [qcs_len h.len] at hj
  obtain ⟨g, n1, n2, n3⟩ := h.gq j hj
  rw [qcs_d h.len hj]
  exact chr_full (by rw [hq _ n1 (get_lts g) n2 n3]; exact g)
variable {fs : FuncId -> Option VFunc}
end Go.V
namespace Go.Proofs.Ytlaeblilmppodaa
open Go.V
set_option maxRecDepth 100000
set_option maxHeartbeats 4000000
variable {m : MdX} {mo : Mo} {ps : List (Pr × PrD)} {x : StD} {st : Stt}
end Go.Proofs.Ytlaeblilmppodaa
namespace Go.V
theorem trim_idem {n : Int} {w : Nat} (h1 : 1 <= w) : trimZ (trimZ n w) w = trimZ n w := by
 have := trimZ_lo (n := n) (w := w) (by omega)
 exact trimZ_id (by omega) this.1 this.2
theorem trim_small {n : Int} {w : Nat} (h1 : 1 <= w) (h2 : w <= 8) : I8 (trimZ n w) := by
 have h := trimZ_lo (n := n) (w := w) (by omega)
 have hc : w = 1 ∨ w = 2 ∨ w = 3 ∨ w = 4 ∨ w = 5 ∨ w = 6 ∨ w = 7 ∨ w = 8 := by omega
 unfold I8
 rcases hc with rfl | rfl | rfl | rfl | rfl | rfl | rfl | rfl <;> simp at h <;> omega
theorem nAt_set {l : List Nat} {k j : Nat} {d : Nat} (hk : k < l.length) : nAt (l.set k d) j = if j = k then d else nAt l j := by
 unfold nAt
 simp only [List.getD, List.getElem?_set]
 split
 ·rename_i h; subst h; simp [hk]
 ·rename_i h; rw [if_neg (Ne.symm h)]
theorem zAt_set {l : List Int} {k j : Nat} {d : Int} (hk : k < l.length) : zAt (l.set k d) j = if j = k then d else zAt l j := by
 unfold zAt
 simp only [List.getD, List.getElem?_set]
 split
 ·rename_i h; subst h; simp [hk]
 ·rename_i h; rw [if_neg (Ne.symm h)]
structure FitA (mo : Mo) (st : Stt) : Prop where
 at' : st.at'.length = mo.procs.length
 vars : st.vars.length = mo.vars.length
 chans : st.chans.length = mo.chans.length
 pl : ∀ i, i < mo.procs.length -> nAt st.at' i < (pAt mo.procs i).places
 vr : ∀ i, i < mo.vars.length -> trimZ (zAt st.vars i) (vAt mo.vars i).width.toNat = zAt st.vars i
 cl : ∀ i, i < mo.chans.length -> ((cAt st.chans i).length : Int) <= (chAt mo.chans i).room
 cv : ∀ i, i < mo.chans.length -> ∀ n ∈ cAt st.chans i, trimZ n (chAt mo.chans i).width.toNat = n
 hold : -1 <= st.hold /\ st.hold < (mo.procs.length : Int)
theorem fitA_iff {mo : Mo} {st : Stt} : FitA mo st ↔ Fit mo st := by
 constructor
 ·rintro ⟨h1, h2, h3, h4, h5, h6, h7, h8⟩
  refine ⟨h1, h2, h3, fun i h h' => ?_, fun i h h' => ?_, fun i h h' => ?_, fun i h h' => ?_, h8⟩
  ·have := h4 i h'; rwa [nAt_get h, pAt_get h'] at this
  ·have := h5 i h'; rwa [zAt_get h, vAt_get h'] at this
  ·have := h6 i h'; rwa [cAt_get h, chAt_get h'] at this
  ·have := h7 i h'; rwa [cAt_get h, chAt_get h'] at this
 ·rintro ⟨h1, h2, h3, h4, h5, h6, h7, h8⟩
  refine ⟨h1, h2, h3, fun i h' => ?_, fun i h' => ?_, fun i h' => ?_, fun i h' => ?_, h8⟩
  ·have h : i < st.at'.length := by omega
   rw [nAt_get h, pAt_get h']; exact h4 i h h'
  ·have h : i < st.vars.length := by omega
   rw [zAt_get h, vAt_get h']; exact h5 i h h'
  ·have h : i < st.chans.length := by omega
   rw [cAt_get h, chAt_get h']; exact h6 i h h'
  ·have h : i < st.chans.length := by omega
   rw [cAt_get h, chAt_get h']; exact h7 i h h'
theorem fit_8 {mo : Mo} (hf : MoFi mo) {st : Stt} (h : Fit mo st) : St8 st := by
 have h := fitA_iff.2 h
 refine ⟨fun n hn => ?_, fun l hl => ?_⟩
 ·obtain ⟨i, hi, rfl⟩ := List.getElem_of_mem hn
  have hi' : i < mo.vars.length := by rw [<- h.vars]; exact hi
  have := h.vr i hi'
  rw [zAt_get hi] at this
  rw [<- this]
  have := hf.vr _ (vAt_mem hi')
  exact trim_small (by omega) (by omega)
 ·obtain ⟨i, hi, rfl⟩ := List.getElem_of_mem hl
  have hi' : i < mo.chans.length := by rw [<- h.chans]; exact hi
  have h1 := h.cl i hi'
  have h2 := h.cv i hi'
  rw [cAt_get hi] at h1 h2
  have h3 := hf.ch _ (chAt_mem hi')
  refine ⟨by omega, fun n hn => ?_⟩
  rw [<- h2 n hn]
  exact trim_small (by omega) (by omega)
theorem FitA.var {mo : Mo} (hf : MoFi mo) {st : Stt} (h : FitA mo st) {k : Nat} (hk : k < mo.vars.length) (n : Int) : FitA mo { st with vars := st.vars.set k (trimZ n (vAt mo.vars k).width.toNat) } := by
 refine ⟨h.at', by simp [h.vars], h.chans, h.pl, fun i hi => ?_, h.cl, h.cv, h.hold⟩
 rw [zAt_set (by rw [h.vars]; exact hk)]
 split
 ·rename_i e; subst e
  have := hf.vr _ (vAt_mem hk)
  exact trim_idem (by omega)
 ·exact h.vr i hi
theorem FitA.chan {mo : Mo} {st : Stt} (h : FitA mo st) {k : Nat} (hk : k < mo.chans.length) {l : List Int} (hl : (l.length : Int) <= (chAt mo.chans k).room) (hv : ∀ n ∈ l, trimZ n (chAt mo.chans k).width.toNat = n) : FitA mo { st with chans := st.chans.set k l } := by
 refine ⟨h.at', h.vars, by simp [h.chans], h.pl, h.vr, fun i hi => ?_, fun i hi => ?_, h.hold⟩
 ·simp only [cAt_set (by rw [h.chans]; exact hk)]
  split
  ·rename_i e; subst e; exact hl
  ·exact h.cl i hi
 ·simp only [cAt_set (by rw [h.chans]; exact hk)]
  split
  ·rename_i e; subst e; exact hv
  ·exact h.cv i hi
theorem FitA.go {mo : Mo} {st : Stt} (h : FitA mo st) {p to : Nat} (hp : p < mo.procs.length) (ht : to < (pAt mo.procs p).places) : FitA mo (st.go p to) := by
 refine ⟨by simp [Stt.go, h.at'], h.vars, h.chans, fun i hi => ?_, h.vr, h.cl, h.cv, h.hold⟩
 simp only [Stt.go, nAt_set (by rw [h.at']; exact hp)]
 split
 ·rename_i e; subst e; exact ht
 ·exact h.pl i hi
theorem FitA.hd {mo : Mo} {st : Stt} (h : FitA mo st) {z : Int} (hz : -1 <= z /\ z < (mo.procs.length : Int)) : FitA mo { st with hold := z } := ⟨h.at', h.vars, h.chans, h.pl, h.vr, h.cl, h.cv, hz⟩
theorem FitA.act {mo : Mo} (hf : MoFi mo) {st : Stt} (h : FitA mo st) {pl : Nat} {vs : List Nat} {e : Ed} (he : EdOk mo.tree mo.chans.length pl vs e) (hv : ∀ v ∈ vs, v < mo.vars.length) (h2 : e.act = 2 -> ((cAt st.chans e.chan.toNat).length : Int) < (chAt mo.chans e.chan.toNat).room) (n : Int) : FitA mo (mo.actS st e n) := by
 unfold Mo.actS
 split
 ·rename_i h1
  obtain ⟨k, hk, e1⟩ := he.v1 (.inl h1)
  rw [e1, Int.toNat_natCast]
  exact h.var hf (hv k hk) n
 split
 ·rename_i _ h1
  obtain ⟨k, e1, hk⟩ := he.c1 (.inl h1)
  have h2 := h2 h1
  rw [e1, Int.toNat_natCast] at *
  refine h.chan hk (by simp; omega) fun z hz => ?_
  rcases List.mem_append.1 hz with hz | hz
  ·exact h.cv k hk z hz
  ·simp only [List.mem_singleton] at hz
   subst hz
   have := hf.ch _ (chAt_mem hk)
   exact trim_idem (by omega)
 split
 ·rename_i _ _ h1
  obtain ⟨k, hk, e1⟩ := he.v1 (.inr h1)
  obtain ⟨q, e2, hq⟩ := he.c1 (.inr h1)
  rw [e1, e2, Int.toNat_natCast, Int.toNat_natCast]
  have h3 := h.var hf (hv k hk) (zAt (cAt st.chans q) 0)
  refine h3.chan hq ?_ fun z hz => ?_
  ·have := h.cl q hq
   rw [List.length_drop]; omega
  ·exact h.cv q hq z (List.mem_of_mem_drop hz)
 ·exact h
theorem rep_succ {α : Type} (n : Nat) (a : α) : List.replicate (n + 1) a = List.replicate n a ++ [a] := List.replicate_succ'
theorem rowsN_rep (n : Nat) : rowsN (List.replicate n 0) ++ [[.int .i64 0]] = rowsN (List.replicate (n + 1) 0) := by
 rw [rep_succ]; simp [rowsN]
theorem rowsZ_take {l : List Int} {i : Nat} (h : i < l.length) : rowsZ (l.take i) ++ [[.int .i64 (zAt l i)]] = rowsZ (l.take (i + 1)) := by
 rw [zAt_get h, List.take_add_one, List.getElem?_eq_getElem h]
 unfold rowsZ
 rw [List.map_append]; rfl
def Mo.vals (mo : Mo) : List Int := mo.vars.map Vr.value
theorem vals_at {mo : Mo} {i : Nat} (h : i < mo.vars.length) : zAt mo.vals i = (vAt mo.vars i).value := by
 rw [zAt_get (by simpa [Mo.vals] using h), vAt_get h]; simp [Mo.vals]
def nilRows (n : Nat) : List (List D) := List.replicate n [.nils]
theorem nilRows_len (n : Nat) : ∀ r ∈ nilRows n, r.length = 1 := fun r h => by rw [List.eq_of_mem_replicate h]; rfl
theorem nilRows_succ (n : Nat) : nilRows n ++ [[.nils]] = nilRows (n + 1) := (rep_succ n _).symm
theorem Hp.addW {s : Store} {W R : Hs} (h : Hp s W R) {id : Nat} {cs : List D} (hg : s.get id = some (.cells cs)) (h1 : ∀ w ∈ W, w.1 ≠ id) (h2 : ∀ r ∈ R, r.1 ≠ id) : Hp s ((id, cs) :: W) R := by
 refine ⟨?_, ?_, ?_, h.r⟩
 ·rw [List.map_cons, List.nodup_cons]
  refine ⟨fun hm => ?_, h.nd⟩
  obtain ⟨w, hw, e⟩ := List.mem_map.1 hm
  exact h1 w hw e
 ·intro w hw r hr
  rcases List.mem_cons.1 hw with rfl | hw
  ·exact (h2 r hr).symm
  ·exact h.ap w hw r hr
 ·intro w hw
  rcases List.mem_cons.1 hw with rfl | hw
  ·exact hg
  ·exact h.w w hw
theorem Hp.addR1 {s : Store} {W R : Hs} (h : Hp s W R) {id : Nat} {cs : List D} (hg : s.get id = some (.cells cs)) (h1 : ∀ w ∈ W, w.1 ≠ id) : Hp s W ((id, cs) :: R) := by
 refine ⟨h.nd, ?_, h.w, ?_⟩
 ·intro w hw r hr
  rcases List.mem_cons.1 hr with rfl | hr
  ·exact h1 w hw
  ·exact h.ap w hw r hr
 ·intro r hr
  rcases List.mem_cons.1 hr with rfl | hr
  ·exact hg
  ·exact h.r r hr
theorem Hp.ne {s : Store} {A B C R : Hs} {a b : Nat × List D} (h : Hp s (A ++ a :: (B ++ b :: C)) R) : a.1 ≠ b.1 := by
 have := h.nd
 rw [List.map_append, List.map_cons, List.map_append, List.map_cons, List.nodup_append, List.nodup_cons] at this
 exact fun e => this.2.1.1 (by simp [e])
theorem Hp.neAll {s : Store} {a : Nat × List D} {W R : Hs} (h : Hp s (a :: W) R) : ∀ w ∈ W, w.1 ≠ a.1 := by
 have := h.nd
 rw [List.map_cons, List.nodup_cons] at this
 exact fun w hw e => this.1 (by rw [<- e]; exact List.mem_map_of_mem hw)
theorem rp_arr {d : D} {rows : List (List D)} {E : Hs} (h : Rp d 1 rows E) (hn : 0 < rows.length) : ∃ a, d = .arr a 0 rows.length 1 /\ E = [(a, rows.flatten)] := by
 rcases h with ⟨_, rfl, _⟩ | ⟨a, h1, h2, _⟩
 ·simp at hn
 ·exact ⟨a, h1, h2⟩
theorem rp_mk {a : Nat} {rows : List (List D)} (hn : 0 < rows.length) : Rp (.arr a 0 rows.length 1) 1 rows [(a, rows.flatten)] := .inr ⟨a, rfl, rfl, fun e => by subst e; simp at hn⟩
theorem nilRows_flat (n : Nat) : (nilRows n).flatten = List.replicate n .nils := by
 induction n with
 | zero => rfl
 | succ n ih => rw [show nilRows (n + 1) = [.nils] :: nilRows n from rfl, List.flatten_cons, ih]; rfl
theorem Rp.chr {s : Store} {q : D} {l : List Int} {E : Hs} (h : Rp q 1 (rowsZ l) E) (he : Has s E) : ChR s q l := by
 rcases h with ⟨rfl, h2, _⟩ | ⟨id, h1, rfl, _⟩
 ·refine .inl ⟨rfl, ?_⟩
  cases l with
  | nil => rfl
  | cons a l => simp [rowsZ] at h2
 ·rw [rowsZ_length] at h1
  subst h1
  have := he (id, (rowsZ l).flatten) (by simp)
  rw [rowsZ_flat] at this
  exact chr_full this
theorem dAt_rep {n : Nat} {d : D} {j : Nat} (h : j < n) : dAt (List.replicate n d) j = d := by rw [dAt_get (by simpa using h), List.getElem_replicate]
theorem cAt_rep {n : Nat} {j : Nat} : cAt (List.replicate n []) j = [] := by
 unfold cAt
 simp only [List.getD, List.getElem?_replicate]
 split <;> rfl
end Go.V
namespace Go.Proofs.Ytlaeblilmppodaa
open Go.V
set_option maxRecDepth 100000
set_option maxHeartbeats 4000000
variable {m : MdX} {mo : Mo} {ps : List (Pr × PrD)} {x : StD} {st : Stt}
theorem part_ok {d : D} {raw : List Int} (hd : FI d raw) (hr : ∀ n ∈ raw, in64 n) {k n : Nat} (hn : 0 < n) (hn2 : n <= 1000000) (hk : k <= 1000000) : ∃ z : Nat, z < n /\ Eqc vfs 44 [d, .int .i64 (k : Int), .int .i64 (n : Int)] (.int .i64 (z : Int)) := by
 by_cases h0 : raw.length = 0
 ·refine ⟨0, hn, bc_of ?_⟩
  refine yiso (vf := vf44) rfl ?_
  unfold vf44; refine zF ?_
  exact zZ h0
 ·have hkm : (k : Int).tmod (raw.length : Int) = ((k % raw.length : Nat) : Int) := rfl
  have hkl : k % raw.length < raw.length := Nat.mod_lt _ (by omega)
  have hz := hr _ (zAt_mem hkl)
  have n0 : ¬ n = 0 := by omega
  have n1 : ¬ (n : Int) = 0 := by omega
  have n2 : ¬ (raw.length : Int) = 0 := by omega
  by_cases c : (zAt raw (k % raw.length)).tmod (n : Int) < 0
  ·have h1 : -(n : Int) < (zAt raw (k % raw.length)).tmod (n : Int) := Int.lt_tmod_of_pos _ (by omega)
   have e : (zAt raw (k % raw.length)).tmod (n : Int) + (n : Int) = (((zAt raw (k % raw.length)).tmod (n : Int) + (n : Int)).toNat : Int) := by omega
   refine ⟨((zAt raw (k % raw.length)).tmod (n : Int) + (n : Int)).toNat, by omega, bc_of ?_⟩
   refine yiso (vf := vf44) rfl ?_
   unfold vf44; refine zF ?_
   refine zY (aN h0 (aN n0 (aN n1 (aN n2 (aN hkm c))))) ?_
   exact e
  ·have h1 : (zAt raw (k % raw.length)).tmod (n : Int) < (n : Int) := Int.tmod_lt_of_pos _ (by omega)
   refine ⟨((zAt raw (k % raw.length)).tmod (n : Int)).toNat, by omega, bc_of ?_⟩
   refine yiso (vf := vf44) rfl ?_
   unfold vf44; refine zF ?_
   refine zY (aN h0 (aN n0 (aN n1 (aN n2 (aN hkm c))))) ?_
   omega
def FstM (mo : Mo) (s : Store) (n : Nat) (r : D) : Prop := ∃ dA dV dC EA EV EC, r = .agg [dA, dV, dC, .int .i64 (-1)] /\ Rp dA 1 (rowsN (List.replicate mo.procs.length 0)) EA /\ Rp dV 1 (rowsZ mo.vals) EV /\ Rp dC 1 (nilRows mo.chans.length) EC /\ Hp s (EA ++ EV ++ EC) [] /\ ∀ w ∈ EA ++ EV ++ EC, n <= w.1
theorem first_ok (hm : MoF m mo ps) (ho : MoOk mo) {s : Store} : EvP vfs 43 [.agg [m.dt, .int .i64 m.g, m.dc, m.dv, m.dp, m.ds, .bool m.b]] s fun r s' => FstM mo s' s.next r /\ Fr [] s s' := by
 have om := hm.ones
 have hmv := hm.v
 have hmc := hm.c
 have hnp := ho.np
 have hnv := ho.nv
 have hnc := ho.nc
 have hvl : mo.vals.length = mo.vars.length := by simp [Mo.vals]
 refine yevp (vf := vf43) rfl ?_
 unfold vf43; refine zF ?_
 refine zY om ?_
 have hp0 : Hp ((s.push (.cells [m.dt, .int .i64 m.g, m.dc, m.dv, m.dp, m.ds, .bool m.b])).push (.cells [.nils, .nils, .nils, .int .i64 0])) [(s.next + 1, [.nils, .nils, .nils, .int .i64 0])] [(s.next, [m.dt, .int .i64 m.g, m.dc, m.dv, m.dp, m.ds, .bool m.b])] := by
  have := Hp.pushW (s := s.push (.cells [m.dt, .int .i64 m.g, m.dc, m.dv, m.dp, m.ds, .bool m.b])) (W := []) (R := [(s.next, [m.dt, .int .i64 m.g, m.dc, m.dv, m.dp, m.ds, .bool m.b])]) ⟨List.nodup_nil, by simp, by simp [Has], by simp [Has, get_push_new]⟩ [.nils, .nils, .nils, .int .i64 0]
  simpa using this
 have hp1 := hp0.newW (.cells [.nils, .nils, .nils, .int .i64 0]) [.nils, .nils, .nils, .int .i64 (-1)]
 simp only [Store.next_push] at hp1
 have fr1 : Fr [] s ((((s.push (.cells [m.dt, .int .i64 m.g, m.dc, m.dv, m.dp, m.ds, .bool m.b])).push (.cells [.nils, .nils, .nils, .int .i64 0])).push (.cells [.nils, .nils, .nils, .int .i64 0])).set (s.next + 1 + 1) (some (.cells [.nils, .nils, .nils, .int .i64 (-1)]))) := (((Fr.push _).thenPush _).thenPush _).thenSet _ (.inr (by omega))
 generalize (((s.push (.cells [m.dt, .int .i64 m.g, m.dc, m.dv, m.dp, m.ds, .bool m.b])).push (.cells [.nils, .nils, .nils, .int .i64 0])).push (.cells [.nils, .nils, .nils, .int .i64 0])).set (s.next + 1 + 1) (some (.cells [.nils, .nils, .nils, .int .i64 (-1)])) = s1 at *
 generalize hp : s.next + 1 + 1 = p at *
 generalize hq : s.next + 1 = q at *
 refine wp_cut [0, 1, 2, 3, 5, 6, 24, 42] (fun f s' => ∃ dA EA, Rp dA 1 (rowsN (List.replicate mo.procs.length 0)) EA /\ Hp s' ((p, [dA, .nils, .nils, .int .i64 (-1)]) :: (q, [.nils, .nils, .nils, .int .i64 0]) :: EA) [(s.next, [m.dt, .int .i64 m.g, m.dc, m.dv, m.dp, m.ds, .bool m.b])] /\ (∀ w ∈ EA, s.next <= w.1) /\ Fr [] s s') ?_ ?_
 ·refine yw_up [0, 1, 2, 3, 5, 6, 24, 42] 0 mo.procs.length (fun i f s' => f 4 = .int .i64 (i : Int) /\ ∃ dA EA, Rp dA 1 (rowsN (List.replicate i 0)) EA /\ Hp s' ((p, [dA, .nils, .nils, .int .i64 (-1)]) :: (q, [.nils, .nils, .nils, .int .i64 0]) :: EA) [(s.next, [m.dt, .int .i64 m.g, m.dc, m.dv, m.dp, m.ds, .bool m.b])] /\ (∀ w ∈ EA, s.next <= w.1) /\ Fr [] s s') (.mk rfl) (by omega) ⟨rfl, .nils, [], .inl ⟨rfl, rfl, rfl⟩, hp1, by simp, fr1⟩ ?_
  rintro i f s2 hi ⟨hE, dA, EA, hr, hp2, hw, fr⟩
  have g0 := hp2.rh
  have gp := hp2.hd
  have o1 := hr.one
  have lp := get_lts gp
  by_cases ci : i < mo.procs.length
  ·refine zY (aN hE (aN ci (aN g0 (aN gp (aN om o1))))) ?_
   refine bm_app2 (A := [(p, [dA, .nils, .nils, .int .i64 (-1)]), (q, [.nils, .nils, .nils, .int .i64 0])]) (B := []) hr (by simpa using hp2) rfl (rowsN_len _) (by decide) (by simp; omega) ?_
   rintro s3 hr3 hp3 l3 u3
   have gp := hp3.hd
   refine zY (aN hE gp) ?_
   refine ⟨ci, _, _, by rw [<- rowsN_rep]; exact hr3, Hp.set (A := []) hp3 _, by simp; omega, ?_⟩
   have f3 : Fr [] s s3 := ⟨by have := fr.1; omega, fun j hj hn => by
    have := fr.1
    rw [u3 j (by omega) fun e he hc => by have := hw e he; omega, fr.2 j hj hn]⟩
   exact f3.thenSet _ (.inr (by omega))
  ·obtain rfl : i = mo.procs.length := by omega
   refine zY (aN hE (aN ci (aN g0 (aN gp (aN om o1))))) ?_
   exact ⟨_, _, hr, hp2, hw, fr⟩
 ·rintro f s2 ⟨dA, EA, hrA, hp2, hwA, fr2⟩
  refine zY0 ?_
  refine wp_cut [0, 1, 2, 3, 4, 6, 12, 42] (fun f s' => ∃ dV EV, Rp dV 1 (rowsZ mo.vals) EV /\ Hp s' ((p, [dA, dV, .nils, .int .i64 (-1)]) :: (q, [.nils, .nils, .nils, .int .i64 0]) :: (EA ++ EV)) [(s.next, [m.dt, .int .i64 m.g, m.dc, m.dv, m.dp, m.ds, .bool m.b])] /\ (∀ w ∈ EA ++ EV, s.next <= w.1) /\ Fr [] s s') ?_ ?_
  ·refine yw_up [0, 1, 2, 3, 4, 6, 12, 42] 0 mo.vars.length (fun i f s' => f 5 = .int .i64 (i : Int) /\ ∃ dV EV, Rp dV 1 (rowsZ (mo.vals.take i)) EV /\ Hp s' ((p, [dA, dV, .nils, .int .i64 (-1)]) :: (q, [.nils, .nils, .nils, .int .i64 0]) :: (EA ++ EV)) [(s.next, [m.dt, .int .i64 m.g, m.dc, m.dv, m.dp, m.ds, .bool m.b])] /\ (∀ w ∈ EA ++ EV, s.next <= w.1) /\ Fr [] s s') (.mk rfl) (by omega) ⟨rfl, .nils, [], .inl ⟨rfl, rfl, rfl⟩, by simpa using hp2, by simpa using hwA, fr2⟩ ?_
   rintro i f s2 hi ⟨hE, dV, EV, hr, hp2, hw, fr⟩
   have g0 := hp2.rh
   have gp := hp2.hd
   have o1 := hr.one
   have o2 := hrA.one
   have lp := get_lts gp
   by_cases ci : i < mo.vars.length
   ·refine zY (aN hE (aN ci (aN g0 (aN gp (aN om (aN o1 o2)))))) ?_
    refine bm_app2 (A := (p, [dA, dV, .nils, .int .i64 (-1)]) :: (q, [.nils, .nils, .nils, .int .i64 0]) :: EA) (B := []) hr (by simpa using hp2) rfl (rowsZ_len _) (by decide) (by simp; omega) ?_
    rintro s3 hr3 hp3 l3 u3
    have gp := hp3.hd
    refine zY (aN hE (aN gp o2)) ?_
    have f3 : Fr [] s s3 := ⟨by have := fr.1; omega, fun j hj hn => by
     have := fr.1
     rw [u3 j (by omega) fun e he hc => by have := hw e (by simp [he]); omega, fr.2 j hj hn]⟩
    refine ⟨ci, _, _, by rw [<- rowsZ_take (by omega), vals_at ci]; exact hr3, by simpa using Hp.set (A := []) hp3 _, ?_, f3.thenSet _ (.inr (by omega))⟩
    intro w hw1
    rcases List.mem_append.1 hw1 with h | h
    ·exact hw w (by simp [h])
    ·simp only [List.mem_singleton] at h; subst h; have := fr.1; simp only; omega
   ·obtain rfl : i = mo.vars.length := by omega
    refine zY (aN hE (aN ci (aN g0 (aN gp (aN om (aN o1 o2)))))) ?_
    rw [<- hvl, List.take_length] at hr
    exact ⟨_, _, hr, hp2, hw, fr⟩
  ·rintro f s2 ⟨dV, EV, hrV, hp2, hwV, fr2⟩
   refine zY0 ?_
   refine wp_cut [0, 1, 2, 3, 4, 5, 12, 24] (fun f s' => ∃ dC EC, Rp dC 1 (nilRows mo.chans.length) EC /\ Hp s' ((p, [dA, dV, dC, .int .i64 (-1)]) :: (q, [.nils, .nils, .nils, .int .i64 0]) :: (EA ++ EV ++ EC)) [(s.next, [m.dt, .int .i64 m.g, m.dc, m.dv, m.dp, m.ds, .bool m.b])] /\ (∀ w ∈ EA ++ EV ++ EC, s.next <= w.1) /\ Fr [] s s') ?_ ?_
   ·refine yw_up [0, 1, 2, 3, 4, 5, 12, 24] 0 mo.chans.length (fun i f s' => f 6 = .int .i64 (i : Int) /\ ∃ dC EC, Rp dC 1 (nilRows i) EC /\ Hp s' ((p, [dA, dV, dC, .int .i64 (-1)]) :: (q, [.nils, .nils, .nils, .int .i64 0]) :: (EA ++ EV ++ EC)) [(s.next, [m.dt, .int .i64 m.g, m.dc, m.dv, m.dp, m.ds, .bool m.b])] /\ (∀ w ∈ EA ++ EV ++ EC, s.next <= w.1) /\ Fr [] s s') (.mk rfl) (by omega) ⟨rfl, .nils, [], .inl ⟨rfl, rfl, rfl⟩, by simpa using hp2, by simpa using hwV, fr2⟩ ?_
    rintro i f s2 hi ⟨hE, dC, EC, hr, hp2, hw, fr⟩
    have g0 := hp2.rh
    have gp := hp2.hd
    have o1 := hr.one
    have o2 := hrA.one
    have o3 := hrV.one
    have lp := get_lts gp
    by_cases ci : i < mo.chans.length
    ·refine zY (aN hE (aN ci (aN g0 (aN gp (aN om (aN o1 (aN o2 o3))))))) ?_
     refine bm_app2 (A := (p, [dA, dV, dC, .int .i64 (-1)]) :: (q, [.nils, .nils, .nils, .int .i64 0]) :: (EA ++ EV)) (B := []) hr (by simpa using hp2) rfl (nilRows_len _) (by decide) (by simp [nilRows]; omega) ?_
     rintro s3 hr3 hp3 l3 u3
     have gp := hp3.hd
     refine zY (aN hE (aN gp (aN o2 o3))) ?_
     have f3 : Fr [] s s3 := ⟨by have := fr.1; omega, fun j hj hn => by
      have := fr.1
      rw [u3 j (by omega) fun e he hc => by have := hw e (by simp [he]); omega, fr.2 j hj hn]⟩
     refine ⟨ci, _, _, by rw [<- nilRows_succ]; exact hr3, by simpa using Hp.set (A := []) hp3 _, ?_, f3.thenSet _ (.inr (by omega))⟩
     intro w hw1
     rcases List.mem_append.1 hw1 with h | h
     ·exact hw w (List.mem_append_left _ h)
     ·simp only [List.mem_singleton] at h; subst h; have := fr.1; simp only; omega
    ·obtain rfl : i = mo.chans.length := by omega
     refine zY (aN hE (aN ci (aN g0 (aN gp (aN om (aN o1 (aN o2 o3))))))) ?_
     exact ⟨_, _, hr, hp2, hw, fr⟩
   ·rintro f s2 ⟨dC, EC, hrC, hp2, hwC, fr2⟩
    have gp := hp2.hd
    have gq := hp2.tl.hd
    have o1 := hrC.one
    have o2 := hrA.one
    have o3 := hrV.one
    have lq := get_lts gq
    have lp := get_lts gp
    refine zY (aN gp (aN gq (aN o1 (aN o2 o3)))) ?_
    refine rb_of ⟨⟨dA, dV, dC, EA, EV, EC, rfl, hrA, hrV, hrC, ?_, hwC⟩, fr2.thenSet _ (.inr (by omega))⟩
    exact (Hp.set (A := []) hp2.tl.rt _).tl
end Go.Proofs.Ytlaeblilmppodaa
