/- A call that is handed all blocks of its caller's and may exchange all but the first m of them. -/
import Derived.Test.YtkmbnldginonbaaGreatCo8
import Derived.Test.YtkmbnldginonbaaGreatCo11
import Derived.Test.YtkmbnldginonbaaGreatCo4
import Derived.Test.YtkmbnldginonbaaGreatCo10
import Derived.Test.YtkmbnldginonbaaGreatCo9
namespace Go.Proofs.YtkmbnldginonbaaGreat
open Go.RowKit
def FnT (P:Program) (r:Bool) (f:FuncId) (m:Nat) (bl:List Blk) (args:List V) (X:V) (bl':List Blk):Prop :=
 hasBody P f=true/\∀(D0:Nat->Prop) (w0:Base) (ρ:List Loc) (w:World) (vs:List Value),Sat D0 w0 r ρ bl w->VRels (Dof D0 ρ bl) w ρ args vs ->
  Calls P f vs.toArray w fun e w'=>∃ v ρ',e = .returned v/\Sat D0 w0 r ρ' bl' w'/\LocsLe (ρ.take m) ρ'/\VRel (Dof D0 ρ' bl') w' ρ' X v
theorem fnt_okS {E : Env} (hE : EnvOK E) {f : FuncId} {fn : Func} {c : Code} {args : List V} {X : V} {bl post : List Blk} (hf : E.P.funcs[f]? = some fn) (hb : fn.body = some c) (hbd : hasBody E.P f = true)
  (h:Swp E fn.ntmps c ⟨frame0 args,bl⟩ (retS E fn.results.toList X E.m0 post)):FnT E.P E.r f E.m0 bl args X post:=by
 refine⟨hbd,?_⟩
 intro D w0 ρ w vs hs0 hargs
 refine calls_of_wp hf hb ?_
 let C:Ctx:=⟨D,w0,E.r,fn.ntmps,ρ.take E.m0⟩
 have hlen:=hargs.length
 have hle:LocsLe (ρ.take E.m0) ρ:=fun i l hl=>by
  rw[List.getElem?_take]at hl
  split at hl
  ·exact⟨l,hl,fun _=>rfl,Nat.le_refl _⟩
  ·cases hl
 have hrel:Rel C ⟨frame0 args,bl⟩ { tmps:=vs.toArray++Array.replicate (fn.ntmps-vs.toArray.size) undef,defers:=[] } w:=by
  refine⟨ρ,hs0,⟨by simp[C];omega,hle⟩,rfl,fun t=>?_⟩
  have h2:=hargs.get t
  show VRel (Dof D ρ bl) w ρ (args.getD t (.c .any)) _
  rcases Nat.lt_or_ge t vs.length with hlt | hge
  ·have:(vs.toArray++Array.replicate (fn.ntmps-vs.toArray.size) undef).getD t undef=vs.getD t undef:=by
    rw[Array.getD_eq_getD_getElem?,Array.getElem?_append_left (by simpa using hlt)]
    simp[List.getD]
   rw[this];exact h2
  ·rw[show args.getD t (V.c .any) = .c .any by rw[List.getD,List.getElem?_eq_none (by omega)];rfl]
   trivial
 refine wp_mono (h.run C _ _ rfl (by show(ρ.take E.m0).length≤E.m0;rw[List.length_take];omega) rfl hrel) ?_
 rintro e a w' ⟨σ,hr,hk⟩
 have fin:retS E fn.results.toList X E.m0 post .ret σ->a.defers=[]/\∃ v,(results fn a.tmps).run E.P w' = .ok v w'/\∃ u ρ',Ending.returned v = .returned u/\Sat D w0 E.r ρ' post w'/\LocsLe (ρ.take E.m0) ρ'/\VRel (Dof D ρ' post) w' ρ' X u:=by
  intro hk
  obtain⟨ρ1,hs,hN,hdf,hfr⟩:=hr
  refine⟨hdf,?_⟩
  simp only[retS]at hk
  split at hk
  ·rename_i v hv
   obtain⟨x,hx,hxr⟩:=ret_run hE hs hfr hv
   have hrel':Rel ⟨D,w0,E.r,0,ρ.take E.m0⟩ ⟨asg [(0,v)],σ.bl⟩ ⟨#[x],[]⟩ w':=by
    refine⟨ρ1,hs,⟨Nat.zero_le _,hN.2⟩,rfl,fun t=>?_⟩
    show VRel _ _ _ (if t=0 then v else .c .any) _
    split
    ·rename_i e;subst e;exact hxr
    ·trivial
   obtain⟨ρ2,hs2,hN2,_,hf2⟩:=hk ⟨D,w0,E.r,0,ρ.take E.m0⟩ _ _ (by show(ρ.take E.m0).length≤E.m0;rw[List.length_take];omega) hrel'
   exact⟨x,hx,x,ρ2,rfl,hs2,hN2.2,hf2 0⟩
  ·exact hk.elim
 cases e with
 | normal=>exact fin hk
 | ret=>exact fin hk
 | exit i=>exact hk.elim
 | goto l=>exact hk.elim
 | panic ch=>exact hk.elim
 | outgrown=>exact hk.elim
def OpGoT (E:Env) (m:Nat) (o:Oper) (σ σ':St):Prop:=∀ {C:Ctx} {a:Act} {w:World} {next:Act->World->Prop} {Q:Exit->Act->World->Prop},C.r=E.r->C.ρ0.length≤m->dstOK C.N o.dst->Rel C σ a w->(∀ a' w',Rel C σ' a' w'->next a' w')->o.wp E.P a w next Q
theorem aops_app2 {E : Env} (hE : EnvOK E) {C : Ctx} (hC : C.r = E.r) {ops : Array Oper} {Q : Exit → Act → World → Prop} {K : St → Prop} {l2 : List Oper} (hQ : ∀ σ a w, K σ → Rel C σ a w → wpList E.P ops Q l2 a w) :
  ∀(l:List Oper) (σ:St) (a:Act) (w:World),(∀ o∈l,dstOK C.N o.dst)->aops E ops l σ K->Rel C σ a w->wpList E.P ops Q (l++l2) a w
 | [],σ,a,w,_,h,hr=>hQ σ a w h hr
 | o :: rest,σ,a,w,hd,h,hr=>by
  have ih:=fun σ a w=>aops_app2 (ops:=ops) hE hC hQ rest σ a w (fun o ho=>hd o (by simp[ho]))
  rw[List.cons_append]
  unfold wpList
  simp only[aops]at h
  split at h
  ·rename_i hg
   rw[if_pos (by simp[Region.wanted,hg])]
   exact .inl (aop_sound hE hC h (hd o (by simp)) hr fun σ' a' w' hk hrel=>ih σ' a' w' hk hrel)
  ·rename_i g want hg
   split at h
   ·rename_i d b hgv
    have h:=cs_iff.1 h
    rw[gw_true,gw_false]at h
    obtain⟨hy,hv,hlt,htm⟩:=guard_val (a:=a) (w:=w) hgv (by obtain⟨ρ,hs,hN,hdf,hf⟩:=hr;exact fun d _=>⟨_,ρ,hf d⟩)
    have hwt:Region.wanted o (yielded ops a.tmps)=(b == want):=by
     unfold Region.wanted
     rw[hg]
     simp only[hy]
     rfl
    rw[hwt]
    by_cases e:b=want
    ·rw[if_pos (by simp[e])]
     refine .inl (aop_sound hE hC (h.1 e) (hd o (by simp)) (put_same hr fun D ρ=>?_) fun σ' a' w' hk hrel=>ih σ' a' w' hk hrel)
     rw[hv,e];rfl
    ·have e':b=!want:=by cases b <;> cases want <;> simp_all
     rw[if_neg (by simpa using e)]
     have h2:Rel C (σ.put (some d) (.c (.bool !want))) a w:=put_same hr fun D ρ=>by rw[hv,e'];rfl
     obtain⟨ρ,hs,hN,hdf,hf⟩:=h2
     exact ih _ _ _ (h.2 e') (Rel.put hs hN hdf hf (hd o (by simp)) rfl)
   ·split at h
    ·rename_i hgu
     have hy:=guard_un (a:=a) (w:=w) hgu (by obtain⟨ρ,hs,hN,hdf,hf⟩:=hr;exact fun d _=>⟨_,ρ,hf d⟩)
     have hwt:Region.wanted o (yielded ops a.tmps)=false:=by
      unfold Region.wanted
      rw[hg]
      simp only[hy]
      rfl
     rw[hwt,if_neg (by simp)]
     obtain⟨ρ,hs,hN,hdf,hf⟩:=hr
     exact ih _ _ _ h (Rel.put hs hN hdf hf (hd o (by simp)) rfl)
    ·exact h.elim
theorem OpGoT.call0 {E : Env} {m : Nat} {o : Oper} {σ : St} {g : Operand} {args : Array Operand} {ts : Array TypeId} (hx : o.op = .call { callee := .value g, args, argTypes := ts }) {f : FuncId} {cs : List Cell} (hg : calleeX σ g = some (f, cs)) (hst : ∀ B ∈ σ.bl, B.st = 0 ∨ 2 ≤ B.st) {X : V} {bl' : List Blk}
  (hS:FnT E.P E.r f m σ.bl ((args.toList.map fun x=>σ.ev x)++cs.map V.c) X bl') (hlt:∀ t,(σ.tm t).lt m=true):OpGoT E m o σ (St.put ⟨σ.tm,bl'⟩ o.dst X):=by
 intro C a w next Q hC hm hd hr hn
 obtain⟨ρ0,hs0,hN,hdf,hf0⟩:=hr
 have hev:∀ x,VRel (Dof C.D0 ρ0 σ.bl) w ρ0 (σ.ev x) (a.eval x):=fun x=>ev_rel hf0 x
 obtain⟨caps,hca,hcr⟩:=calleeX_eval hg (hev g)
 have s3:=hs0.rebase hst
 have hv2:VRels (Dof C.D0 ρ0 σ.bl) w ρ0 ((args.toList.map fun x=>σ.ev x)++cs.map V.c) (args.toList.map a.eval++caps.toList) :=
  (VRels.map args.toList fun x _=>hev x).append (VRels.cells (by simpa using hcr))
 rw[← hC]at hS
 unfold Oper.wp
 rw[exec_callc hx hca hS.1,Oper.upon_enter]
 have:=hS.2 _ _ _ _ _ s3 hv2
 rw[show(args.toList.map a.eval++caps.toList).toArray=args.map a.eval++caps by
  rw[← Array.toList_map,← Array.toList_append,Array.toArray_toList]]at this
 refine this.mono ?_
 rintro e w' ⟨v,ρ',rfl,q1,q2,q3⟩
 obtain⟨b1,b2,b3⟩:=hs0.unbase q1
 refine hn _ _ ?_
 have hf1:∀ t,VRel (Dof C.D0 ρ' bl') w' ρ' (σ.tm t) (a.tmps.getD t undef):=fun t =>
  ((hf0 t).take (hlt t)).step b2 b3 q2
 exact Rel.put (σ:=⟨σ.tm,bl'⟩) b1 ⟨hN.1,(hN.2.take hm).trans q2⟩ hdf hf1 hd q3
theorem swp_goT {E : Env} (hE : EnvOK E) {N id : Nat} {ops : Array Oper} {pre post : List Oper} {o : Oper} (hl : ops.toList = pre ++ o :: post) (hg : o.guard = none) (hdst : (ops.toList.all (dstB N)) = true) {σ : St} {R : Exit → St → Prop}
  (h:aops E ops pre σ fun τ=>∃ m τ',E.m0≤m/\OpGoT E m o τ τ'/\aops E ops post τ' (R .normal)):Swp E N (.region id ops false) σ R:=by
 refine⟨fun C a w h1 h2 h3 hr=>?_⟩
 have hdo:∀ o'∈ops.toList,dstOK C.N o'.dst:=by
  intro o' ho d hd'
  have:=List.all_eq_true.1 hdst o' ho
  unfold dstB at this
  rw[hd']at this
  rw[h3]
  simpa using this
 refine wp_region_list ?_
 rw[hl]at hdo ⊢
 refine aops_app2 hE h1 (fun τ a w hk hrel=>?_) pre σ a w (fun o' ho=>hdo o' (by simp[ho])) h hr
 obtain⟨m,τ',hm,hgo,hrest⟩:=hk
 unfold wpList
 rw[if_pos (by simp[Region.wanted,hg])]
 refine .inl (hgo h1 (Nat.le_trans h2 hm) (hdo o (by simp)) hrel fun a' w' hrel'=>?_)
 exact aops_sound hE h1 (fun σ a w hk hrel=>⟨σ,hrel,hk⟩) post _ a' w' (fun o' ho=>hdo o' (by simp[ho])) hrest hrel'
theorem Weak.genT0 {tm:Nat->V} {bl:List Blk} {tl:List (Nat × V)} {xs:List Gx} (pre:List Blk) (hp0:pre=[]) (hpre:bl.take pre.length=pre) (hst2:pre.all (fun B=>Nat.ble 2 B.st)=true) (ks:List (Option Nat)) (hi:injK ks=true) (hb:srcsG pre.length bl ks ks xs) (hl:allP tl fun p=>regV pre.length bl ks (tm p.1) p.2):(h0:ks[0]? = some (some 0))->(hu:∃ B,bl[0]? = some B/\B.u=0/\B.st≤1)->Weak 1 ⟨tm,bl⟩ ⟨asg tl,pre++xs.map gb⟩:=by
 rintro h0 ⟨B0,hB0,hu0,hst0⟩ C a w hm0 ⟨ρ,hs,hN,hdf,hf⟩
 obtain⟨hlen,hget⟩:=srcsG_get hb
 have hlb:bl.length=ρ.length:=hs.len.symm
 have hq:pre.length≤ρ.length:=by
  have:=congrArg List.length hpre
  rw[List.length_take]at this
  omega
 have hql:(ρ.take pre.length).length=pre.length:=by rw[List.length_take];omega
 have get:∀(j:Nat) (l:Loc) (B:Blk),(ρ.take pre.length++ks.map (locK ρ))[j]? = some l->(pre++xs.map gb)[j]? = some B->2≤B.st∨pre.length≤j/\((∃(k:Nat) (lk:Loc) (Bk:Blk),ks[j-pre.length]? = some (some k)/\ρ[k]? = some lk/\bl[k]? = some Bk/\l={ lk with u:=0 }/\B.t=Bk.t/\B.sz=Bk.sz/\B.n=Bk.n/\Bk.st=0/\B.st=0/\B.u=0/\∀ i j,i<B.n->j<B.sz->regC pre.length bl ks (B.f i j) fun y=>Bk.f i j=y)∨(l=⟨0,none,0,0⟩/\B.n=0/\B.u=0)):=by
  intro j l B e1 e2
  rcases Nat.lt_or_ge j pre.length with hj | hj
  ·left
   rw[List.getElem?_append_left hj]at e2
   exact Nat.le_of_ble_eq_true (List.all_eq_true.1 hst2 B (List.mem_of_getElem? e2))
  right
  refine⟨hj,?_⟩
  rw[List.getElem?_append_right (by omega),hql,List.getElem?_map]at e1
  rw[List.getElem?_append_right hj,List.getElem?_map]at e2
  cases hx:xs[j-pre.length]? with
  | none=>rw[hx]at e2;cases e2
  | some x =>
   rw[hx]at e2
   simp at e2
   obtain⟨k,hk,hsrc⟩:=hget _ x hx
   rw[hk]at e1
   simp at e1
   subst e1 e2
   cases k with
   | none=>exact .inr ⟨rfl,hsrc,rfl⟩
   | some k =>
    obtain⟨Bk,q1,q2,q3,q4,q5,q6⟩:=hsrc
    have hkl:k<ρ.length:=by rw[hs.len];exact(List.getElem?_eq_some_iff.1 q1).1
    refine .inl ⟨k,ρ[k],Bk,hk,List.getElem?_eq_getElem hkl,q1,?_,q2.symm,q3.symm,q4.symm,q5,rfl,rfl,q6⟩
    simp[locK,List.getD,List.getElem?_eq_getElem hkl]
 have hD:∀ b,Dof C.D0 (ρ.take pre.length++ks.map (locK ρ)) (pre++xs.map gb) b->Dof C.D0 ρ bl b:=by
  rintro b (hx | ⟨j,l,B,e1,e2,e3,e4⟩)
  ·exact .inl hx
  ·rcases get j l B e1 e2 with q0 | ⟨_,⟨k,lk,Bk,q1,q2,q3,q4,q5,q6,q7,q8,q9,q10⟩ | ⟨q1,q2⟩⟩
   ·omega
   ·subst q4
    exact .inr ⟨k,lk,Bk,q2,q3,q8,e4⟩
   ·subst q1;cases e4
 have at_j:∀ j k,pre.length.ble j=true->ks[j-pre.length]? = some k->(ρ.take pre.length++ks.map (locK ρ))[j]? = some (locK ρ k):=fun j k h1 h2=>by
  have:=Nat.le_of_ble_eq_true h1
  rw[List.getElem?_append_right (by omega),hql,List.getElem?_map,h2];rfl
 have out:∀(k:Nat) (l:Loc) (B:Blk) (b:Nat),ρ[k]? = some l->bl[k]? = some B->B.st≤1->l.b=some b->pre.length.ble k=true->(ks.any fun x=>x == some k)=false->¬ Dof C.D0 (ρ.take pre.length++ks.map (locK ρ)) (pre++xs.map gb) b:=by
  rintro k l B b p1 p2 p3 p4 p5 p6 (hx | ⟨j,l',B',e1,e2,e3,e4⟩)
  ·have h1:=hs.own p1 p2 p3 p4
   have h2:=hs.d0 b hx
   rcases h1 with h1 | h1
   ·have:=h2.1
    have h3:C.w0.heap.size≤b:=h1
    omega
   ·exact h2.2 h1
  ·rcases get j l' B' e1 e2 with q0 | ⟨_,⟨k',lk,Bk,q1,q2,q3,q4,q5,q6,q7,q8,q9,q10⟩ | ⟨q1,q2⟩⟩
   ·omega
   ·subst q4
    have:=hs.dist k k' l lk B Bk b p1 q2 p2 q3 p3 (by omega) p4 e4
    subst this
    have:=List.any_eq_false.1 p6 (some k) (List.mem_of_getElem? q1)
    simp at this
   ·subst q1;cases e4
 refine⟨ρ.take pre.length++ks.map (locK ρ),⟨hs.below,hs.d0,by rw[List.length_append,hql];simp[hlen],fun j l B e1 e2 hst=>?_,fun i j li lj Bi Bj b e1 e2 e3 e4 e5 e6 e7 e8=>?_,fun hr b o d hb=>hs.noU hr b o d (hD b hb)⟩,⟨hN.1,fun k l h=>?_⟩,hdf,fun t=>?_⟩
 ·rcases get j l B e1 e2 with q0 | ⟨_,⟨k,lk,Bk,q1,q2,q3,q4,q5,q6,q7,q8,q9,q10,q11⟩ | ⟨q1,q2,q3⟩⟩
  ·omega
  ·subst q4
   refine⟨q10.symm,?_⟩
   rcases(hs.at_ k lk Bk q2 q3 (by omega)).2 with⟨g1,g2,g3⟩ | ⟨b,cap,cs,g2,g3,g4,g5,g6,g7,g8,g9⟩
   ·exact .inl ⟨q7.trans g1,g2,g3⟩
   ·refine .inr ⟨b,cap,cs,g2,g3,by rw[q7];exact g4,by rw[q5];exact g5,by rw[q6];exact g6,by rw[q7];exact g7,g8,fun x y hx hy=>?_⟩
    obtain⟨u,hu,hur⟩:=g9 x y (by omega) (by omega)
    refine⟨u,by rw[q6];exact hu,?_⟩
    rw[if_pos q8]at hur
    rw[if_pos q9]
    exact regC_rel hs hD at_j out (q11 x y hx hy) fun z hz=>by subst hz;exact hur
  ·subst q1
   exact⟨q3.symm,.inl ⟨q2,rfl,rfl⟩⟩
 ·rcases get i li Bi e1 e3 with q0 | ⟨hi1,⟨k,lk,Bk,q1,q2,q3,q4,q5,q6,q7,q8,q9,q10⟩ | ⟨q1,q2⟩⟩
  ·omega
  ·rcases get j lj Bj e2 e4 with p0 | ⟨hj1,⟨k',lk',Bk',p1,p2,p3,p4,p5,p6,p7,p8,p9,p10⟩ | ⟨p1,p2⟩⟩
   ·omega
   ·subst q4 p4
    have:=hs.dist k k' lk lk' Bk Bk' b q2 p2 q3 p3 (by omega) (by omega) e7 e8
    subst this
    have:=injK_eq hi q1 p1
    omega
   ·subst p1;cases e8
  ·subst q1;cases e7
 ·obtain⟨l',h1,h2⟩:=hN.2 k l h
  have hk:k<1:=Nat.lt_of_lt_of_le (List.getElem?_eq_some_iff.1 h).1 hm0
  obtain rfl:k=0:=by omega
  subst hp0
  refine⟨l',?_,h2⟩
  have hu:=(hs.at_ 0 l' B0 h1 hB0 hst0).1
  show([]++ks.map (locK ρ))[0]? = some l'
  rw[List.nil_append,List.getElem?_map,h0]
  show some { ρ.getD 0 ⟨0,none,0,0⟩with u:=0 }=some l'
  rw[List.getD_eq_getElem?_getD,h1]
  show some { l' with u:=0 }=some l'
  cases l'
  simp only[Option.some.injEq,Loc.mk.injEq,and_true]
  simp_all
 ·rcases asg_mem tl t with e | e
  ·show VRel _ _ _ (asg tl t) _
   rw[e];trivial
  ·have e1:=allP_mem hl _ e
   have e2:VRel (Dof C.D0 ρ bl) w ρ (tm t) (a.tmps.getD t undef):=hf t
   show VRel _ _ _ (asg tl t) _
   generalize asg tl t=y at e1 ⊢
   have e1:regV pre.length bl ks (tm t) y:=e1
   have fin:∀ y:V,tm t=y/\y.clos=true->VRel (Dof C.D0 (ρ.take pre.length++ks.map (locK ρ)) (pre++xs.map gb)) w (ρ.take pre.length++ks.map (locK ρ)) y (a.tmps.getD t undef):=fun y h=>by
    rw[h.1]at e2
    exact(e2.clos h.2).step (Ext.refl _ _) (fun b _ hb=>hD b hb) (LocsLe.refl _)
   have fin2:∀ y:V,tm t=y/\closT y=true->VRel (Dof C.D0 (ρ.take pre.length++ks.map (locK ρ)) (pre++xs.map gb)) w (ρ.take pre.length++ks.map (locK ρ)) y (a.tmps.getD t undef):=fun y h=>by
    rw[h.1]at e2
    exact(closT_rel e2 h.2).step (Ext.refl _ _) (fun b _ hb=>hD b hb) (LocsLe.refl _)
   match y,e1 with
   | .c y,e1 =>
    exact regC_rel hs hD at_j out e1 fun x hx=>by
     have hx:tm t = .c x:=hx
     rw[hx]at e2
     exact e2
   | .g l,e1 =>
    rcases e1 with⟨h1,h2⟩ | ⟨l',h1,h2⟩
    ·exact fin _ ⟨h1,h2⟩
    ·rw[h1]at e2
     obtain⟨vs,h3,h4⟩:=e2
     exact⟨vs,h3,regL_rel hs hD at_j out h2 h4⟩
   | .t2 ..,e1=>exact fin2 _ e1
   | .t3 ..,e1=>exact fin2 _ e1
   | .t4 ..,e1=>exact fin2 _ e1
   | .un,e1=>exact fin2 _ e1
theorem Weak.genT {tm:Nat->V} {bl:List Blk} {tl:List (Nat × V)} {xs:List Gx} (ks:List (Option Nat)) (hi:injK ks=true) (h0:ks[0]? = some (some 0)) (hu:∃ B,bl[0]? = some B/\B.u=0/\B.st≤1) (hb:srcsG 0 bl ks ks xs) (hl:allP tl fun p=>regV 0 bl ks (tm p.1) p.2):Weak 1 ⟨tm,bl⟩ (gst tl xs) :=
 Weak.genT0 [] rfl rfl rfl ks hi hb hl h0 hu
theorem swp_cond {E:Env} {N:Nat} {c:Operand} {x y:Code} {σ:St} {R:Exit->St->Prop} {b:Bool} (hb:σ.ev c = .c (.bool b)) (h1:b=true->Swp E N x σ R) (h2:b=false->Swp E N y σ R):Swp E N (.cond c x y) σ R:=⟨fun C a w g1 g2 g3 hr=>by
 have he:a.eval c = .bool b:=by
  obtain⟨ρ,hs,hN,hdf,hf⟩:=hr
  have:=ev_rel hf c
  rw[hb]at this
  exact this
 exact wp_cond_split he (fun e=>(h1 e).run C a w g1 g2 g3 hr) (fun e=>(h2 e).run C a w g1 g2 g3 hr)⟩
theorem swp_mid {E:Env} {N:Nat} {x y:Code} {σ:St} {R:Exit->St->Prop} {α:Type} (S:α->St) (I:α->Prop) (h1:Swp E N x σ (seqR (fun σ'=>∃ a,I a/\Weak E.m0 σ' (S a)) R)) (h2:∀ a,I a->Swp E N y (S a) R):Swp E N (.seq x y) σ R:=by
 refine⟨fun C a w g1 g2 g3 hr=>?_⟩
 refine wp_seq (wp_mono (h1.run C a w g1 g2 g3 hr) ?_)
 rintro e a' w' ⟨σ',hrel,hk⟩
 cases e with
 | normal =>
  obtain⟨p,hp,hw⟩:=hk
  exact(h2 p hp).run C a' w' g1 g2 g3 (hw C a' w' g2 hrel)
 | _=>exact⟨σ',hrel,hk⟩
theorem Swp.mono {E:Env} {N:Nat} {x:Code} {σ:St} {R R':Exit->St->Prop} (h:Swp E N x σ R) (k:∀ e τ,R e τ->R' e τ):Swp E N x σ R':=by
 refine⟨fun C a w g1 g2 g3 hr=>wp_mono (h.run C a w g1 g2 g3 hr) ?_⟩
 rintro e a' w' ⟨σ',hrel,hk⟩
 exact⟨σ',hrel,k e σ' hk⟩
theorem swp_mid2 {E:Env} {N:Nat} {x y z:Code} {σ:St} {R:Exit->St->Prop} {α:Type} (S:α->St) (I:α->Prop) (h1:Swp E N x σ (seqR (fun σ1=>Swp E N y σ1 (seqR (fun σ'=>∃ a,I a/\Weak E.m0 σ' (S a)) R)) R)) (h2:∀ a,I a->Swp E N z (S a) R):Swp E N (.seq x (.seq y z)) σ R :=
 swp_seqS (h1.mono fun e τ h=>by
  cases e with
  | normal=>exact swp_mid S I h h2
  | _=>exact h)
theorem OpGoT.weak {E:Env} {m:Nat} {o:Oper} {σ σ1 σ':St} (h:Weak m σ σ1) (k:OpGoT E m o σ1 σ'):OpGoT E m o σ σ':=fun hC hm hd hr hn=>k hC hm hd (h _ _ _ hm hr) hn
end Go.Proofs.YtkmbnldginonbaaGreat
/- A grid of rows of fractions that are written: what is told of it. -/
namespace Go.Proofs.YtkmbnldginonbaaGreat
open Go.RowKit
namespace Mx
abbrev gq (n:Nat) (v:Nat->Rat):Gx:=⟨38,4,n,qlF fun j=>ofR (v j)⟩
abbrev gG (n:Nat) (g:Nat->Nat):Gx:=⟨22,1,n,fun i _ => .gs (g i+1) 0⟩
abbrev idn (i:Nat):Nat:=i
theorem cells1 {Q:Nat->Nat->Prop} (h0:Q 0 0):∀ i j,i<1->j<1->Q i j:=fun i j hi hj=>by
 obtain rfl:j=0:=by omega
 match i,hi with
 | 0,_=>exact h0
 | _+1,h=>exact absurd h (by omega)
theorem cells2 {Q:Nat->Nat->Prop} (h0:Q 0 0) (h1:Q 1 0):∀ i j,i<2->j<1->Q i j:=fun i j hi hj=>by
 obtain rfl:j=0:=by omega
 match i,hi with
 | 0,_=>exact h0
 | 1,_=>exact h1
 | _+2,h=>exact absurd h (by omega)
theorem cells3 {Q:Nat->Nat->Prop} (h0:Q 0 0) (h1:Q 1 0) (h2:Q 2 0):∀ i j,i<3->j<1->Q i j:=fun i j hi hj=>by
 obtain rfl:j=0:=by omega
 match i,hi with
 | 0,_=>exact h0
 | 1,_=>exact h1
 | 2,_=>exact h2
 | _+3,h=>exact absurd h (by omega)
theorem cells4 {Q:Nat->Nat->Prop} (h0:Q 0 0) (h1:Q 1 0) (h2:Q 2 0) (h3:Q 3 0):∀ i j,i<4->j<1->Q i j:=fun i j hi hj=>by
 obtain rfl:j=0:=by omega
 match i,hi with
 | 0,_=>exact h0
 | 1,_=>exact h1
 | 2,_=>exact h2
 | 3,_=>exact h3
 | _+4,h=>exact absurd h (by omega)
theorem cells5 {Q:Nat->Nat->Prop} (h0:Q 0 0) (h1:Q 1 0) (h2:Q 2 0) (h3:Q 3 0) (h4:Q 4 0):∀ i j,i<5->j<1->Q i j:=fun i j hi hj=>by
 obtain rfl:j=0:=by omega
 match i,hi with
 | 0,_=>exact h0
 | 1,_=>exact h1
 | 2,_=>exact h2
 | 3,_=>exact h3
 | 4,_=>exact h4
 | _+5,h=>exact absurd h (by omega)
theorem q_clos (v:Nat->Rat) (i j:Nat):(qlF (fun j=>ofR (v j)) i j).clos=true:=by
 match j with
 | 0=>rfl
 | 1=>rfl
 | 2=>rfl
 | 3=>rfl
 | j+4=>rfl
theorem row_keep {q:Nat} {bl:List Blk} {ks:List (Option Nat)} {v w:Nat->Rat} {i j:Nat} (h:w i=v i):regC q bl ks (qlF (fun j=>ofR (w j)) i j) fun y=>qlF (fun j=>ofR (v j)) i j=y:=regE (congrArg (fun x=>(rr (ofR x)).getD j .any) h.symm) (q_clos w i j)
theorem row_upd {q:Nat} {bl:List Blk} {ks:List (Option Nat)} {v w:Nat->Rat} {k i j:Nat} {x:Rat} (hj:j<4) (h:(if i=k then x else v i)=w i):regC q bl ks (qlF (fun j=>ofR (w j)) i j) fun y=>updF (qlF fun j=>ofR (v j)) k 0 (nq x) i j=y:=regE (updG (sz:=4) (g:=fun i=>nq (v i)) (g':=fun i=>nq (w i)) rfl hj (by rw[← h];split <;> rfl)) (q_clos w i j)
theorem row_upd2 {q:Nat} {bl:List Blk} {ks:List (Option Nat)} {v w:Nat->Rat} {k l i j:Nat} {x y:Rat} (hj:j<4) (h:(if i=l then y else if i=k then x else v i)=w i):regC q bl ks (qlF (fun j=>ofR (w j)) i j) fun z=>updF (updF (qlF fun j=>ofR (v j)) k 0 (nq x)) l 0 (nq y) i j=z:=by
 refine regE ?_ (q_clos w i j)
 have e:∀ a b,b<4->updF (qlF fun j=>ofR (v j)) k 0 (nq x) a b=qlF (fun a=>ofR (if a=k then x else v a)) a b:=fun a b hb=>updG (sz:=4) (g:=fun i=>nq (v i)) (g':=fun i=>nq (if i=k then x else v i)) rfl hb (by split <;> rfl)
 have e2:updF (updF (qlF fun j=>ofR (v j)) k 0 (nq x)) l 0 (nq y) i j=updF (qlF fun a=>ofR (if a=k then x else v a)) l 0 (nq y) i j:=by
  unfold updF at *
  split
  ·rfl
  ·exact e i j hj
 rw[e2]
 exact updG (sz:=4) (g:=fun i=>nq (if i=k then x else v i)) (g':=fun i=>nq (w i)) rfl hj (by rw[← h];split <;> rfl)
theorem rk {q k n:Nat} {bl:List Blk} {ks:List (Option Nat)} {v w:Nat->Rat} (h:bl[k]? = some ⟨38,4,n,0,0,qlF fun j=>ofR (v j)⟩) (e:∀ x,x<n->w x=v x):srcG q bl ks (gq n w) (some k):=⟨_,h,rfl,rfl,rfl,rfl,fun x _ hx _=>row_keep (e x hx)⟩
theorem rs {q k n:Nat} {bl:List Blk} {ks:List (Option Nat)} {v:Nat->Rat} (h:bl[k]? = some ⟨38,4,n,0,0,qlF fun j=>ofR (v j)⟩):srcG q bl ks (gq n v) (some k):=rk h fun _ _=>rfl
theorem ru {q k n i:Nat} {bl:List Blk} {ks:List (Option Nat)} {v w:Nat->Rat} {z:Rat} (h:bl[k]? = some ⟨38,4,n,0,0,updF (qlF fun j=>ofR (v j)) i 0 (nq z)⟩) (e:∀ x,(if x=i then z else v x)=w x):srcG q bl ks (gq n w) (some k):=⟨_,h,rfl,rfl,rfl,rfl,fun x _ _ hy=>row_upd hy (e x)⟩
theorem rgl {n:Int} (h:(decide (-9223372036854775808≤n)&&decide (n<9223372036854775808))=true):inR .i64 n:=by
 rw[Bool.and_eq_true]at h
 exact i64_range (of_decide_eq_true h.1) (of_decide_eq_true h.2)
theorem so {N:Nat} {c:Code} {σ:St} {R:Exit->St->Prop} (h:awp E1m c σ R) (hc:codeB N c=true:=by kernel_rfl):Swp E1m N c σ R:=swp_of E1m_ok mixed hc h
theorem sq {N:Nat} {x y:Code} {σ:St} {R:Exit->St->Prop} (h:awp E1m x σ (seqR (fun σ'=>∃ σ2,Weak E1m.m0 σ' σ2/\Swp E1m N y σ2 R) R)) (hc:codeB N x=true:=by kernel_rfl):Swp E1m N (.seq x y) σ R:=swp_seq E1m_ok mixed hc h
theorem gk1 {b1:Blk} {r:List Blk} {t:List (Option Nat)} (h:([b1].all fun b=>b.u == 0&&b.st == 0)=true):srcG 0 (gb (gG 1 idn) :: b1 :: r) (some 0 :: some 1 :: t) (gG 1 idn) (some 0):=by
 simp only[List.all_cons,List.all_nil,Bool.and_true,Bool.and_eq_true,beq_iff_eq]at h
 obtain⟨u1,s1⟩:=h
 exact⟨_,rfl,rfl,rfl,rfl,rfl,cells1 ⟨b1,rfl,by rw[u1],s1⟩⟩
theorem gk2 {b1 b2:Blk} {r:List Blk} {t:List (Option Nat)} (h:([b1,b2].all fun b=>b.u == 0&&b.st == 0)=true):srcG 0 (gb (gG 2 idn) :: b1 :: b2 :: r) (some 0 :: some 1 :: some 2 :: t) (gG 2 idn) (some 0):=by
 simp only[List.all_cons,List.all_nil,Bool.and_true,Bool.and_eq_true,beq_iff_eq]at h
 obtain⟨⟨u1,s1⟩,⟨u2,s2⟩⟩:=h
 exact⟨_,rfl,rfl,rfl,rfl,rfl,cells2 ⟨b1,rfl,by rw[u1],s1⟩ ⟨b2,rfl,by rw[u2],s2⟩⟩
theorem gk3 {b1 b2 b3:Blk} {r:List Blk} {t:List (Option Nat)} (h:([b1,b2,b3].all fun b=>b.u == 0&&b.st == 0)=true):srcG 0 (gb (gG 3 idn) :: b1 :: b2 :: b3 :: r) (some 0 :: some 1 :: some 2 :: some 3 :: t) (gG 3 idn) (some 0):=by
 simp only[List.all_cons,List.all_nil,Bool.and_true,Bool.and_eq_true,beq_iff_eq]at h
 obtain⟨⟨u1,s1⟩,⟨u2,s2⟩,⟨u3,s3⟩⟩:=h
 exact⟨_,rfl,rfl,rfl,rfl,rfl,cells3 ⟨b1,rfl,by rw[u1],s1⟩ ⟨b2,rfl,by rw[u2],s2⟩ ⟨b3,rfl,by rw[u3],s3⟩⟩
theorem gk4 {b1 b2 b3 b4:Blk} {r:List Blk} {t:List (Option Nat)} (h:([b1,b2,b3,b4].all fun b=>b.u == 0&&b.st == 0)=true):srcG 0 (gb (gG 4 idn) :: b1 :: b2 :: b3 :: b4 :: r) (some 0 :: some 1 :: some 2 :: some 3 :: some 4 :: t) (gG 4 idn) (some 0):=by
 simp only[List.all_cons,List.all_nil,Bool.and_true,Bool.and_eq_true,beq_iff_eq]at h
 obtain⟨⟨u1,s1⟩,⟨u2,s2⟩,⟨u3,s3⟩,⟨u4,s4⟩⟩:=h
 exact⟨_,rfl,rfl,rfl,rfl,rfl,cells4 ⟨b1,rfl,by rw[u1],s1⟩ ⟨b2,rfl,by rw[u2],s2⟩ ⟨b3,rfl,by rw[u3],s3⟩ ⟨b4,rfl,by rw[u4],s4⟩⟩
theorem gk5 {b1 b2 b3 b4 b5:Blk} {r:List Blk} {t:List (Option Nat)} (h:([b1,b2,b3,b4,b5].all fun b=>b.u == 0&&b.st == 0)=true):srcG 0 (gb (gG 5 idn) :: b1 :: b2 :: b3 :: b4 :: b5 :: r) (some 0 :: some 1 :: some 2 :: some 3 :: some 4 :: some 5 :: t) (gG 5 idn) (some 0):=by
 simp only[List.all_cons,List.all_nil,Bool.and_true,Bool.and_eq_true,beq_iff_eq]at h
 obtain⟨⟨u1,s1⟩,⟨u2,s2⟩,⟨u3,s3⟩,⟨u4,s4⟩,⟨u5,s5⟩⟩:=h
 exact⟨_,rfl,rfl,rfl,rfl,rfl,cells5 ⟨b1,rfl,by rw[u1],s1⟩ ⟨b2,rfl,by rw[u2],s2⟩ ⟨b3,rfl,by rw[u3],s3⟩ ⟨b4,rfl,by rw[u4],s4⟩ ⟨b5,rfl,by rw[u5],s5⟩⟩
end Mx
end Go.Proofs.YtkmbnldginonbaaGreat
/- Short ways to tell a grid of rows anew. -/
namespace Go.Proofs.YtkmbnldginonbaaGreat
open Go.RowKit
namespace Mx
theorem cells6 {Q:Nat->Nat->Prop} (h0:Q 0 0) (h1:Q 1 0) (h2:Q 2 0) (h3:Q 3 0) (h4:Q 4 0) (h5:Q 5 0):∀ i j,i<6->j<1->Q i j:=fun i j hi hj=>by
 obtain rfl:j=0:=by omega
 match i,hi with
 | 0,_=>exact h0
 | 1,_=>exact h1
 | 2,_=>exact h2
 | 3,_=>exact h3
 | 4,_=>exact h4
 | 5,_=>exact h5
 | _+6,h=>exact absurd h (by omega)
theorem gk6 {b1 b2 b3 b4 b5 b6:Blk} {r:List Blk} {t:List (Option Nat)} (h:([b1,b2,b3,b4,b5,b6].all fun b=>b.u == 0&&b.st == 0)=true):srcG 0 (gb (gG 6 idn) :: b1 :: b2 :: b3 :: b4 :: b5 :: b6 :: r) (some 0 :: some 1 :: some 2 :: some 3 :: some 4 :: some 5 :: some 6 :: t) (gG 6 idn) (some 0):=by
 simp only[List.all_cons,List.all_nil,Bool.and_true,Bool.and_eq_true,beq_iff_eq]at h
 obtain⟨⟨u1,s1⟩,⟨u2,s2⟩,⟨u3,s3⟩,⟨u4,s4⟩,⟨u5,s5⟩,⟨u6,s6⟩⟩:=h
 exact⟨_,rfl,rfl,rfl,rfl,rfl,cells6 ⟨b1,rfl,by rw[u1],s1⟩ ⟨b2,rfl,by rw[u2],s2⟩ ⟨b3,rfl,by rw[u3],s3⟩ ⟨b4,rfl,by rw[u4],s4⟩ ⟨b5,rfl,by rw[u5],s5⟩ ⟨b6,rfl,by rw[u6],s6⟩⟩
abbrev R1 (A:Nat->Nat->Rat):List Gx:=[gG 1 idn,gq 1 (A 0)]
abbrev R2 (A:Nat->Nat->Rat):List Gx:=[gG 2 idn,gq 2 (A 0),gq 2 (A 1)]
abbrev R3 (A:Nat->Nat->Rat):List Gx:=[gG 3 idn,gq 3 (A 0),gq 3 (A 1),gq 3 (A 2)]
abbrev R3b (A:Nat->Nat->Rat) (u:Rat):List Gx:=[gG 3 idn,gq 3 (A 0),gq 3 (A 1),gq 3 (A 2),⟨38,4,1,boxF (nq u)⟩]
abbrev R4 (A:Nat->Nat->Rat):List Gx:=[gG 4 idn,gq 4 (A 0),gq 4 (A 1),gq 4 (A 2),gq 4 (A 3)]
abbrev R4b (A:Nat->Nat->Rat) (u:Rat):List Gx:=[gG 4 idn,gq 4 (A 0),gq 4 (A 1),gq 4 (A 2),gq 4 (A 3),⟨38,4,1,boxF (nq u)⟩]
abbrev R5 (A:Nat->Nat->Rat):List Gx:=[gG 5 idn,gq 5 (A 0),gq 5 (A 1),gq 5 (A 2),gq 5 (A 3),gq 5 (A 4)]
abbrev R5b (A:Nat->Nat->Rat) (u:Rat):List Gx:=[gG 5 idn,gq 5 (A 0),gq 5 (A 1),gq 5 (A 2),gq 5 (A 3),gq 5 (A 4),⟨38,4,1,boxF (nq u)⟩]
abbrev R6 (A:Nat->Nat->Rat):List Gx:=[gG 6 idn,gq 6 (A 0),gq 6 (A 1),gq 6 (A 2),gq 6 (A 3),gq 6 (A 4),gq 6 (A 5)]
abbrev R6b (A:Nat->Nat->Rat) (u:Rat):List Gx:=[gG 6 idn,gq 6 (A 0),gq 6 (A 1),gq 6 (A 2),gq 6 (A 3),gq 6 (A 4),gq 6 (A 5),⟨38,4,1,boxF (nq u)⟩]
abbrev nt (k m:Nat):Nat × V:=(k,.c (.int .i64 ((m:Nat):Int)))
abbrev ng (k:Nat):Nat × V:=(k,.c (.gs 0 0))
theorem we3 {tm:Nat->V} {A B:Nat->Nat->Rat} {r:List Blk} {tl:List (Nat × V)} (h:∀ b x,b<3->x<3->B b x=A b x) (hl:allP tl fun p=>regV 0 (gb (gG 3 idn) :: gb (gq 3 (A 0)) :: gb (gq 3 (A 1)) :: gb (gq 3 (A 2)) :: r) [some 0,some 1,some 2,some 3] (tm p.1) p.2):Weak 1 ⟨tm,gb (gG 3 idn) :: gb (gq 3 (A 0)) :: gb (gq 3 (A 1)) :: gb (gq 3 (A 2)) :: r⟩ (gst tl (R3 B)):=Weak.genT [some 0,some 1,some 2,some 3] rfl rfl ⟨_,rfl,rfl,by decide⟩ ⟨gk3 rfl,rk rfl fun x hx=>h 0 x (by decide) hx,rk rfl fun x hx=>h 1 x (by decide) hx,rk rfl fun x hx=>h 2 x (by decide) hx,trivial⟩ hl
theorem ws3 {tm:Nat->V} {A:Nat->Nat->Rat} {r:List Blk} {tl:List (Nat × V)} (hl:allP tl fun p=>regV 0 (gb (gG 3 idn) :: gb (gq 3 (A 0)) :: gb (gq 3 (A 1)) :: gb (gq 3 (A 2)) :: r) [some 0,some 1,some 2,some 3] (tm p.1) p.2):Weak 1 ⟨tm,gb (gG 3 idn) :: gb (gq 3 (A 0)) :: gb (gq 3 (A 1)) :: gb (gq 3 (A 2)) :: r⟩ (gst tl (R3 A)):=we3 (fun _ _ _ _=>rfl) hl
theorem wbe3 {tm:Nat->V} {A B:Nat->Nat->Rat} {u:Rat} {r:List Blk} {tl:List (Nat × V)} (h:∀ b x,b<3->x<3->B b x=A b x) (hl:allP tl fun p=>regV 0 (gb (gG 3 idn) :: gb (gq 3 (A 0)) :: gb (gq 3 (A 1)) :: gb (gq 3 (A 2)) :: gb ⟨38,4,1,boxF (nq u)⟩ :: r) [some 0,some 1,some 2,some 3,some 4] (tm p.1) p.2):Weak 1 ⟨tm,gb (gG 3 idn) :: gb (gq 3 (A 0)) :: gb (gq 3 (A 1)) :: gb (gq 3 (A 2)) :: gb ⟨38,4,1,boxF (nq u)⟩ :: r⟩ (gst tl (R3b B u)):=Weak.genT [some 0,some 1,some 2,some 3,some 4] rfl rfl ⟨_,rfl,rfl,by decide⟩ ⟨gk3 rfl,rk rfl fun x hx=>h 0 x (by decide) hx,rk rfl fun x hx=>h 1 x (by decide) hx,rk rfl fun x hx=>h 2 x (by decide) hx,Rf.boxK rfl rfl,trivial⟩ hl
theorem gp3 {bl:List Blk} {ks:List (Option Nat)} {g:Nat->Nat} {f:Nat->Nat->Cell} {u:Nat} (h:bl[0]? = some ⟨22,1,3,u,0,f⟩) (h0:regC 0 bl ks (.gs (g 0+1) 0) (fun y=>f 0 0=y):=by exact⟨_,rfl,rfl,rfl⟩) (h1:regC 0 bl ks (.gs (g 1+1) 0) (fun y=>f 1 0=y):=by exact⟨_,rfl,rfl,rfl⟩) (h2:regC 0 bl ks (.gs (g 2+1) 0) (fun y=>f 2 0=y):=by exact⟨_,rfl,rfl,rfl⟩):srcG 0 bl ks (gG 3 g) (some 0):=⟨_,h,rfl,rfl,rfl,rfl,cells3 h0 h1 h2⟩
theorem we4 {tm:Nat->V} {A B:Nat->Nat->Rat} {r:List Blk} {tl:List (Nat × V)} (h:∀ b x,b<4->x<4->B b x=A b x) (hl:allP tl fun p=>regV 0 (gb (gG 4 idn) :: gb (gq 4 (A 0)) :: gb (gq 4 (A 1)) :: gb (gq 4 (A 2)) :: gb (gq 4 (A 3)) :: r) [some 0,some 1,some 2,some 3,some 4] (tm p.1) p.2):Weak 1 ⟨tm,gb (gG 4 idn) :: gb (gq 4 (A 0)) :: gb (gq 4 (A 1)) :: gb (gq 4 (A 2)) :: gb (gq 4 (A 3)) :: r⟩ (gst tl (R4 B)):=Weak.genT [some 0,some 1,some 2,some 3,some 4] rfl rfl ⟨_,rfl,rfl,by decide⟩ ⟨gk4 rfl,rk rfl fun x hx=>h 0 x (by decide) hx,rk rfl fun x hx=>h 1 x (by decide) hx,rk rfl fun x hx=>h 2 x (by decide) hx,rk rfl fun x hx=>h 3 x (by decide) hx,trivial⟩ hl
theorem ws4 {tm:Nat->V} {A:Nat->Nat->Rat} {r:List Blk} {tl:List (Nat × V)} (hl:allP tl fun p=>regV 0 (gb (gG 4 idn) :: gb (gq 4 (A 0)) :: gb (gq 4 (A 1)) :: gb (gq 4 (A 2)) :: gb (gq 4 (A 3)) :: r) [some 0,some 1,some 2,some 3,some 4] (tm p.1) p.2):Weak 1 ⟨tm,gb (gG 4 idn) :: gb (gq 4 (A 0)) :: gb (gq 4 (A 1)) :: gb (gq 4 (A 2)) :: gb (gq 4 (A 3)) :: r⟩ (gst tl (R4 A)):=we4 (fun _ _ _ _=>rfl) hl
theorem wbe4 {tm:Nat->V} {A B:Nat->Nat->Rat} {u:Rat} {r:List Blk} {tl:List (Nat × V)} (h:∀ b x,b<4->x<4->B b x=A b x) (hl:allP tl fun p=>regV 0 (gb (gG 4 idn) :: gb (gq 4 (A 0)) :: gb (gq 4 (A 1)) :: gb (gq 4 (A 2)) :: gb (gq 4 (A 3)) :: gb ⟨38,4,1,boxF (nq u)⟩ :: r) [some 0,some 1,some 2,some 3,some 4,some 5] (tm p.1) p.2):Weak 1 ⟨tm,gb (gG 4 idn) :: gb (gq 4 (A 0)) :: gb (gq 4 (A 1)) :: gb (gq 4 (A 2)) :: gb (gq 4 (A 3)) :: gb ⟨38,4,1,boxF (nq u)⟩ :: r⟩ (gst tl (R4b B u)):=Weak.genT [some 0,some 1,some 2,some 3,some 4,some 5] rfl rfl ⟨_,rfl,rfl,by decide⟩ ⟨gk4 rfl,rk rfl fun x hx=>h 0 x (by decide) hx,rk rfl fun x hx=>h 1 x (by decide) hx,rk rfl fun x hx=>h 2 x (by decide) hx,rk rfl fun x hx=>h 3 x (by decide) hx,Rf.boxK rfl rfl,trivial⟩ hl
theorem gp4 {bl:List Blk} {ks:List (Option Nat)} {g:Nat->Nat} {f:Nat->Nat->Cell} {u:Nat} (h:bl[0]? = some ⟨22,1,4,u,0,f⟩) (h0:regC 0 bl ks (.gs (g 0+1) 0) (fun y=>f 0 0=y):=by exact⟨_,rfl,rfl,rfl⟩) (h1:regC 0 bl ks (.gs (g 1+1) 0) (fun y=>f 1 0=y):=by exact⟨_,rfl,rfl,rfl⟩) (h2:regC 0 bl ks (.gs (g 2+1) 0) (fun y=>f 2 0=y):=by exact⟨_,rfl,rfl,rfl⟩) (h3:regC 0 bl ks (.gs (g 3+1) 0) (fun y=>f 3 0=y):=by exact⟨_,rfl,rfl,rfl⟩):srcG 0 bl ks (gG 4 g) (some 0):=⟨_,h,rfl,rfl,rfl,rfl,cells4 h0 h1 h2 h3⟩
theorem we5 {tm:Nat->V} {A B:Nat->Nat->Rat} {r:List Blk} {tl:List (Nat × V)} (h:∀ b x,b<5->x<5->B b x=A b x) (hl:allP tl fun p=>regV 0 (gb (gG 5 idn) :: gb (gq 5 (A 0)) :: gb (gq 5 (A 1)) :: gb (gq 5 (A 2)) :: gb (gq 5 (A 3)) :: gb (gq 5 (A 4)) :: r) [some 0,some 1,some 2,some 3,some 4,some 5] (tm p.1) p.2):Weak 1 ⟨tm,gb (gG 5 idn) :: gb (gq 5 (A 0)) :: gb (gq 5 (A 1)) :: gb (gq 5 (A 2)) :: gb (gq 5 (A 3)) :: gb (gq 5 (A 4)) :: r⟩ (gst tl (R5 B)):=Weak.genT [some 0,some 1,some 2,some 3,some 4,some 5] rfl rfl ⟨_,rfl,rfl,by decide⟩ ⟨gk5 rfl,rk rfl fun x hx=>h 0 x (by decide) hx,rk rfl fun x hx=>h 1 x (by decide) hx,rk rfl fun x hx=>h 2 x (by decide) hx,rk rfl fun x hx=>h 3 x (by decide) hx,rk rfl fun x hx=>h 4 x (by decide) hx,trivial⟩ hl
theorem ws5 {tm:Nat->V} {A:Nat->Nat->Rat} {r:List Blk} {tl:List (Nat × V)} (hl:allP tl fun p=>regV 0 (gb (gG 5 idn) :: gb (gq 5 (A 0)) :: gb (gq 5 (A 1)) :: gb (gq 5 (A 2)) :: gb (gq 5 (A 3)) :: gb (gq 5 (A 4)) :: r) [some 0,some 1,some 2,some 3,some 4,some 5] (tm p.1) p.2):Weak 1 ⟨tm,gb (gG 5 idn) :: gb (gq 5 (A 0)) :: gb (gq 5 (A 1)) :: gb (gq 5 (A 2)) :: gb (gq 5 (A 3)) :: gb (gq 5 (A 4)) :: r⟩ (gst tl (R5 A)):=we5 (fun _ _ _ _=>rfl) hl
theorem wbe5 {tm:Nat->V} {A B:Nat->Nat->Rat} {u:Rat} {r:List Blk} {tl:List (Nat × V)} (h:∀ b x,b<5->x<5->B b x=A b x) (hl:allP tl fun p=>regV 0 (gb (gG 5 idn) :: gb (gq 5 (A 0)) :: gb (gq 5 (A 1)) :: gb (gq 5 (A 2)) :: gb (gq 5 (A 3)) :: gb (gq 5 (A 4)) :: gb ⟨38,4,1,boxF (nq u)⟩ :: r) [some 0,some 1,some 2,some 3,some 4,some 5,some 6] (tm p.1) p.2):Weak 1 ⟨tm,gb (gG 5 idn) :: gb (gq 5 (A 0)) :: gb (gq 5 (A 1)) :: gb (gq 5 (A 2)) :: gb (gq 5 (A 3)) :: gb (gq 5 (A 4)) :: gb ⟨38,4,1,boxF (nq u)⟩ :: r⟩ (gst tl (R5b B u)):=Weak.genT [some 0,some 1,some 2,some 3,some 4,some 5,some 6] rfl rfl ⟨_,rfl,rfl,by decide⟩ ⟨gk5 rfl,rk rfl fun x hx=>h 0 x (by decide) hx,rk rfl fun x hx=>h 1 x (by decide) hx,rk rfl fun x hx=>h 2 x (by decide) hx,rk rfl fun x hx=>h 3 x (by decide) hx,rk rfl fun x hx=>h 4 x (by decide) hx,Rf.boxK rfl rfl,trivial⟩ hl
theorem gp5 {bl:List Blk} {ks:List (Option Nat)} {g:Nat->Nat} {f:Nat->Nat->Cell} {u:Nat} (h:bl[0]? = some ⟨22,1,5,u,0,f⟩) (h0:regC 0 bl ks (.gs (g 0+1) 0) (fun y=>f 0 0=y):=by exact⟨_,rfl,rfl,rfl⟩) (h1:regC 0 bl ks (.gs (g 1+1) 0) (fun y=>f 1 0=y):=by exact⟨_,rfl,rfl,rfl⟩) (h2:regC 0 bl ks (.gs (g 2+1) 0) (fun y=>f 2 0=y):=by exact⟨_,rfl,rfl,rfl⟩) (h3:regC 0 bl ks (.gs (g 3+1) 0) (fun y=>f 3 0=y):=by exact⟨_,rfl,rfl,rfl⟩) (h4:regC 0 bl ks (.gs (g 4+1) 0) (fun y=>f 4 0=y):=by exact⟨_,rfl,rfl,rfl⟩):srcG 0 bl ks (gG 5 g) (some 0):=⟨_,h,rfl,rfl,rfl,rfl,cells5 h0 h1 h2 h3 h4⟩
theorem we6 {tm:Nat->V} {A B:Nat->Nat->Rat} {r:List Blk} {tl:List (Nat × V)} (h:∀ b x,b<6->x<6->B b x=A b x) (hl:allP tl fun p=>regV 0 (gb (gG 6 idn) :: gb (gq 6 (A 0)) :: gb (gq 6 (A 1)) :: gb (gq 6 (A 2)) :: gb (gq 6 (A 3)) :: gb (gq 6 (A 4)) :: gb (gq 6 (A 5)) :: r) [some 0,some 1,some 2,some 3,some 4,some 5,some 6] (tm p.1) p.2):Weak 1 ⟨tm,gb (gG 6 idn) :: gb (gq 6 (A 0)) :: gb (gq 6 (A 1)) :: gb (gq 6 (A 2)) :: gb (gq 6 (A 3)) :: gb (gq 6 (A 4)) :: gb (gq 6 (A 5)) :: r⟩ (gst tl (R6 B)):=Weak.genT [some 0,some 1,some 2,some 3,some 4,some 5,some 6] rfl rfl ⟨_,rfl,rfl,by decide⟩ ⟨gk6 rfl,rk rfl fun x hx=>h 0 x (by decide) hx,rk rfl fun x hx=>h 1 x (by decide) hx,rk rfl fun x hx=>h 2 x (by decide) hx,rk rfl fun x hx=>h 3 x (by decide) hx,rk rfl fun x hx=>h 4 x (by decide) hx,rk rfl fun x hx=>h 5 x (by decide) hx,trivial⟩ hl
theorem ws6 {tm:Nat->V} {A:Nat->Nat->Rat} {r:List Blk} {tl:List (Nat × V)} (hl:allP tl fun p=>regV 0 (gb (gG 6 idn) :: gb (gq 6 (A 0)) :: gb (gq 6 (A 1)) :: gb (gq 6 (A 2)) :: gb (gq 6 (A 3)) :: gb (gq 6 (A 4)) :: gb (gq 6 (A 5)) :: r) [some 0,some 1,some 2,some 3,some 4,some 5,some 6] (tm p.1) p.2):Weak 1 ⟨tm,gb (gG 6 idn) :: gb (gq 6 (A 0)) :: gb (gq 6 (A 1)) :: gb (gq 6 (A 2)) :: gb (gq 6 (A 3)) :: gb (gq 6 (A 4)) :: gb (gq 6 (A 5)) :: r⟩ (gst tl (R6 A)):=we6 (fun _ _ _ _=>rfl) hl
theorem wbe6 {tm:Nat->V} {A B:Nat->Nat->Rat} {u:Rat} {r:List Blk} {tl:List (Nat × V)} (h:∀ b x,b<6->x<6->B b x=A b x) (hl:allP tl fun p=>regV 0 (gb (gG 6 idn) :: gb (gq 6 (A 0)) :: gb (gq 6 (A 1)) :: gb (gq 6 (A 2)) :: gb (gq 6 (A 3)) :: gb (gq 6 (A 4)) :: gb (gq 6 (A 5)) :: gb ⟨38,4,1,boxF (nq u)⟩ :: r) [some 0,some 1,some 2,some 3,some 4,some 5,some 6,some 7] (tm p.1) p.2):Weak 1 ⟨tm,gb (gG 6 idn) :: gb (gq 6 (A 0)) :: gb (gq 6 (A 1)) :: gb (gq 6 (A 2)) :: gb (gq 6 (A 3)) :: gb (gq 6 (A 4)) :: gb (gq 6 (A 5)) :: gb ⟨38,4,1,boxF (nq u)⟩ :: r⟩ (gst tl (R6b B u)):=Weak.genT [some 0,some 1,some 2,some 3,some 4,some 5,some 6,some 7] rfl rfl ⟨_,rfl,rfl,by decide⟩ ⟨gk6 rfl,rk rfl fun x hx=>h 0 x (by decide) hx,rk rfl fun x hx=>h 1 x (by decide) hx,rk rfl fun x hx=>h 2 x (by decide) hx,rk rfl fun x hx=>h 3 x (by decide) hx,rk rfl fun x hx=>h 4 x (by decide) hx,rk rfl fun x hx=>h 5 x (by decide) hx,Rf.boxK rfl rfl,trivial⟩ hl
theorem gp6 {bl:List Blk} {ks:List (Option Nat)} {g:Nat->Nat} {f:Nat->Nat->Cell} {u:Nat} (h:bl[0]? = some ⟨22,1,6,u,0,f⟩) (h0:regC 0 bl ks (.gs (g 0+1) 0) (fun y=>f 0 0=y):=by exact⟨_,rfl,rfl,rfl⟩) (h1:regC 0 bl ks (.gs (g 1+1) 0) (fun y=>f 1 0=y):=by exact⟨_,rfl,rfl,rfl⟩) (h2:regC 0 bl ks (.gs (g 2+1) 0) (fun y=>f 2 0=y):=by exact⟨_,rfl,rfl,rfl⟩) (h3:regC 0 bl ks (.gs (g 3+1) 0) (fun y=>f 3 0=y):=by exact⟨_,rfl,rfl,rfl⟩) (h4:regC 0 bl ks (.gs (g 4+1) 0) (fun y=>f 4 0=y):=by exact⟨_,rfl,rfl,rfl⟩) (h5:regC 0 bl ks (.gs (g 5+1) 0) (fun y=>f 5 0=y):=by exact⟨_,rfl,rfl,rfl⟩):srcG 0 bl ks (gG 6 g) (some 0):=⟨_,h,rfl,rfl,rfl,rfl,cells6 h0 h1 h2 h3 h4 h5⟩
end Mx
end Go.Proofs.YtkmbnldginonbaaGreat
/- Rows and columns exchanged. -/
set_option maxHeartbeats 64000000
namespace Go.Proofs.YtkmbnldginonbaaGreat
open Go.RowKit
namespace Mx
def xr (M:Nat->Nat->Rat) (i j k b a:Nat):Rat:=if sw i j b<k then M b (sw i j a)else M b a
theorem xr_zero (M:Nat->Nat->Rat) (i j b a:Nat):xr M i j 0 b a=M b a:=if_neg (by omega)
theorem xr_step (M:Nat->Nat->Rat) {i j k b:Nat} (hij:i≠j) (hb:sw i j b=k) (a:Nat):(if a=j then xr M i j k b i else if a=i then xr M i j k b j else xr M i j k b a)=xr M i j (k+1) b a:=by
  have e:∀ x,xr M i j k b x=M b x:=fun x=>if_neg (by omega)
  have e3:xr M i j (k+1) b a=M b (if a=i then j else if a=j then i else a):=if_pos (by omega)
  rw[e,e,e,e3]
  by_cases h1:a=i
  · rw[if_neg (show ¬ a=j by omega),if_pos h1,if_pos h1]
  · rw[if_neg h1,if_neg h1]
    by_cases h2:a=j
    · rw[if_pos h2,if_pos h2]
    · rw[if_neg h2,if_neg h2]
theorem xr_keep (M:Nat->Nat->Rat) {i j k b:Nat} (hb:sw i j b≠k) (a:Nat):xr M i j (k+1) b a=xr M i j k b a:=by
  unfold xr
  by_cases h:sw i j b<k
  · rw[if_pos h,if_pos (by omega)]
  · rw[if_neg h,if_neg (by omega)]
theorem xr_all (M:Nat->Nat->Rat) {i j n a:Nat} (ha:a<n) (x:Nat):xch (sw i j) M a x=xr M i j n (sw i j a) x:=by
  show _=if sw i j (sw i j a)<n then M (sw i j a) (sw i j x)else _
  rw[sw_sw,if_pos ha]
  rfl
theorem xk {q k n i j t b:Nat} {bl:List Blk} {ks:List (Option Nat)} {M:Nat->Nat->Rat} (h:bl[k]? = some ⟨38,4,n,0,0,qlF fun x=>ofR (xr M i j t b x)⟩) (hb:sw i j b≠t:=by exact of_decide_eq_true rfl):srcG q bl ks (gq n (xr M i j (t+1) b)) (some k):=rk h fun x _=>xr_keep M hb x
theorem xz {q k n i j b:Nat} {bl:List Blk} {ks:List (Option Nat)} {M:Nat->Nat->Rat} (h:bl[k]? = some ⟨38,4,n,0,0,qlF fun x=>ofR (M b x)⟩):srcG q bl ks (gq n (xr M i j 0 b)) (some k):=rk h fun x _=>xr_zero M i j b x
theorem xa {q k n i j m b:Nat} {bl:List Blk} {ks:List (Option Nat)} {M:Nat->Nat->Rat} (h:bl[k]? = some ⟨38,4,n,0,0,qlF fun x=>ofR (xr M i j m (sw i j b) x)⟩) (hb:b<m:=by exact of_decide_eq_true rfl):srcG q bl ks (gq n (xch (sw i j) M b)) (some k):=rk h fun x _=>xr_all M hb x
theorem xu {q k n i j t b:Nat} {bl:List Blk} {ks:List (Option Nat)} {M:Nat->Nat->Rat} (h:bl[k]? = some ⟨38,4,n,0,0,updF (updF (qlF fun x=>ofR (xr M i j t b x)) i 0 (nq (xr M i j t b j))) j 0 (nq (xr M i j t b i))⟩) (hij:i≠j:=by exact of_decide_eq_true rfl) (hb:sw i j b=t:=by rfl):srcG q bl ks (gq n (xr M i j (t+1) b)) (some k):=⟨_,h,rfl,rfl,rfl,rfl,fun x _ _ hy=>row_upd2 hy (xr_step M hij hb x)⟩
theorem lets {P:Nat->Prop} {i k:Nat} (h:i=k) (g:let v:=k;P v):P i:=by
  subst h
  exact g
theorem ni {i m:Nat} (e:decide (i<m)=true):i<m:=of_decide_eq_true e
theorem ia {i m:Int} (e:decide (i<m)=true):i<m:=of_decide_eq_true e
theorem ib {i m:Int} (e:decide (i≤m)=true):i≤m:=of_decide_eq_true e
theorem wt {tm:Nat->V} {bl:List Blk} {tl:List (Nat × V)} {xs:List Gx} {ks:List (Option Nat)} (hb:srcsG 0 bl ks ks xs) (hl:allP tl fun p=>regV 0 bl ks (tm p.1) p.2) (hi:injK ks=true:=by rfl) (h0:ks[0]? = some (some 0):=by rfl) (hu:∃ B,bl[0]? = some B/\B.u=0/\B.st≤1:=by exact⟨_,rfl,rfl,Nat.zero_le 1⟩):Weak 1 ⟨tm,bl⟩ (gst tl xs):=Weak.genT ks hi h0 hu hb hl
set_option maxRecDepth 100000 in
theorem exch_3 (M:Nat->Nat->Rat) {i j:Nat} (hij:j<i) (hi:i<3):FnT Tryz.prog true 92 1 ((R3 M).map gb) [.c (.gs 0 0),.c (.int .i64 i),.c (.int .i64 j)] (.c .any) ((R3 (xch (sw i j) M)).map gb):=by
  have e:i=1∨i=2:=by omega
  revert hij hi
  rcases e with e | e <;> (
    apply lets e
    intro i hij hi
    have e:j=0∨j=1:=by omega
    revert hij
    rcases e with e | e <;> (
      apply lets e
      intro j hij
      first
      | exact absurd hij (of_decide_eq_false rfl)
      | (
         clear hij hi
         refine fnt_okS (E:=E1m) E1m_ok Tryz.func92 rfl (by kernel_rfl) ?_
         refine sq ?_
         conv=>whnf
         repeat (refine⟨ib rfl,ia rfl,?_⟩;conv=>whnf)
         refine⟨gst [(0,.c (.gs 0 0)),(1,.c (.int .i64 i)),(2,.c (.int .i64 j))] [gG 3 (sw i j),gq 3 (M 0),gq 3 (M 1),gq 3 (M 2)],wt (ks:=[some 0,some 1,some 2,some 3]) ⟨gp3 rfl,rs rfl,rs rfl,rs rfl,trivial⟩ ⟨⟨_,rfl,rfl,rfl⟩,⟨_,rfl,rfl⟩,⟨_,rfl,rfl⟩,trivial⟩,?_⟩
         refine sq ?_
         conv=>whnf
         refine⟨(fun k:Nat=>gst [(1,.c (.int .i64 i)),(2,.c (.int .i64 j)),(22,.c (.gs 0 0)),(23,.c (.int .i64 3)),(24,.c (.int .i64 (k:Nat)))] [gG 3 (sw i j),gq 3 (xr M i j k 0),gq 3 (xr M i j k 1),gq 3 (xr M i j k 2)]) 0,wt (ks:=[some 0,some 1,some 2,some 3]) ⟨gp3 rfl,xz rfl,xz rfl,xz rfl,trivial⟩ ⟨⟨_,rfl,rfl⟩,⟨_,rfl,rfl⟩,⟨_,rfl,rfl,rfl⟩,⟨_,rfl,rfl⟩,⟨_,rfl,rfl⟩,trivial⟩,?_⟩
         refine swp_block (swp_loop (fun k:Nat=>gst [(1,.c (.int .i64 i)),(2,.c (.int .i64 j)),(22,.c (.gs 0 0)),(23,.c (.int .i64 3)),(24,.c (.int .i64 (k:Nat)))] [gG 3 (sw i j),gq 3 (xr M i j k 0),gq 3 (xr M i j k 1),gq 3 (xr M i j k 2)]) (fun k=>3-k) (fun k=>k≤3) 0 (Weak.refl _) (Nat.zero_le _) fun k hk=>?_)
         rcases Nat.lt_or_ge k 3 with hlt | hge
         rotate_left
         · obtain rfl:k=3:=Nat.le_antisymm hk hge
           refine so ?_
           conv=>whnf
           exact wt (tl:=[(0,.c .any)]) (xs:=R3 (xch (sw i j) M)) (ks:=[some 0,some (sw i j 0+1),some (sw i j 1+1),some (sw i j 2+1)]) ⟨gp3 rfl,xa rfl,xa rfl,xa rfl,trivial⟩ ⟨⟨rfl,rfl⟩,trivial⟩
         have e:k=0∨k=1∨k=2:=by omega
         clear hk hlt
         rcases e with e | e | e <;> (
           apply lets e
           intro k
           have hk:k<3:=ni rfl
           refine so ?_
           conv=>whnf
           repeat (refine⟨by first | exact ib rfl | exact ia rfl | exact ixl rfl,?_⟩;conv=>whnf)
           refine⟨i64_range (by omega) (by omega),?_⟩
           conv=>whnf
           exact⟨k+1,by omega,wt (ks:=[some 0,some 1,some 2,some 3]) ⟨gp3 rfl,by first | exact xk rfl | exact xu rfl,by first | exact xk rfl | exact xu rfl,by first | exact xk rfl | exact xu rfl,trivial⟩ ⟨⟨_,rfl,rfl⟩,⟨_,rfl,rfl⟩,⟨_,rfl,rfl,rfl⟩,⟨_,rfl,rfl⟩,⟨_,rfl,rfl⟩,trivial⟩,hk⟩))))
set_option maxRecDepth 100000 in
theorem exch_4 (M:Nat->Nat->Rat) {i j:Nat} (hij:j<i) (hi:i<4):FnT Tryz.prog true 92 1 ((R4 M).map gb) [.c (.gs 0 0),.c (.int .i64 i),.c (.int .i64 j)] (.c .any) ((R4 (xch (sw i j) M)).map gb):=by
  have e:i=1∨i=2∨i=3:=by omega
  revert hij hi
  rcases e with e | e | e <;> (
    apply lets e
    intro i hij hi
    have e:j=0∨j=1∨j=2:=by omega
    revert hij
    rcases e with e | e | e <;> (
      apply lets e
      intro j hij
      first
      | exact absurd hij (of_decide_eq_false rfl)
      | (
         clear hij hi
         refine fnt_okS (E:=E1m) E1m_ok Tryz.func92 rfl (by kernel_rfl) ?_
         refine sq ?_
         conv=>whnf
         repeat (refine⟨ib rfl,ia rfl,?_⟩;conv=>whnf)
         refine⟨gst [(0,.c (.gs 0 0)),(1,.c (.int .i64 i)),(2,.c (.int .i64 j))] [gG 4 (sw i j),gq 4 (M 0),gq 4 (M 1),gq 4 (M 2),gq 4 (M 3)],wt (ks:=[some 0,some 1,some 2,some 3,some 4]) ⟨gp4 rfl,rs rfl,rs rfl,rs rfl,rs rfl,trivial⟩ ⟨⟨_,rfl,rfl,rfl⟩,⟨_,rfl,rfl⟩,⟨_,rfl,rfl⟩,trivial⟩,?_⟩
         refine sq ?_
         conv=>whnf
         refine⟨(fun k:Nat=>gst [(1,.c (.int .i64 i)),(2,.c (.int .i64 j)),(22,.c (.gs 0 0)),(23,.c (.int .i64 4)),(24,.c (.int .i64 (k:Nat)))] [gG 4 (sw i j),gq 4 (xr M i j k 0),gq 4 (xr M i j k 1),gq 4 (xr M i j k 2),gq 4 (xr M i j k 3)]) 0,wt (ks:=[some 0,some 1,some 2,some 3,some 4]) ⟨gp4 rfl,xz rfl,xz rfl,xz rfl,xz rfl,trivial⟩ ⟨⟨_,rfl,rfl⟩,⟨_,rfl,rfl⟩,⟨_,rfl,rfl,rfl⟩,⟨_,rfl,rfl⟩,⟨_,rfl,rfl⟩,trivial⟩,?_⟩
         refine swp_block (swp_loop (fun k:Nat=>gst [(1,.c (.int .i64 i)),(2,.c (.int .i64 j)),(22,.c (.gs 0 0)),(23,.c (.int .i64 4)),(24,.c (.int .i64 (k:Nat)))] [gG 4 (sw i j),gq 4 (xr M i j k 0),gq 4 (xr M i j k 1),gq 4 (xr M i j k 2),gq 4 (xr M i j k 3)]) (fun k=>4-k) (fun k=>k≤4) 0 (Weak.refl _) (Nat.zero_le _) fun k hk=>?_)
         rcases Nat.lt_or_ge k 4 with hlt | hge
         rotate_left
         · obtain rfl:k=4:=Nat.le_antisymm hk hge
           refine so ?_
           conv=>whnf
           exact wt (tl:=[(0,.c .any)]) (xs:=R4 (xch (sw i j) M)) (ks:=[some 0,some (sw i j 0+1),some (sw i j 1+1),some (sw i j 2+1),some (sw i j 3+1)]) ⟨gp4 rfl,xa rfl,xa rfl,xa rfl,xa rfl,trivial⟩ ⟨⟨rfl,rfl⟩,trivial⟩
         have e:k=0∨k=1∨k=2∨k=3:=by omega
         clear hk hlt
         rcases e with e | e | e | e <;> (
           apply lets e
           intro k
           have hk:k<4:=ni rfl
           refine so ?_
           conv=>whnf
           repeat (refine⟨by first | exact ib rfl | exact ia rfl | exact ixl rfl,?_⟩;conv=>whnf)
           refine⟨i64_range (by omega) (by omega),?_⟩
           conv=>whnf
           exact⟨k+1,by omega,wt (ks:=[some 0,some 1,some 2,some 3,some 4]) ⟨gp4 rfl,by first | exact xk rfl | exact xu rfl,by first | exact xk rfl | exact xu rfl,by first | exact xk rfl | exact xu rfl,by first | exact xk rfl | exact xu rfl,trivial⟩ ⟨⟨_,rfl,rfl⟩,⟨_,rfl,rfl⟩,⟨_,rfl,rfl,rfl⟩,⟨_,rfl,rfl⟩,⟨_,rfl,rfl⟩,trivial⟩,hk⟩))))
set_option maxRecDepth 100000 in
theorem exch_5 (M:Nat->Nat->Rat) {i j:Nat} (hij:j<i) (hi:i<5):FnT Tryz.prog true 92 1 ((R5 M).map gb) [.c (.gs 0 0),.c (.int .i64 i),.c (.int .i64 j)] (.c .any) ((R5 (xch (sw i j) M)).map gb):=by
  have e:i=1∨i=2∨i=3∨i=4:=by omega
  revert hij hi
  rcases e with e | e | e | e <;> (
    apply lets e
    intro i hij hi
    have e:j=0∨j=1∨j=2∨j=3:=by omega
    revert hij
    rcases e with e | e | e | e <;> (
      apply lets e
      intro j hij
      first
      | exact absurd hij (of_decide_eq_false rfl)
      | (
         clear hij hi
         refine fnt_okS (E:=E1m) E1m_ok Tryz.func92 rfl (by kernel_rfl) ?_
         refine sq ?_
         conv=>whnf
         repeat (refine⟨ib rfl,ia rfl,?_⟩;conv=>whnf)
         refine⟨gst [(0,.c (.gs 0 0)),(1,.c (.int .i64 i)),(2,.c (.int .i64 j))] [gG 5 (sw i j),gq 5 (M 0),gq 5 (M 1),gq 5 (M 2),gq 5 (M 3),gq 5 (M 4)],wt (ks:=[some 0,some 1,some 2,some 3,some 4,some 5]) ⟨gp5 rfl,rs rfl,rs rfl,rs rfl,rs rfl,rs rfl,trivial⟩ ⟨⟨_,rfl,rfl,rfl⟩,⟨_,rfl,rfl⟩,⟨_,rfl,rfl⟩,trivial⟩,?_⟩
         refine sq ?_
         conv=>whnf
         refine⟨(fun k:Nat=>gst [(1,.c (.int .i64 i)),(2,.c (.int .i64 j)),(22,.c (.gs 0 0)),(23,.c (.int .i64 5)),(24,.c (.int .i64 (k:Nat)))] [gG 5 (sw i j),gq 5 (xr M i j k 0),gq 5 (xr M i j k 1),gq 5 (xr M i j k 2),gq 5 (xr M i j k 3),gq 5 (xr M i j k 4)]) 0,wt (ks:=[some 0,some 1,some 2,some 3,some 4,some 5]) ⟨gp5 rfl,xz rfl,xz rfl,xz rfl,xz rfl,xz rfl,trivial⟩ ⟨⟨_,rfl,rfl⟩,⟨_,rfl,rfl⟩,⟨_,rfl,rfl,rfl⟩,⟨_,rfl,rfl⟩,⟨_,rfl,rfl⟩,trivial⟩,?_⟩
         refine swp_block (swp_loop (fun k:Nat=>gst [(1,.c (.int .i64 i)),(2,.c (.int .i64 j)),(22,.c (.gs 0 0)),(23,.c (.int .i64 5)),(24,.c (.int .i64 (k:Nat)))] [gG 5 (sw i j),gq 5 (xr M i j k 0),gq 5 (xr M i j k 1),gq 5 (xr M i j k 2),gq 5 (xr M i j k 3),gq 5 (xr M i j k 4)]) (fun k=>5-k) (fun k=>k≤5) 0 (Weak.refl _) (Nat.zero_le _) fun k hk=>?_)
         rcases Nat.lt_or_ge k 5 with hlt | hge
         rotate_left
         · obtain rfl:k=5:=Nat.le_antisymm hk hge
           refine so ?_
           conv=>whnf
           exact wt (tl:=[(0,.c .any)]) (xs:=R5 (xch (sw i j) M)) (ks:=[some 0,some (sw i j 0+1),some (sw i j 1+1),some (sw i j 2+1),some (sw i j 3+1),some (sw i j 4+1)]) ⟨gp5 rfl,xa rfl,xa rfl,xa rfl,xa rfl,xa rfl,trivial⟩ ⟨⟨rfl,rfl⟩,trivial⟩
         have e:k=0∨k=1∨k=2∨k=3∨k=4:=by omega
         clear hk hlt
         rcases e with e | e | e | e | e <;> (
           apply lets e
           intro k
           have hk:k<5:=ni rfl
           refine so ?_
           conv=>whnf
           repeat (refine⟨by first | exact ib rfl | exact ia rfl | exact ixl rfl,?_⟩;conv=>whnf)
           refine⟨i64_range (by omega) (by omega),?_⟩
           conv=>whnf
           exact⟨k+1,by omega,wt (ks:=[some 0,some 1,some 2,some 3,some 4,some 5]) ⟨gp5 rfl,by first | exact xk rfl | exact xu rfl,by first | exact xk rfl | exact xu rfl,by first | exact xk rfl | exact xu rfl,by first | exact xk rfl | exact xu rfl,by first | exact xk rfl | exact xu rfl,trivial⟩ ⟨⟨_,rfl,rfl⟩,⟨_,rfl,rfl⟩,⟨_,rfl,rfl,rfl⟩,⟨_,rfl,rfl⟩,⟨_,rfl,rfl⟩,trivial⟩,hk⟩))))
end Mx
end Go.Proofs.YtkmbnldginonbaaGreat
/- What stands between the steps of the reduction to Hessenberg form; its sizes. -/
namespace Go.Proofs.YtkmbnldginonbaaGreat
open Go.RowKit
namespace Mx
set_option maxHeartbeats 4000000 in
theorem nz_ok {x:Rat} {L:Nat} (h:qlen x≤L) (hL:L+3≤LIM):FnOK Tryz.prog true 47 [.g (nq x)] (.c (.bool (decide (x≠0)))):=by
 have k:=qsign_ok (q:=ofR x) (ofR_fit h) hL
 rw[ofR_val]at k
 refine fn_ok (E:=E1) E1_ok Tryz.func47 rfl mixed (by kernel_rfl) (by kernel_rfl) ?_
 conv=>whnf
 refine⟨_,k,?_⟩
 conv=>whnf
 refine⟨rfl,Sub.bool ?_⟩
 show(!decide (x.num.sign=0))=decide (x≠0)
 by_cases e:x=0
 ·simp[e]
 ·have:¬ x.num.sign=0:=fun h=>e ((rat_sign_zero _).1 h)
  simp[e]
def KB (n L:Nat):Nat:=16^be n (n-1)*L
theorem be_mono (n:Nat) {a b:Nat} (h:a≤b):be n a≤be n b:=by
 induction b with
 | zero=>rw[Nat.le_zero.1 h];exact Nat.le_refl _
 | succ b ih =>
  rcases Nat.lt_or_ge a (b+1)with h1 | h1
  ·refine Nat.le_trans (ih (by omega)) ?_
   show be n b≤if b=0 then 0 else be n b+(n-1-b)
   split
   ·next e=>rw[e];exact Nat.le_refl 0
   ·omega
  ·rw[show a=b+1 by omega];exact Nat.le_refl _
theorem KB_le {n L e:Nat} (h:e≤be n (n-1)):16^e*L≤KB n L:=Nat.mul_le_mul_right L (Nat.pow_le_pow_right (by omega) h)
theorem KB_pos {n L:Nat} (h:1≤L):1≤KB n L:=Nat.mul_le_mul (Nat.pow_pos (by omega)) h
theorem hs_kb {n L:Nat} {A:Nat->Nat->Rat} (h:Bq n L A) (h1:1≤L) {m:Nat} (hm:m+1≤n):Bq n (KB n L) (hs n A m):=fun a b ha hb=>Nat.le_trans (hs_bq h h1 m hm a b ha hb) (KB_le (be_mono n (by omega)))
theorem el_kb {n L:Nat} {A:Nat->Nat->Rat} (h:Bq n L A) (h1:1≤L) {m:Nat} (h0:1≤m) (hm:m+1<n) (hp:pv n (hs n A m) m<n) {t:Nat} (ht:m+t<n):Bq n (KB n L) (el m (xch (sw (pv n (hs n A m) m) m) (hs n A m)) t):=fun a b ha hb=>by
 have h2:=hs_bq h h1 m (by omega)
 have h3:=xch_bq (s:=sw (pv n (hs n A m) m) m) h2 fun a ha=>sw_lt hp (by omega) ha
 have h4:1≤16^be n m*L:=Nat.mul_le_mul (Nat.pow_pos (by omega)) h1
 have h5:=el_bq (m:=m) h3 h4 t ht a b ha hb
 refine Nat.le_trans h5 ?_
 rw[← Nat.mul_assoc,← Nat.pow_add]
 refine KB_le ?_
 have h6:be n (m+1)≤be n (n-1):=be_mono n (by omega)
 have h7:be n (m+1)=be n m+(n-1-m):=if_neg (by omega)
 omega
theorem el_piv {n:Nat} {A:Nat->Nat->Rat} {m:Nat} (h0:1≤m) (hm:m+1<n) (hp:pv n A m<n) (t:Nat):el m (xch (sw (pv n A m) m) A) t m (m-1)≠0:=by
 obtain⟨p1,p2,p3,p4⟩:=pv_spec n A (show m≤n by omega)
 have e:∀(B:Nat->Nat->Rat) (i:Nat),i≠m->el1 m i B m (m-1)=B m (m-1):=fun B i hi=>by
  unfold el1
  split
  ·rfl
  ·show ca _ i m (ra _ i m B) m (m-1)=_
   unfold ca
   rw[if_neg (by omega)]
   unfold ra
   rw[if_neg fun e=>hi e.symm]
 have key:∀ t,el m (xch (sw (pv n A m) m) A) t m (m-1)=xch (sw (pv n A m) m) A m (m-1):=by
  intro t
  induction t with
  | zero=>rfl
  | succ t ih =>
   show el1 m (m+1+t) (el m _ t) m (m-1)=_
   rw[e _ _ (by omega),ih]
 rw[key t]
 show A (sw (pv n A m) m m) (sw (pv n A m) m (m-1))≠0
 have e1:sw (pv n A m) m m=pv n A m:=by
  unfold sw
  split
  ·omega
  ·rw[if_pos rfl]
 have e2:sw (pv n A m) m (m-1)=m-1:=by
  unfold sw
  rw[if_neg (by omega),if_neg (by omega)]
 rw[e1,e2]
 exact p4 hp
theorem stp_none {n m:Nat} {A:Nat->Nat->Rat} (h:pv n A m=n) (a b:Nat):stp n m A a b=A a b:=by
 unfold stp
 rw[if_pos h]
theorem stp_some {n m P:Nat} {A:Nat->Nat->Rat} (h:pv n A m=P) (hP:P<n) (a b:Nat):stp n m A a b=el m (xch (sw P m) A) (n-1-m) a b:=by
 unfold stp
 rw[if_neg (by omega),h]
theorem xch_self {m:Nat} (A:Nat->Nat->Rat) (a b:Nat):xch (sw m m) A a b=A a b:=by
 have e:∀ x,sw m m x=x:=fun x=>by
  unfold sw
  by_cases h:x=m
  ·rw[if_pos h,h]
  ·rw[if_neg h,if_neg h]
 show A (sw m m a) (sw m m b)=_
 rw[e,e]
theorem el1_zero {m i:Nat} {A:Nat->Nat->Rat} (h:A i (m-1)=0) (a b:Nat):el1 m i A a b=A a b:=by
 unfold el1
 rw[if_pos h]
theorem el1_some {m i:Nat} {A:Nat->Nat->Rat} {u:Rat} (h:¬ A i (m-1)=0) (hu:A i (m-1) / A m (m-1)=u) (a b:Nat):el1 m i A a b=ca u i m (ra u i m A) a b:=by
 unfold el1
 rw[if_neg h,hu]
def md1 (u:Rat) (i m:Nat) (A:Nat->Nat->Rat) (j a x:Nat):Rat:=if a=i/\x<j then A a x-u*A m x else A a x
theorem md1_zero (u:Rat) (i m:Nat) (A:Nat->Nat->Rat) (a x:Nat):md1 u i m A 0 a x=A a x:=if_neg (by omega)
theorem md1_all (u:Rat) (i m:Nat) (A:Nat->Nat->Rat) {n x:Nat} (hx:x<n) (a:Nat):ra u i m A a x=md1 u i m A n a x:=by
 unfold ra md1
 by_cases h:a=i
 ·rw[if_pos h,if_pos ⟨h,hx⟩]
 ·rw[if_neg h,if_neg fun e=>h e.1]
theorem md1_old (u:Rat) (i m:Nat) (A:Nat->Nat->Rat) (j:Nat):md1 u i m A j i j=A i j:=if_neg (by omega)
theorem md1_m (u:Rat) {i m:Nat} (h:m≠i) (A:Nat->Nat->Rat) (j x:Nat):md1 u i m A j m x=A m x:=if_neg fun e=>h e.1
theorem md1_step (u:Rat) (i m:Nat) (A:Nat->Nat->Rat) (j x:Nat):(if x=j then A i j-u*A m j else md1 u i m A j i x)=md1 u i m A (j+1) i x:=by
 unfold md1
 by_cases h:x=j
 ·rw[if_pos h,if_pos ⟨rfl,by omega⟩,h]
 ·rw[if_neg h]
  by_cases h2:x<j
  ·rw[if_pos ⟨rfl,h2⟩,if_pos ⟨rfl,by omega⟩]
  ·rw[if_neg fun e=>h2 e.2,if_neg fun e=>h (by omega)]
theorem md1_keep (u:Rat) {i m a:Nat} (h:a≠i) (A:Nat->Nat->Rat) (j x:Nat):md1 u i m A (j+1) a x=md1 u i m A j a x:=by
 unfold md1
 rw[if_neg fun e=>h e.1,if_neg fun e=>h e.1]
def md2 (u:Rat) (i m:Nat) (B:Nat->Nat->Rat) (j a x:Nat):Rat:=if a<j then ca u i m B a x else B a x
theorem md2_zero (u:Rat) (i m:Nat) (B:Nat->Nat->Rat) (a x:Nat):md2 u i m B 0 a x=B a x:=if_neg (by omega)
theorem md2_all (u:Rat) (i m:Nat) (B:Nat->Nat->Rat) {n a:Nat} (ha:a<n) (x:Nat):ca u i m B a x=md2 u i m B n a x:=(if_pos ha).symm
theorem md2_old (u:Rat) (i m:Nat) (B:Nat->Nat->Rat) (j x:Nat):md2 u i m B j j x=B j x:=if_neg (by omega)
theorem md2_step (u:Rat) (i m:Nat) (B:Nat->Nat->Rat) (j x:Nat):(if x=m then B j m+u*B j i else md2 u i m B j j x)=md2 u i m B (j+1) j x:=by
 rw[md2_old]
 have e:md2 u i m B (j+1) j x=ca u i m B j x:=if_pos (by omega)
 rw[e]
 unfold ca
 by_cases h:x=m
 ·rw[if_pos h,if_pos h,h]
 ·rw[if_neg h,if_neg h]
theorem md2_keep (u:Rat) {i m j a:Nat} (h:a≠j) (B:Nat->Nat->Rat) (x:Nat):md2 u i m B (j+1) a x=md2 u i m B j a x:=by
 unfold md2
 by_cases h1:a<j
 ·rw[if_pos h1,if_pos (by omega)]
 ·rw[if_neg h1,if_neg (by omega)]
theorem hs_succ (n:Nat) (M:Nat->Nat->Rat) {m:Nat} (h:1≤m):hs n M (m+1)=stp n m (hs n M m):=if_neg (by omega)
theorem mk1 {q k n i m t b:Nat} {u:Rat} {bl:List Blk} {ks:List (Option Nat)} {A:Nat->Nat->Rat} (h:bl[k]? = some ⟨38,4,n,0,0,qlF fun x=>ofR (md1 u i m A t b x)⟩) (hb:b≠i:=by exact of_decide_eq_true rfl):srcG q bl ks (gq n (md1 u i m A (t+1) b)) (some k):=rk h fun x _=>md1_keep u hb A t x
theorem mu1 {q k n i m t:Nat} {u:Rat} {bl:List Blk} {ks:List (Option Nat)} {A:Nat->Nat->Rat} (h:bl[k]? = some ⟨38,4,n,0,0,updF (qlF fun x=>ofR (md1 u i m A t i x)) t 0 (nq (A i t-u*A m t))⟩):srcG q bl ks (gq n (md1 u i m A (t+1) i)) (some k):=ru h fun x=>md1_step u i m A t x
theorem mk2 {q k n i m t b:Nat} {u:Rat} {bl:List Blk} {ks:List (Option Nat)} {A:Nat->Nat->Rat} (h:bl[k]? = some ⟨38,4,n,0,0,qlF fun x=>ofR (md2 u i m A t b x)⟩) (hb:b≠t:=by exact of_decide_eq_true rfl):srcG q bl ks (gq n (md2 u i m A (t+1) b)) (some k):=rk h fun x _=>md2_keep u hb A x
theorem mu2 {q k n i m t:Nat} {u:Rat} {bl:List Blk} {ks:List (Option Nat)} {A:Nat->Nat->Rat} (h:bl[k]? = some ⟨38,4,n,0,0,updF (qlF fun x=>ofR (md2 u i m A t t x)) m 0 (nq (A t m+u*A t i))⟩):srcG q bl ks (gq n (md2 u i m A (t+1) t)) (some k):=ru h fun x=>md2_step u i m A t x
theorem ra_kb {n K:Nat} {A:Nat->Nat->Rat} {u:Rat} {i m:Nat} (h:Bq n K A) (hu:qlen u≤2*K) (hm:m<n) (h1:1≤K):Bq n (5*K) (ra u i m A):=fun a b ha hb=>Nat.le_trans (ra_bq (i:=i) h hu hm h1 a b ha hb) (by omega)
/-! Places that a call below does not see. -/
theorem lt_asg {m:Nat} {tl:List (Nat × V)} (h:allP tl fun p=>p.2.lt m=true) (t:Nat):(asg tl t).lt m=true:=by
 rcases asg_mem tl t with e | e
 ·rw[e];rfl
 ·exact allP_mem h _ e
theorem lt_put {m:Nat} {σ:St} {d:Option Nat} {v:V} (h:∀ t,(σ.tm t).lt m=true) (hv:v.lt m=true) (t:Nat):((σ.put d v).tm t).lt m=true:=by
 cases d with
 | none=>exact h t
 | some d =>
  show(if t=d then v else σ.tm t).lt m=true
  split
  ·exact hv
  ·exact h t
theorem live_all {xs:List Gx}:∀ B∈xs.map gb,B.st=0∨2≤B.st:=fun B hB=>by
 obtain⟨x,_,rfl⟩:=List.mem_map.1 hB
 exact .inl rfl
end Mx
end Go.Proofs.YtkmbnldginonbaaGreat
/- qpoly.Scale; charpoly.one and charpoly.shift. -/
set_option maxHeartbeats 4000000
namespace Go.Proofs.YtkmbnldginonbaaGreat
open Go.RowKit
namespace Rf
theorem qscale1_ok {q x:RawR} {L L':Nat} (hq:q.Fit L) (hx:x.Fit L') (hL:L+L'+3≤LIM):FnOK Tryz.prog true 95 [.g (rr q),.g zcells,.c (.xp 4 fun j=>boxF (rr x) 0 (0+j))] (.g (nq (q.val*x.val))):=by
 have h:=qmul_ok hq hx hL
 refine fn_ok (E:=E1) E1_ok Tryz.func95 rfl mixed (by kernel_rfl) (by kernel_rfl) ?_
 conv=>whnf
 refine⟨_,h,?_⟩
 conv=>whnf
 exact⟨rfl,Sub.refl _⟩
theorem qpScale_ok {n:Nat} {q:Nat->RawR} {x:RawR} {z:Nat->Rat} {L L':Nat} (hn:n≤1048576) (hq:∀ a,a<n->(q a).Fit L) (hx:x.Fit L') (hL:L+L'+3≤LIM) (hz:∀ a,a<n->(q a).val*x.val=z a):FnOK Tryz.prog true 44 [.c (ql n q),.g (rr x)] (.c (nql (Q.tq z n) z)):=by
 have h0:=merge_scale (q:=q) (z:=z) (u:=fun j=>boxF (rr x) 0 (0+j)) hn fun a ha=>by
  rw[← hz a ha]
  exact qscale1_ok (hq a ha) hx hL
 have h:=fun(g:Nat->Cell) (hg:g 0 = .xp 4 fun j=>boxF (rr x) 0 (0+j))=>cap_weak (g:=g) h0 hg
 clear hq hz hx
 refine fn_ok (E:=E1) E1_ok Tryz.func44 rfl mixed (by kernel_rfl) (by kernel_rfl) ?_
 conv=>whnf
 refine⟨fun i j hi hj=>box_clos (l:=rr x) (i:=i) (j:=j) rfl,?_⟩
 conv=>whnf
 refine⟨_,h _ rfl,?_⟩
 conv=>whnf
 exact⟨rfl,Sub.refl _⟩
end Rf
namespace Mx
open Rf
theorem row1_clos {x:Rat} {i j:Nat} (hi:i<1) (hj:j<4):(rowF 4 (nq x) i j).clos=true:=by
 obtain rfl:i=0:=by omega
 match j,hj with
 | 0,_=>rfl
 | 1,_=>rfl
 | 2,_=>rfl
 | 3,_=>rfl
theorem row1_eq {x:Rat} {v:Nat->Rat} {i j:Nat} (hi:i<1) (h:v 0=x):rowF 4 (nq x) i j=qlF (fun j=>ofR (v j)) i j:=by
 obtain rfl:i=0:=by omega
 unfold rowF
 rw[Nat.zero_mul,Nat.zero_add,← h]
theorem xs_app (v:Nat->Rat) (i j:Nat):appF 1 (rowF 4 (nq 0)) (qlF fun j=>ofR (v j)) i j=qlF (fun j=>ofR (if 1≤j then v (j-1)else 0)) i j:=by
 unfold appF
 by_cases h:i<1
 ·rw[if_pos h]
  exact row1_eq h (if_neg (by omega))
 ·rw[if_neg h]
  show(rr (ofR (v (i-1)))).getD j .any=(rr (ofR (if 1≤i then v (i-1)else 0))).getD j .any
  rw[if_pos (by omega)]
theorem q1_ok:FnOK Tryz.prog true 45 [.c (.int .i64 1)] (.g (nq 1)):=by
 have:=qof_ok (n:=1) (by omega) (by omega)
 exact this
theorem one_ok:FnOK Tryz.prog true 41 [] (.c (nql 1 fun _=>1)):=by
 have k:=q1_ok
 refine fn_ok (E:=E1) E1_ok Tryz.func41 rfl mixed (by kernel_rfl) (by kernel_rfl) ?_
 conv=>whnf
 refine⟨_,k,?_⟩
 conv=>whnf
 refine⟨fun i j hi hj=>row1_clos (x:=1) hi hj,?_⟩
 conv=>whnf
 exact⟨rfl,subRowG rfl fun i j hi _=>row1_eq hi rfl⟩
def xs (v:Nat->Rat) (j:Nat):Rat:=if 1≤j then v (j-1)else 0
theorem shift_ok {n:Nat} {v:Nat->Rat} {L:Nat} (hn:n≤1000) (h:∀ i,i<n->qlen (v i)≤L) (h1:1≤L) (hL:L+3≤LIM):FnOK Tryz.prog true 43 [.c (nql n v)] (.c (nql (Q.tq (xs v) (n+1)) (xs v))):=by
 have k0:FnOK Tryz.prog true 45 [.c (.int .i64 0)] (.g (nq 0)):=qof0
 have k:=Rf.arg_ok (qnorm_ok (n:=n+1) (q:=fun i=>ofR (xs v i)) (L:=L) (v:=xs v) (funext fun i=>ofR_val _) (by omega) (fun i hi=>ofR_fit (by
  unfold xs
  split
  ·exact h _ (by omega)
  ·exact Nat.le_trans q_zero h1)) hL) (args':=[.c (.row 4 (1+n) (appF 1 (rowF 4 (nq 0)) (qlF fun j=>ofR (v j))))]) fun D w vs h=>by
   match vs,h with
   | [v1],⟨h1,_⟩=>exact⟨subRowG (by omega) (fun a b _ _=>xs_app v a b) D w v1 h1,trivial⟩
 refine fn_ok (E:=E1) E1_ok Tryz.func43 rfl mixed (by kernel_rfl) (by kernel_rfl) ?_
 conv=>whnf
 refine⟨_,k0,?_⟩
 conv=>whnf
 refine⟨by show 1+n≤16777216;omega,fun a b _ hb=>one_ql (c:=fun i=>ofR (v i)) true a b hb,?_⟩
 conv=>whnf
 refine .inr ⟨fun a b ha hb=>?_,?_⟩
 ·exact(congrArg Cell.clos (xs_app v a b)).trans (q_clos _ a b)
 conv=>whnf
 refine⟨_,k,?_⟩
 conv=>whnf
 exact⟨rfl,Sub.refl _⟩
theorem scale_step {m:Nat} {F:Nat->Rat} {w:Rat} {L L':Nat} (hm:m≤1000) (hF:∀ i,i<m->qlen (F i)≤L) (hw:qlen w≤L') (hL:L+L'+3≤LIM):FnOK Tryz.prog true 44 [.c (nql m F),.g (nq w)] (.c (nql (Q.tq (fun i=>F i*w) m) fun i=>F i*w)) :=
 qpScale_ok (x:=ofR w) (z:=fun i=>F i*w) (by omega) (fun i hi=>ofR_fit (hF i hi)) (ofR_fit hw) hL fun i _=>by rw[ofR_val,ofR_val]
theorem sub_step {m N:Nat} {F Z v:Nat->Rat} {L:Nat} (hm:m≤N) (hN:1≤N) (hN2:N≤1000) (hF:∀ i,i<N->qlen (F i)≤L) (hZ:∀ i,i<m->qlen (Z i)≤L) (h1:1≤L) (hL:L+L+4≤LIM) (h0:∀ i,m≤i->Z i=0) (hv:∀ i,i<N->F i-Z i=v i) (ht:v (N-1)≠0):FnOK Tryz.prog true 42 [.c (nql N F),.c (nql (Q.tq Z m) Z)] (.c (nql N v)):=by
 have hT:=Q.tq_le Z m
 have h:=qpSub_ok (n:=N) (m:=Q.tq Z m) (q:=fun i=>ofR (F i)) (p:=fun i=>ofR (Z i)) (L:=L) (v:=v) (fun i hi=>by
  have e1:Q.qx N (fun i=>(ofR (F i)).val) i=F i:=by rw[Q.qx_lt (by omega),ofR_val]
  have e2:Q.qx (Q.tq Z m) (fun i=>(ofR (Z i)).val) i=Z i:=by
   unfold Q.qx
   split
   ·exact ofR_val _
   ·next hlt =>
    rcases Nat.lt_or_ge i m with h3 | h3
    ·exact(Q.tq_behind (Nat.le_of_not_lt hlt) h3).symm
    ·exact(h0 i h3).symm
  rw[e1,e2]
  exact hv i (by omega)) (by omega) (by omega) (fun i hi=>ofR_fit (hF i hi)) (fun i hi=>ofR_fit (hZ i (by omega))) h1 hL
 rw[show max N (Q.tq Z m)=N by omega,Q.tq_self (v:=v) (n:=N) (fun k hk=>by rw[show k=N-1 by omega];exact ht)]at h
 exact h
theorem shift_step {n:Nat} {v:Nat->Rat} {L:Nat} (hn:n≤999) (h:∀ i,i<n+1->qlen (v i)≤L) (h1:1≤L) (hL:L+3≤LIM) (ht:v n≠0):FnOK Tryz.prog true 43 [.c (nql (n+1) v)] (.c (nql (n+2) (xs v))):=by
 have k:=shift_ok (n:=n+1) (by omega) h h1 hL
 rwa [Q.tq_self (v:=xs v) (n:=n+1+1) (fun k hk=>by
  obtain rfl:k=n+1:=by omega
  show(if 1≤n+1 then v (n+1-1)else 0)≠0
  rw[if_pos (by omega),Nat.add_sub_cancel]
  exact ht)]at k
end Mx
end Go.Proofs.YtkmbnldginonbaaGreat
/- charpoly.CharPoly over contracts of its grid and of hessenberg. -/
namespace Go.Proofs.YtkmbnldginonbaaGreat
open Go.RowKit
namespace Mx
open Rf
abbrev gR (n:Nat) (H:Nat->Nat->Rat):Gx:=⟨22,1,n,fun i _=>nql n (H i)⟩
abbrev gL (k:Nat) (P:Nat->Nat->Rat):Gx:=⟨27,1,k,fun i _=>nql (i+1) (P i)⟩
theorem poly_keep {q:Nat} {bl:List Blk} {ks:List (Option Nat)} {P:Nat->Nat->Rat} {i:Nat}:regC q bl ks (nql (i+1) (P i)) fun y=>nql (i+1) (P i)=y := .inl ⟨_,_,rfl,rfl,fun _ _ _ _=>rfl⟩
theorem poly_app {q:Nat} {bl:List Blk} {ks:List (Option Nat)} {P:Nat->Nat->Rat} {k i j:Nat} {v:Nat->Rat} (hv:∀ x,x<k+1->v x=P k x) (hi:i<k+1) (hj:j<1):regC q bl ks (nql (i+1) (P i)) fun y=>appF k (fun i _=>nql (i+1) (P i)) (rowF 1 [nql (k+1) v]) i j=y:=by
 obtain rfl:j=0:=by omega
 unfold appF
 by_cases h:i<k
 ·rw[if_pos h]
  exact .inl ⟨_,_,rfl,rfl,fun _ _ _ _=>rfl⟩
 ·rw[if_neg h]
  obtain rfl:i=k:=by omega
  rw[Nat.sub_self]
  exact .inl ⟨_,_,rfl,rfl,fun x y hx _=>congrArg (fun z=>(rr (ofR z)).getD y .any) (hv x hx)⟩
theorem poly_first {q:Nat} {bl:List Blk} {ks:List (Option Nat)} {P:Nat->Nat->Rat} (hp:∀ x,x<1->(1:Rat)=P 0 x):regC q bl ks (nql (0+1) (P 0)) fun y=>rowF 1 [nql 1 fun _=>1] 0 0=y := .inl ⟨_,_,rfl,rfl,fun x y hx _=>congrArg (fun z=>(rr (ofR z)).getD y .any) (hp x hx)⟩
theorem one_poly {bl:List Blk} {r:Prop} {k:Nat} {v:Nat->Rat} {x y:Nat} (hx:x<1) (hy:y<1):St.one bl (rowF 1 [nql k v] x y)=true/\(r->(rowF 1 [nql k v] x y).noU=true):=by
 obtain rfl:x=0:=by omega
 obtain rfl:y=0:=by omega
 exact⟨rfl,fun _=>rfl⟩
theorem box_eq {q k t u:Nat} {bl:List Blk} {ks:List (Option Nat)} {x y:Rat} (e:x=y) (h:bl[k]? = some ⟨t,4,1,u,0,boxF (nq x)⟩:=by rfl):srcG q bl ks ⟨t,4,1,boxF (nq y)⟩ (some k):=by
 subst e
 exact Rf.boxK h rfl
theorem reg_nql {q:Nat} {bl:List Blk} {ks:List (Option Nat)} {n:Nat} {v w:Nat->Rat} (h:∀ i,i<n->w i=v i):regV q bl ks (.c (nql n w)) (.c (nql n v)) := .inl ⟨_,_,rfl,rfl,fun i j hi _=>congrArg (fun x=>(rr (ofR x)).getD j .any) (h i hi)⟩

structure Ch (n : Nat) (H W D P : Nat → Nat → Rat) (N : Nat → Nat → Nat → Rat) (K Bd : Nat) : Prop where
 hH:Bq n K H
 hW:∀ i k,i≤k->k<n->qlen (W i k)≤7*K
 hD:∀ i k,i≤k->k<n->qlen (D i k)≤6*K
 hN:∀ k,k<n->∀ i,i≤k->∀ j,qlen (N k i j)≤Bd
 hP:∀ k,k≤n->∀ j,qlen (P k j)≤Bd
 pz:∀ k j,k<j->P k j=0
 pt:∀ k,P k k=1
 nt:∀ k i,N k i (k+1)=1
 wd:∀ i k,W i k=D i k*H i k
 dl:∀ i k,i<k->D i k=D (i+1) k*H (i+1) i
 ds:∀ k,D k k=1
 br:∀ i k j,D i k=0->i≤k->N k (i+1) j=P (k+1) j
 nf:∀ k j,xs (P k) j-P k j*W k k=N k k j
 nn:∀ k i j,i<k->N k (i+1) j-P i j*W i k=N k i j
 nl:∀ k j,N k 0 j=P (k+1) j
theorem ch_of {n K:Nat} {H:Nat->Nat->Rat} (hn:n≤6) (hK:1≤K) (hH:Bq n K H):Ch n H (wd H) (dd H) (fun k=>(hp (wd H) k).f) (nx (wd H)) K (PB K n):=by
 have h3:∀ k,k≤n->PB K k≤PB K n:=fun k hk=>Nat.mul_le_mul_right _ (Nat.mul_le_mul_left 8 (Nat.pow_le_pow_right (by omega) hk))
 have hPb:=hp_bq hH hn hK
 refine⟨hH,fun i k hi hk=>wd_bq hH hn hK hi hk,fun i k hi hk=>dd_b5 hH hn hK hi hk,fun k hk i hi j=>?_,fun k hk j=>Nat.le_trans (hPb k hk j) (h3 k hk),fun k j h=>(hp_deg (wd H) k).1 j h,fun k=>(hp_deg (wd H) k).2,fun k i=>(nx_deg (wd H)).2,fun _ _=>rfl,fun i k h=>dd_left H h,dd_self H,fun i k j h hi=>nx_break _ (wd_zero H h hi) hi j,fun k j=>?_,fun k i j h=>?_,fun k j=>nx_last _ k j⟩
 ·have h:=nx_bq hH hn hK hk (fun a ha=>hPb a (by omega)) (k-i) (by omega) j
  rw[show k-(k-i)=i by omega]at h
  refine Nat.le_trans h (Nat.le_trans ?_ (h3 (k+1) (by omega)))
  unfold PB
  rw[show 8*3^(k+1)=24*3^k by rw[Nat.pow_succ];omega]
  exact Nat.mul_le_mul_right _ (ck_le (by omega) hi)
 ·rw[nx_first,Rat.mul_comm]
  rfl
 ·rw[nx_next _ h,Rat.mul_comm]
abbrev RR (n:Nat) (A:Nat->Nat->Rat):List Gx:=gG n idn :: (List.range n).map fun x=>gq n (A x)
theorem rr_get {n x:Nat} {A:Nat->Nat->Rat} (hx:x<n):((RR n A).map gb)[x+1]? = some (gb (gq n (A x))):=by
 simp[RR,hx]
theorem rr_cells {n x y:Nat} {A:Nat->Nat->Rat} (hx:x<n) (_:y<1):regC 0 ((RR n A).map gb) [some 0] (nql n (A x)) fun z=>(gG n idn).f x y=z := .inr (.inr ⟨x+1,_,rr_get hx,rfl,rfl,rfl,Nat.zero_le 1,rfl,rfl,fun i j _ _=>⟨rfl,q_clos _ i j⟩⟩)
set_option maxHeartbeats 64000000 in
set_option maxRecDepth 100000 in
theorem charpoly_w {n:Nat} {p:Nat->RawR} {A H W D P:Nat->Nat->Rat} {N:Nat->Nat->Nat->Rat} {K Bd:Nat} (hn:n≤6) (hg:FnT Tryz.prog true 39 0 [] [.g [.int .i64 n,.int .i64 n,ql (n*n) p]] (.c (.gs 0 0)) ((RR n A).map gb)) (hh:FnT Tryz.prog true 40 1 ((RR n A).map gb) [.c (.gs 0 0)] (.c .any) ((RR n H).map gb)) (hK:1≤K) (hBd:8*K≤Bd) (hL:4*Bd+64≤LIM) (ch:Ch n H W D P N K Bd):FnOK Tryz.prog true 10 [.g (rmat n n p)] (.t2 (.c (nql (n+1) (P n))) (.c (.int .i64 0))):=by
 have k0:FnOK Tryz.prog true 38 [.g (rmat n n p)] (.c (.int .i64 0)):=by
  have h:=check_ok (r:=n) (c:=n) (len:=n*n) (f:=qlF p)
  rwa [show firstErr (n:Int) n ((n*n:Nat):Int)=0 by
   unfold firstErr
   rw[if_pos ⟨⟨⟨by omega,by omega⟩,⟨by omega,by omega⟩,by rw[Int.natCast_mul]⟩,rfl⟩,if_neg (by omega)]]at h
 have k1:=q1_ok
 have k2:=one_ok
 refine fn_okS (E:=E1) E1_ok Tryz.func10 rfl (by kernel_rfl) ?_
 refine swp_seq E1_ok mixed (by kernel_rfl) ?_
 conv=>whnf
 refine⟨gst [(1,.c (.p 0 0 3 0 0))] [⟨24,3,1,boxF (rmat n n p)⟩],Weak.gen [some 0] rfl ⟨Rf.boxK rfl rfl,trivial⟩ ⟨⟨_,rfl,rfl,rfl⟩,trivial⟩,?_⟩
 refine swp_seq E1_ok mixed (by kernel_rfl) ?_
 conv=>whnf
 refine⟨_,k0,?_⟩
 conv=>whnf
 refine⟨gst [(1,.c (.p 0 0 3 0 0))] [⟨24,3,1,boxF (rmat n n p)⟩],Weak.gen [some 0] rfl ⟨Rf.boxK rfl rfl,trivial⟩ ⟨⟨_,rfl,rfl,rfl⟩,trivial⟩,?_⟩
 refine swp_mid2 (fun _:Unit=>gst [(5,.c (.gs 0 0))] [gR n H]) (fun _=>True) ?_ fun _ _=>?_
 ·clear ch k1 k2
  refine swp_goT E1_ok (pre:=[_]) (post:=[_]) rfl rfl (by kernel_rfl) ?_
  conv=>whnf
  refine⟨0,_,by decide,OpGoT.weak (σ1:=gst [(16,.g [.int .i64 n,.int .i64 n,ql (n*n) p])] []) (Weak.gen [] rfl trivial ⟨.inl ⟨rfl,rfl⟩,trivial⟩) (OpGoT.call0 (f:=39) (cs:=[]) rfl rfl (fun B hB=>absurd hB List.not_mem_nil) hg (lt_asg (tl:=[(16,.g [.int .i64 n,.int .i64 n,ql (n*n) p])]) ⟨rfl,trivial⟩)),?_⟩
  conv=>whnf
  refine swp_goT E1_ok (pre:=[_]) (post:=[]) rfl rfl (by kernel_rfl) ?_
  conv=>whnf
  refine⟨1,_,by decide,OpGoT.call0 (f:=40) (cs:=[]) rfl rfl live_all hh (lt_put (lt_put (lt_put (lt_asg (tl:=[(16,.g [.int .i64 n,.int .i64 n,ql (n*n) p])]) ⟨rfl,trivial⟩) rfl) rfl) rfl),?_⟩
  conv=>whnf
  exact⟨(),trivial,Weak.gen [some 0] rfl ⟨⟨_,rfl,rfl,rfl,rfl,rfl,fun x y hx hy=>rr_cells hx hy⟩,trivial⟩ ⟨⟨_,rfl,rfl,rfl⟩,trivial⟩⟩
 clear hg hh k0
 have hww:∀ k,W k k=H k k:=fun k=>by rw[ch.wd,ch.ds,Rat.one_mul]
 have hsc:=fun k (hk:k<n)=>scale_step (m:=k+1) (F:=P k) (w:=H k k) (L:=Bd) (L':=K) (by omega) (fun i _=>ch.hP k (by omega) i) (ch.hH k k hk hk) (by omega)
 have hsh:=fun k (hk:k<n)=>shift_step (n:=k) (v:=P k) (L:=Bd) (by omega) (fun i _=>ch.hP k (by omega) i) (by omega) (by omega) (by rw[ch.pt];decide)
 have hs0:=fun k (hk:k<n)=>sub_step (m:=k+1) (N:=k+2) (F:=xs (P k)) (Z:=fun i=>P k i*H k k) (v:=N k k) (L:=2*Bd) (by omega) (by omega) (by omega) (fun i _=>by
  unfold xs
  split
  ·exact Nat.le_trans (ch.hP k (by omega) _) (by omega)
  ·exact Nat.le_trans q_zero (by omega)) (fun i _=>Nat.le_trans (q_mul (ch.hP k (by omega) i) (ch.hH k k hk hk) (by omega)) (by omega)) (by omega) (by omega) (fun i hi=>by rw[ch.pz k i (by omega),Rat.zero_mul]) (fun i _=>by rw[← ch.nf,hww]) (by show N k k (k+1)≠0;rw[ch.nt];decide)
 have hc2:=fun k i (hk:k<n) (hi:i<k)=>scale_step (m:=i+1) (F:=P i) (w:=W i k) (L:=Bd) (L':=7*K) (by omega) (fun j _=>ch.hP i (by omega) j) (ch.hW i k (by omega) hk) (by omega)
 have hs2:=fun k i (hk:k<n) (hi:i<k)=>sub_step (m:=i+1) (N:=k+2) (F:=N k (i+1)) (Z:=fun j=>P i j*W i k) (v:=N k i) (L:=2*Bd) (by omega) (by omega) (by omega) (fun j _=>Nat.le_trans (ch.hN k hk (i+1) (by omega) j) (by omega)) (fun j _=>Nat.le_trans (q_mul (ch.hP i (by omega) j) (ch.hW i k (by omega) hk) (by omega)) (by omega)) (by omega) (by omega) (fun j hj=>by rw[ch.pz i j (by omega),Rat.zero_mul]) (fun j _=>ch.nn k i j hi) (by show N k i (k+1)≠0;rw[ch.nt];decide)
 have hm1:=fun k i (hk:k<n) (hi:i<k)=>qmul_n (x:=D (i+1) k) (y:=H (i+1) i) (z:=D i k) (ch.hD (i+1) k (by omega) hk) (ch.hH (i+1) i (by omega) (by omega)) (by omega) (ch.dl i k hi).symm
 have hm2:=fun k i (hk:k<n) (hi:i<k)=>qmul_n (x:=D i k) (y:=H i k) (z:=W i k) (ch.hD i k (by omega) hk) (ch.hH i k (by omega) (by omega)) (by omega) (ch.wd i k).symm
 have hnz:=fun k i (hk:k<n) (hi:i<k)=>nz_ok (x:=D i k) (ch.hD i k (by omega) hk) (by omega)
 have hp0:∀ x,x<1->(1:Rat)=P 0 x:=fun x hx=>by
  obtain rfl:x=0:=by omega
  exact(ch.pt 0).symm
 have hbr:=ch.br
 have hnl:=ch.nl
 have hds:=ch.ds
 clear ch hww hL hBd
 refine swp_seq E1_ok mixed (by kernel_rfl) ?_
 conv=>whnf
 refine⟨_,k2,?_⟩
 conv=>whnf
 refine⟨gst [(5,.c (.gs 0 0)),(6,.c (.gs 1 0))] [gR n H,gL (1) P],Weak.gen [some 0,some 1] rfl ⟨⟨_,rfl,rfl,rfl,rfl,rfl,fun x y hx hy => .inl ⟨_,_,rfl,rfl,fun _ _ _ _=>rfl⟩⟩,⟨_,rfl,rfl,rfl,rfl,rfl,cells1 (poly_first hp0)⟩,trivial⟩ ⟨⟨_,rfl,rfl,rfl⟩,⟨_,rfl,rfl,rfl⟩,trivial⟩,?_⟩
 refine swp_mid (fun _:Unit=>gst [(5,.c (.gs 0 0)),(6,.c (.gs 1 0))] [gR n H,gL (n+1) P]) (fun _=>True) ?_ fun _ _=>?_
 rotate_left
 ·refine swp_of E1_ok mixed (by kernel_rfl) ?_
  conv=>whnf
  refine⟨by omega,by show(n:Int)<((n+1:Nat):Int);omega,?_⟩
  conv=>whnf
  exact⟨rfl,Sub.refl _⟩
 refine swp_seq E1_ok mixed (by kernel_rfl) ?_
 conv=>whnf
 refine⟨(fun k:Nat=>gst [(5,.c (.gs 0 0)),(6,.c (.gs 1 0)),(22,.c (.gs 0 0)),(23,.c (.int .i64 ((n:Nat):Int))),(24,.c (.int .i64 ((k:Nat):Int)))] [gR n H,gL (k+1) P]) 0,Weak.gen [some 0,some 1] rfl ⟨⟨_,rfl,rfl,rfl,rfl,rfl,fun x y hx hy => .inl ⟨_,_,rfl,rfl,fun _ _ _ _=>rfl⟩⟩,⟨_,rfl,rfl,rfl,rfl,rfl,fun x y hx hy=>poly_keep⟩,trivial⟩ ⟨⟨_,rfl,rfl,rfl⟩,⟨_,rfl,rfl,rfl⟩,⟨_,rfl,rfl,rfl⟩,⟨_,rfl,rfl⟩,⟨_,rfl,rfl⟩,trivial⟩,?_⟩
 refine swp_block (swp_loop (fun k:Nat=>gst [(5,.c (.gs 0 0)),(6,.c (.gs 1 0)),(22,.c (.gs 0 0)),(23,.c (.int .i64 ((n:Nat):Int))),(24,.c (.int .i64 ((k:Nat):Int)))] [gR n H,gL (k+1) P]) (fun k=>n-k) (fun k=>k≤n) 0 (Weak.refl _) (Nat.zero_le _) fun k hk=>?_)
 have hsc:=hsc k
 have hsh:=hsh k
 have hs0:=hs0 k
 have hc2:=hc2 k
 have hs2:=hs2 k
 have hm1:=hm1 k
 have hm2:=hm2 k
 have hnz:=hnz k
 refine swp_seq0 E1_ok mixed (by kernel_rfl) ?_
 conv=>whnf
 refine swp_seq E1_ok mixed (by kernel_rfl) ?_
 conv=>whnf
 refine bcase (fun(h:decide ((k:Int)<(n:Int))=true)=>?_) fun(h:decide ((k:Int)<(n:Int))=false)=>?_
 rotate_left
 ·have h:=of_decide_eq_false h
  obtain rfl:k=n:=by omega
  conv=>whnf
  exact⟨(),trivial,Weak.gen [some 0,some 1] rfl ⟨⟨_,rfl,rfl,rfl,rfl,rfl,fun x y hx hy => .inl ⟨_,_,rfl,rfl,fun _ _ _ _=>rfl⟩⟩,⟨_,rfl,rfl,rfl,rfl,rfl,fun x y hx hy=>poly_keep⟩,trivial⟩ ⟨⟨_,rfl,rfl,rfl⟩,⟨_,rfl,rfl,rfl⟩,trivial⟩⟩
 have h:=of_decide_eq_true h
 have hk:k<n:=by omega
 have hsc:=hsc hk
 have hsh:=hsh hk
 have hs0:=hs0 hk
 conv=>whnf
 refine⟨gst [(5,.c (.gs 0 0)),(6,.c (.gs 1 0)),(22,.c (.gs 0 0)),(23,.c (.int .i64 ((n:Nat):Int))),(24,.c (.int .i64 ((k:Nat):Int)))] [gR n H,gL (k+1) P],Weak.gen [some 0,some 1] rfl ⟨⟨_,rfl,rfl,rfl,rfl,rfl,fun x y hx hy => .inl ⟨_,_,rfl,rfl,fun _ _ _ _=>rfl⟩⟩,⟨_,rfl,rfl,rfl,rfl,rfl,fun x y hx hy=>poly_keep⟩,trivial⟩ ⟨⟨_,rfl,rfl,rfl⟩,⟨_,rfl,rfl,rfl⟩,⟨_,rfl,rfl,rfl⟩,⟨_,rfl,rfl⟩,⟨_,rfl,rfl⟩,trivial⟩,?_⟩
 refine swp_mid (fun _:Unit=>gst [(5,.c (.gs 0 0)),(6,.c (.gs 1 0)),(22,.c (.gs 0 0)),(23,.c (.int .i64 ((n:Nat):Int))),(24,.c (.int .i64 ((k:Nat):Int)))] [gR n H,gL (k+2) P]) (fun _=>True) ?_ fun _ _=>?_
 rotate_left
 ·refine swp_of E1_ok mixed (by kernel_rfl) ?_
  conv=>whnf
  refine⟨i64_range (by omega) (by omega),?_⟩
  conv=>whnf
  exact⟨k+1,by omega,Weak.gen [some 0,some 1] rfl ⟨⟨_,rfl,rfl,rfl,rfl,rfl,fun x y hx hy => .inl ⟨_,_,rfl,rfl,fun _ _ _ _=>rfl⟩⟩,⟨_,rfl,rfl,rfl,rfl,rfl,fun x y hx hy=>poly_keep⟩,trivial⟩ ⟨⟨_,rfl,rfl,rfl⟩,⟨_,rfl,rfl,rfl⟩,⟨_,rfl,rfl,rfl⟩,⟨_,rfl,rfl⟩,⟨_,rfl,rfl⟩,trivial⟩,by omega⟩
 refine swp_block ?_
 refine swp_seq E1_ok mixed (by kernel_rfl) ?_
 conv=>whnf
 refine⟨gst [(5,.c (.gs 0 0)),(6,.c (.gs 1 0)),(22,.c (.gs 0 0)),(23,.c (.int .i64 ((n:Nat):Int))),(24,.c (.int .i64 ((k:Nat):Int))),(7,.c (.int .i64 ((k:Nat):Int)))] [gR n H,gL (k+1) P],Weak.gen [some 0,some 1] rfl ⟨⟨_,rfl,rfl,rfl,rfl,rfl,fun x y hx hy => .inl ⟨_,_,rfl,rfl,fun _ _ _ _=>rfl⟩⟩,⟨_,rfl,rfl,rfl,rfl,rfl,fun x y hx hy=>poly_keep⟩,trivial⟩ ⟨⟨_,rfl,rfl,rfl⟩,⟨_,rfl,rfl,rfl⟩,⟨_,rfl,rfl,rfl⟩,⟨_,rfl,rfl⟩,⟨_,rfl,rfl⟩,⟨_,rfl,rfl⟩,trivial⟩,?_⟩
 have j0:(0:Int)≤(k:Int):=by omega
 have j1:(k:Int)<((k+1:Nat):Int):=by omega
 have j2:(k:Int)<(n:Int):=by omega
 refine swp_seq E1_ok mixed (by kernel_rfl) ?_
 conv=>whnf
 repeat (refine⟨by first | exact j0 | exact j1 | exact j2,?_⟩;conv=>whnf)
 refine⟨_,hsh,?_⟩
 conv=>whnf
 repeat (refine⟨by first | exact j0 | exact j1 | exact j2,?_⟩;conv=>whnf)
 refine⟨_,hsc,?_⟩
 conv=>whnf
 refine⟨_,hs0,?_⟩
 conv=>whnf
 refine⟨gst [(5,.c (.gs 0 0)),(6,.c (.gs 1 0)),(22,.c (.gs 0 0)),(23,.c (.int .i64 ((n:Nat):Int))),(24,.c (.int .i64 ((k:Nat):Int))),(7,.c (.int .i64 ((k:Nat):Int))),(8,.c (nql (k+2) (N k k)))] [gR n H,gL (k+1) P],Weak.gen [some 0,some 1] rfl ⟨⟨_,rfl,rfl,rfl,rfl,rfl,fun x y hx hy => .inl ⟨_,_,rfl,rfl,fun _ _ _ _=>rfl⟩⟩,⟨_,rfl,rfl,rfl,rfl,rfl,fun x y hx hy=>poly_keep⟩,trivial⟩ ⟨⟨_,rfl,rfl,rfl⟩,⟨_,rfl,rfl,rfl⟩,⟨_,rfl,rfl,rfl⟩,⟨_,rfl,rfl⟩,⟨_,rfl,rfl⟩,⟨_,rfl,rfl⟩,.inl ⟨_,_,rfl,rfl,fun _ _ _ _=>rfl⟩,trivial⟩,?_⟩
 refine swp_seq E1_ok mixed (by kernel_rfl) ?_
 conv=>whnf
 refine⟨_,k1,?_⟩
 conv=>whnf
 refine⟨gst [(5,.c (.gs 0 0)),(6,.c (.gs 1 0)),(22,.c (.gs 0 0)),(23,.c (.int .i64 ((n:Nat):Int))),(24,.c (.int .i64 ((k:Nat):Int))),(7,.c (.int .i64 ((k:Nat):Int))),(8,.c (nql (k+2) (N k k))),(9,.c (.p 2 0 4 0 0))] [gR n H,gL (k+1) P,⟨38,4,1,boxF (nq (1))⟩],Weak.gen [some 0,some 1,some 2] rfl ⟨⟨_,rfl,rfl,rfl,rfl,rfl,fun x y hx hy => .inl ⟨_,_,rfl,rfl,fun _ _ _ _=>rfl⟩⟩,⟨_,rfl,rfl,rfl,rfl,rfl,fun x y hx hy=>poly_keep⟩,Rf.boxU rfl rfl rfl,trivial⟩ ⟨⟨_,rfl,rfl,rfl⟩,⟨_,rfl,rfl,rfl⟩,⟨_,rfl,rfl,rfl⟩,⟨_,rfl,rfl⟩,⟨_,rfl,rfl⟩,⟨_,rfl,rfl⟩,.inl ⟨_,_,rfl,rfl,fun _ _ _ _=>rfl⟩,⟨_,rfl,rfl,rfl⟩,trivial⟩,?_⟩
 refine swp_mid (fun _:Unit=>gst [(5,.c (.gs 0 0)),(6,.c (.gs 1 0)),(22,.c (.gs 0 0)),(23,.c (.int .i64 ((n:Nat):Int))),(24,.c (.int .i64 ((k:Nat):Int))),(7,.c (.int .i64 ((k:Nat):Int))),(8,.c (nql (k+2) (P (k+1))))] [gR n H,gL (k+1) P]) (fun _=>True) ?_ fun _ _=>?_
 rotate_left
 ·refine swp_of E1_ok mixed (by kernel_rfl) ?_
  conv=>whnf
  refine⟨by show k+1+1≤16777216;omega,fun x y hx hy=>one_poly (k:=k+2) (v:=P (k+1)) hx hy,?_⟩
  conv=>whnf
  exact⟨(),trivial,Weak.gen [some 0,some 1] rfl ⟨⟨_,rfl,rfl,rfl,rfl,rfl,fun x y hx hy => .inl ⟨_,_,rfl,rfl,fun _ _ _ _=>rfl⟩⟩,⟨_,rfl,rfl,rfl,rfl,rfl,fun x y hx hy=>poly_app (k:=k+1) (v:=P (k+1)) (fun _ _=>rfl) hx hy⟩,trivial⟩ ⟨⟨_,rfl,rfl,rfl⟩,⟨_,rfl,rfl,rfl⟩,⟨_,rfl,rfl,rfl⟩,⟨_,rfl,rfl⟩,⟨_,rfl,rfl⟩,trivial⟩⟩
 refine swp_seq E1_ok mixed (by kernel_rfl) ?_
 conv=>whnf
 refine⟨i64_range (by omega) (by omega),?_⟩
 conv=>whnf
 refine⟨(fun i:Nat=>gst [(5,.c (.gs 0 0)),(6,.c (.gs 1 0)),(22,.c (.gs 0 0)),(23,.c (.int .i64 ((n:Nat):Int))),(24,.c (.int .i64 ((k:Nat):Int))),(7,.c (.int .i64 ((k:Nat):Int))),(8,.c (nql (k+2) (N k i))),(9,.c (.p 2 0 4 0 0)),(10,.c (.int .i64 ((i:Int)-1)))] [gR n H,gL (k+1) P,⟨38,4,1,boxF (nq (D i k))⟩]) k,Weak.gen [some 0,some 1,some 2] rfl ⟨⟨_,rfl,rfl,rfl,rfl,rfl,fun x y hx hy => .inl ⟨_,_,rfl,rfl,fun _ _ _ _=>rfl⟩⟩,⟨_,rfl,rfl,rfl,rfl,rfl,fun x y hx hy=>poly_keep⟩,box_eq (hds k).symm,trivial⟩ ⟨⟨_,rfl,rfl,rfl⟩,⟨_,rfl,rfl,rfl⟩,⟨_,rfl,rfl,rfl⟩,⟨_,rfl,rfl⟩,⟨_,rfl,rfl⟩,⟨_,rfl,rfl⟩,.inl ⟨_,_,rfl,rfl,fun _ _ _ _=>rfl⟩,⟨_,rfl,rfl,rfl⟩,⟨_,rfl,rfl⟩,trivial⟩,?_⟩
 refine swp_block (swp_loop (fun i:Nat=>gst [(5,.c (.gs 0 0)),(6,.c (.gs 1 0)),(22,.c (.gs 0 0)),(23,.c (.int .i64 ((n:Nat):Int))),(24,.c (.int .i64 ((k:Nat):Int))),(7,.c (.int .i64 ((k:Nat):Int))),(8,.c (nql (k+2) (N k i))),(9,.c (.p 2 0 4 0 0)),(10,.c (.int .i64 ((i:Int)-1)))] [gR n H,gL (k+1) P,⟨38,4,1,boxF (nq (D i k))⟩]) (fun i=>i) (fun i=>i≤k) k (Weak.refl _) (Nat.le_refl k) fun i hi=>?_)
 cases i with
 | zero =>
  refine swp_of E1_ok mixed (by kernel_rfl) ?_
  conv=>whnf
  exact⟨(),trivial,Weak.gen [some 0,some 1] rfl ⟨⟨_,rfl,rfl,rfl,rfl,rfl,fun x y hx hy => .inl ⟨_,_,rfl,rfl,fun _ _ _ _=>rfl⟩⟩,⟨_,rfl,rfl,rfl,rfl,rfl,fun x y hx hy=>poly_keep⟩,trivial⟩ ⟨⟨_,rfl,rfl,rfl⟩,⟨_,rfl,rfl,rfl⟩,⟨_,rfl,rfl,rfl⟩,⟨_,rfl,rfl⟩,⟨_,rfl,rfl⟩,⟨_,rfl,rfl⟩,reg_nql fun x _=>hnl k x,trivial⟩⟩
 | succ q =>
  have hq:q<k:=by have hi:q+1≤k:=hi;omega
  have hc2:=hc2 q hk hq
  have hs2:=hs2 q hk hq
  have hm1:=hm1 q hk hq
  have hm2:=hm2 q hk hq
  have hnz:=hnz q hk hq
  have hbr:=fun h0 x=>hbr q k x h0 (Nat.le_of_lt hq)
  have j3:(0:Int)≤(q:Int)+1:=by omega
  have j4:(q:Int)+1<(n:Int):=by omega
  have j5:(0:Int)≤(q:Int):=by omega
  have j6:(q:Int)<(n:Int):=by omega
  have j7:(q:Int)<((k+1:Nat):Int):=by omega
  refine swp_seq E1_ok mixed (by kernel_rfl) ?_
  conv=>whnf
  refine bpos (show decide ((0:Int)≤((q+1:Nat):Int)-1)=true from decide_eq_true (by omega)) ?_
  conv=>whnf
  refine⟨gst [(5,.c (.gs 0 0)),(6,.c (.gs 1 0)),(22,.c (.gs 0 0)),(23,.c (.int .i64 ((n:Nat):Int))),(24,.c (.int .i64 ((k:Nat):Int))),(7,.c (.int .i64 ((k:Nat):Int))),(8,.c (nql (k+2) (N k (q+1)))),(9,.c (.p 2 0 4 0 0)),(10,.c (.int .i64 ((q:Nat):Int)))] [gR n H,gL (k+1) P,⟨38,4,1,boxF (nq (D (q+1) k))⟩],Weak.gen [some 0,some 1,some 2] rfl ⟨⟨_,rfl,rfl,rfl,rfl,rfl,fun x y hx hy => .inl ⟨_,_,rfl,rfl,fun _ _ _ _=>rfl⟩⟩,⟨_,rfl,rfl,rfl,rfl,rfl,fun x y hx hy=>poly_keep⟩,Rf.boxK rfl rfl,trivial⟩ ⟨⟨_,rfl,rfl,rfl⟩,⟨_,rfl,rfl,rfl⟩,⟨_,rfl,rfl,rfl⟩,⟨_,rfl,rfl⟩,⟨_,rfl,rfl⟩,⟨_,rfl,rfl⟩,.inl ⟨_,_,rfl,rfl,fun _ _ _ _=>rfl⟩,⟨_,rfl,rfl,rfl⟩,⟨_,rfl,by omega⟩,trivial⟩,?_⟩
  refine swp_mid (fun _:Unit=>gst [(5,.c (.gs 0 0)),(6,.c (.gs 1 0)),(22,.c (.gs 0 0)),(23,.c (.int .i64 ((n:Nat):Int))),(24,.c (.int .i64 ((k:Nat):Int))),(7,.c (.int .i64 ((k:Nat):Int))),(8,.c (nql (k+2) (N k q))),(9,.c (.p 2 0 4 0 0)),(10,.c (.int .i64 ((q:Nat):Int)))] [gR n H,gL (k+1) P,⟨38,4,1,boxF (nq (D q k))⟩]) (fun _=>True) ?_ fun _ _=>?_
  rotate_left
  ·refine swp_of E1_ok mixed (by kernel_rfl) ?_
   conv=>whnf
   refine⟨i64_range (by omega) (by omega),?_⟩
   conv=>whnf
   exact⟨q,Nat.lt_succ_self q,Weak.gen [some 0,some 1,some 2] rfl ⟨⟨_,rfl,rfl,rfl,rfl,rfl,fun x y hx hy => .inl ⟨_,_,rfl,rfl,fun _ _ _ _=>rfl⟩⟩,⟨_,rfl,rfl,rfl,rfl,rfl,fun x y hx hy=>poly_keep⟩,Rf.boxK rfl rfl,trivial⟩ ⟨⟨_,rfl,rfl,rfl⟩,⟨_,rfl,rfl,rfl⟩,⟨_,rfl,rfl,rfl⟩,⟨_,rfl,rfl⟩,⟨_,rfl,rfl⟩,⟨_,rfl,rfl⟩,.inl ⟨_,_,rfl,rfl,fun _ _ _ _=>rfl⟩,⟨_,rfl,rfl,rfl⟩,⟨_,rfl,rfl⟩,trivial⟩,Nat.le_of_lt hq⟩
  refine swp_block ?_
  refine swp_seq E1_ok mixed (by kernel_rfl) ?_
  conv=>whnf
  repeat (refine⟨by first | exact j0 | exact j1 | exact j2 | exact j3 | exact j4 | exact j5 | exact j6 | exact j7 | exact i64_range (by omega) (by omega),?_⟩;conv=>whnf)
  refine⟨_,hm1,?_⟩
  conv=>whnf
  refine⟨gst [(5,.c (.gs 0 0)),(6,.c (.gs 1 0)),(22,.c (.gs 0 0)),(23,.c (.int .i64 ((n:Nat):Int))),(24,.c (.int .i64 ((k:Nat):Int))),(7,.c (.int .i64 ((k:Nat):Int))),(8,.c (nql (k+2) (N k (q+1)))),(9,.c (.p 2 0 4 0 0)),(10,.c (.int .i64 ((q:Nat):Int)))] [gR n H,gL (k+1) P,⟨38,4,1,boxF (nq (D q k))⟩],Weak.gen [some 0,some 1,some 2] rfl ⟨⟨_,rfl,rfl,rfl,rfl,rfl,fun x y hx hy => .inl ⟨_,_,rfl,rfl,fun _ _ _ _=>rfl⟩⟩,⟨_,rfl,rfl,rfl,rfl,rfl,fun x y hx hy=>poly_keep⟩,Rf.boxU rfl rfl rfl,trivial⟩ ⟨⟨_,rfl,rfl,rfl⟩,⟨_,rfl,rfl,rfl⟩,⟨_,rfl,rfl,rfl⟩,⟨_,rfl,rfl⟩,⟨_,rfl,rfl⟩,⟨_,rfl,rfl⟩,.inl ⟨_,_,rfl,rfl,fun _ _ _ _=>rfl⟩,⟨_,rfl,rfl,rfl⟩,⟨_,rfl,rfl⟩,trivial⟩,?_⟩
  refine swp_seq E1_ok mixed (by kernel_rfl) ?_
  conv=>whnf
  refine⟨_,hnz,?_⟩
  conv=>whnf
  refine bcase (fun(h:(!decide (D q k≠0))=true)=>?_) fun(h:(!decide (D q k≠0))=false)=>?_
  ·have h0:D q k=0:=by simpa using h
   conv=>whnf
   exact⟨(),trivial,Weak.gen [some 0,some 1] rfl ⟨⟨_,rfl,rfl,rfl,rfl,rfl,fun x y hx hy => .inl ⟨_,_,rfl,rfl,fun _ _ _ _=>rfl⟩⟩,⟨_,rfl,rfl,rfl,rfl,rfl,fun x y hx hy=>poly_keep⟩,trivial⟩ ⟨⟨_,rfl,rfl,rfl⟩,⟨_,rfl,rfl,rfl⟩,⟨_,rfl,rfl,rfl⟩,⟨_,rfl,rfl⟩,⟨_,rfl,rfl⟩,⟨_,rfl,rfl⟩,reg_nql fun x _=>hbr h0 x,trivial⟩⟩
  conv=>whnf
  refine⟨gst [(5,.c (.gs 0 0)),(6,.c (.gs 1 0)),(22,.c (.gs 0 0)),(23,.c (.int .i64 ((n:Nat):Int))),(24,.c (.int .i64 ((k:Nat):Int))),(7,.c (.int .i64 ((k:Nat):Int))),(8,.c (nql (k+2) (N k (q+1)))),(9,.c (.p 2 0 4 0 0)),(10,.c (.int .i64 ((q:Nat):Int)))] [gR n H,gL (k+1) P,⟨38,4,1,boxF (nq (D q k))⟩],Weak.gen [some 0,some 1,some 2] rfl ⟨⟨_,rfl,rfl,rfl,rfl,rfl,fun x y hx hy => .inl ⟨_,_,rfl,rfl,fun _ _ _ _=>rfl⟩⟩,⟨_,rfl,rfl,rfl,rfl,rfl,fun x y hx hy=>poly_keep⟩,Rf.boxK rfl rfl,trivial⟩ ⟨⟨_,rfl,rfl,rfl⟩,⟨_,rfl,rfl,rfl⟩,⟨_,rfl,rfl,rfl⟩,⟨_,rfl,rfl⟩,⟨_,rfl,rfl⟩,⟨_,rfl,rfl⟩,.inl ⟨_,_,rfl,rfl,fun _ _ _ _=>rfl⟩,⟨_,rfl,rfl,rfl⟩,⟨_,rfl,rfl⟩,trivial⟩,?_⟩
  refine swp_of E1_ok mixed (by kernel_rfl) ?_
  conv=>whnf
  repeat (refine⟨by first | exact j0 | exact j1 | exact j2 | exact j3 | exact j4 | exact j5 | exact j6 | exact j7 | exact i64_range (by omega) (by omega),?_⟩;conv=>whnf)
  refine⟨_,hm2,?_⟩
  conv=>whnf
  repeat (refine⟨by first | exact j0 | exact j1 | exact j2 | exact j3 | exact j4 | exact j5 | exact j6 | exact j7 | exact i64_range (by omega) (by omega),?_⟩;conv=>whnf)
  refine⟨_,hc2,?_⟩
  conv=>whnf
  refine⟨_,hs2,?_⟩
  conv=>whnf
  exact⟨(),trivial,Weak.gen [some 0,some 1,some 2] rfl ⟨⟨_,rfl,rfl,rfl,rfl,rfl,fun x y hx hy => .inl ⟨_,_,rfl,rfl,fun _ _ _ _=>rfl⟩⟩,⟨_,rfl,rfl,rfl,rfl,rfl,fun x y hx hy=>poly_keep⟩,Rf.boxK rfl rfl,trivial⟩ ⟨⟨_,rfl,rfl,rfl⟩,⟨_,rfl,rfl,rfl⟩,⟨_,rfl,rfl,rfl⟩,⟨_,rfl,rfl⟩,⟨_,rfl,rfl⟩,⟨_,rfl,rfl⟩,.inl ⟨_,_,rfl,rfl,fun _ _ _ _=>rfl⟩,⟨_,rfl,rfl,rfl⟩,⟨_,rfl,rfl⟩,trivial⟩⟩
end Mx
end Go.Proofs.YtkmbnldginonbaaGreat
