/- A call that is handed all blocks of its caller's and may exchange all but the first m of them. -/
import Derived.Test.YtkmbnldginonbaaGreatHm8
import Derived.Test.YtkmbnldginonbaaGreatHm12
import Derived.Test.YtkmbnldginonbaaGreatHm4
import Derived.Test.YtkmbnldginonbaaGreatHm10
import Derived.Test.YtkmbnldginonbaaGreatHm9
namespace Go.Proofs.YtkmbnldginonbaaGreat
open Go.RowKit
def FnT (P:Program) (r:Bool) (f:FuncId) (m:Nat) (bl:List Blk) (args:List V) (X:V) (bl':List Blk):Prop :=
 hasBody P f=true/\∀(D0:Nat->Prop) (w0:Base) (ρ:List Loc) (w:World) (vs:List Value),Sat D0 w0 r ρ bl w->VRels (Dof D0 ρ bl) w ρ args vs ->
  Calls P f vs.toArray w fun e w'=>∃ v ρ',e = .returned v/\Sat D0 w0 r ρ' bl' w'/\LocsLe (ρ.take m) ρ'/\VRel (Dof D0 ρ' bl') w' ρ' X v
theorem fnt_okS {E : Env} (hE : EnvOK E) {f : FuncId} {fn : Func} {c : Code} {args : List V} {X : V} {bl post : List Blk} (hf : E.P.funcs[f]? = some fn) (hb : fn.body = some c) (hbd : hasBody E.P f = true)
  (h:Swp E fn.ntmps c ⟨frame0 args,bl⟩ (retS E fn.results.toList X E.m0 post)):FnT E.P E.r f E.m0 bl args X post:=by
 refine⟨hbd,?_⟩
 intro D w0 ρ w vs hs0 hargs
 refine calls_of_wp hf hb ?_
 let C:Ctx:=⟨D,w0,E.r,fn.ntmps,ρ.take E.m0⟩
 have hlen:=hargs.length
 have hle:LocsLe (ρ.take E.m0) ρ:=fun i l hl=>by
  rw[List.getElem?_take]at hl
  split at hl
  ·exact⟨l,hl,fun _=>rfl,Nat.le_refl _⟩
  ·cases hl
 have hrel:Rel C ⟨frame0 args,bl⟩ { tmps:=vs.toArray++Array.replicate (fn.ntmps-vs.toArray.size) undef,defers:=[] } w:=by
  refine⟨ρ,hs0,⟨by simp[C];omega,hle⟩,rfl,fun t=>?_⟩
  have h2:=hargs.get t
  show VRel (Dof D ρ bl) w ρ (args.getD t (.c .any)) _
  rcases Nat.lt_or_ge t vs.length with hlt | hge
  ·have:(vs.toArray++Array.replicate (fn.ntmps-vs.toArray.size) undef).getD t undef=vs.getD t undef:=by
    rw[Array.getD_eq_getD_getElem?,Array.getElem?_append_left (by simpa using hlt)]
    simp[List.getD]
   rw[this];exact h2
  ·rw[show args.getD t (V.c .any) = .c .any by rw[List.getD,List.getElem?_eq_none (by omega)];rfl]
   trivial
 refine wp_mono (h.run C _ _ rfl (by show(ρ.take E.m0).length≤E.m0;rw[List.length_take];omega) rfl hrel) ?_
 rintro e a w' ⟨σ,hr,hk⟩
 have fin:retS E fn.results.toList X E.m0 post .ret σ->a.defers=[]/\∃ v,(results fn a.tmps).run E.P w' = .ok v w'/\∃ u ρ',Ending.returned v = .returned u/\Sat D w0 E.r ρ' post w'/\LocsLe (ρ.take E.m0) ρ'/\VRel (Dof D ρ' post) w' ρ' X u:=by
  intro hk
  obtain⟨ρ1,hs,hN,hdf,hfr⟩:=hr
  refine⟨hdf,?_⟩
  simp only[retS]at hk
  split at hk
  ·rename_i v hv
   obtain⟨x,hx,hxr⟩:=ret_run hE hs hfr hv
   have hrel':Rel ⟨D,w0,E.r,0,ρ.take E.m0⟩ ⟨asg [(0,v)],σ.bl⟩ ⟨#[x],[]⟩ w':=by
    refine⟨ρ1,hs,⟨Nat.zero_le _,hN.2⟩,rfl,fun t=>?_⟩
    show VRel _ _ _ (if t=0 then v else .c .any) _
    split
    ·rename_i e;subst e;exact hxr
    ·trivial
   obtain⟨ρ2,hs2,hN2,_,hf2⟩:=hk ⟨D,w0,E.r,0,ρ.take E.m0⟩ _ _ (by show(ρ.take E.m0).length≤E.m0;rw[List.length_take];omega) hrel'
   exact⟨x,hx,x,ρ2,rfl,hs2,hN2.2,hf2 0⟩
  ·exact hk.elim
 cases e with
 | normal=>exact fin hk
 | ret=>exact fin hk
 | exit i=>exact hk.elim
 | goto l=>exact hk.elim
 | panic ch=>exact hk.elim
 | outgrown=>exact hk.elim
def OpGoT (E:Env) (m:Nat) (o:Oper) (σ σ':St):Prop:=∀ {C:Ctx} {a:Act} {w:World} {next:Act->World->Prop} {Q:Exit->Act->World->Prop},C.r=E.r->C.ρ0.length≤m->dstOK C.N o.dst->Rel C σ a w->(∀ a' w',Rel C σ' a' w'->next a' w')->o.wp E.P a w next Q
theorem aops_app2 {E : Env} (hE : EnvOK E) {C : Ctx} (hC : C.r = E.r) {ops : Array Oper} {Q : Exit → Act → World → Prop} {K : St → Prop} {l2 : List Oper} (hQ : ∀ σ a w, K σ → Rel C σ a w → wpList E.P ops Q l2 a w) :
  ∀(l:List Oper) (σ:St) (a:Act) (w:World),(∀ o∈l,dstOK C.N o.dst)->aops E ops l σ K->Rel C σ a w->wpList E.P ops Q (l++l2) a w
 | [],σ,a,w,_,h,hr=>hQ σ a w h hr
 | o :: rest,σ,a,w,hd,h,hr=>by
  have ih:=fun σ a w=>aops_app2 (ops:=ops) hE hC hQ rest σ a w (fun o ho=>hd o (by simp[ho]))
  rw[List.cons_append]
  unfold wpList
  simp only[aops]at h
  split at h
  ·rename_i hg
   rw[if_pos (by simp[Region.wanted,hg])]
   exact .inl (aop_sound hE hC h (hd o (by simp)) hr fun σ' a' w' hk hrel=>ih σ' a' w' hk hrel)
  ·rename_i g want hg
   split at h
   ·rename_i d b hgv
    have h:=cs_iff.1 h
    rw[gw_true,gw_false]at h
    obtain⟨hy,hv,hlt,htm⟩:=guard_val (a:=a) (w:=w) hgv (by obtain⟨ρ,hs,hN,hdf,hf⟩:=hr;exact fun d _=>⟨_,ρ,hf d⟩)
    have hwt:Region.wanted o (yielded ops a.tmps)=(b == want):=by
     unfold Region.wanted
     rw[hg]
     simp only[hy]
     rfl
    rw[hwt]
    by_cases e:b=want
    ·rw[if_pos (by simp[e])]
     refine .inl (aop_sound hE hC (h.1 e) (hd o (by simp)) (put_same hr fun D ρ=>?_) fun σ' a' w' hk hrel=>ih σ' a' w' hk hrel)
     rw[hv,e];rfl
    ·have e':b=!want:=by cases b <;> cases want <;> simp_all
     rw[if_neg (by simpa using e)]
     have h2:Rel C (σ.put (some d) (.c (.bool !want))) a w:=put_same hr fun D ρ=>by rw[hv,e'];rfl
     obtain⟨ρ,hs,hN,hdf,hf⟩:=h2
     exact ih _ _ _ (h.2 e') (Rel.put hs hN hdf hf (hd o (by simp)) rfl)
   ·split at h
    ·rename_i hgu
     have hy:=guard_un (a:=a) (w:=w) hgu (by obtain⟨ρ,hs,hN,hdf,hf⟩:=hr;exact fun d _=>⟨_,ρ,hf d⟩)
     have hwt:Region.wanted o (yielded ops a.tmps)=false:=by
      unfold Region.wanted
      rw[hg]
      simp only[hy]
      rfl
     rw[hwt,if_neg (by simp)]
     obtain⟨ρ,hs,hN,hdf,hf⟩:=hr
     exact ih _ _ _ h (Rel.put hs hN hdf hf (hd o (by simp)) rfl)
    ·exact h.elim
theorem OpGoT.call0 {E : Env} {m : Nat} {o : Oper} {σ : St} {g : Operand} {args : Array Operand} {ts : Array TypeId} (hx : o.op = .call { callee := .value g, args, argTypes := ts }) {f : FuncId} {cs : List Cell} (hg : calleeX σ g = some (f, cs)) (hst : ∀ B ∈ σ.bl, B.st = 0 ∨ 2 ≤ B.st) {X : V} {bl' : List Blk}
  (hS:FnT E.P E.r f m σ.bl ((args.toList.map fun x=>σ.ev x)++cs.map V.c) X bl') (hlt:∀ t,(σ.tm t).lt m=true):OpGoT E m o σ (St.put ⟨σ.tm,bl'⟩ o.dst X):=by
 intro C a w next Q hC hm hd hr hn
 obtain⟨ρ0,hs0,hN,hdf,hf0⟩:=hr
 have hev:∀ x,VRel (Dof C.D0 ρ0 σ.bl) w ρ0 (σ.ev x) (a.eval x):=fun x=>ev_rel hf0 x
 obtain⟨caps,hca,hcr⟩:=calleeX_eval hg (hev g)
 have s3:=hs0.rebase hst
 have hv2:VRels (Dof C.D0 ρ0 σ.bl) w ρ0 ((args.toList.map fun x=>σ.ev x)++cs.map V.c) (args.toList.map a.eval++caps.toList) :=
  (VRels.map args.toList fun x _=>hev x).append (VRels.cells (by simpa using hcr))
 rw[← hC]at hS
 unfold Oper.wp
 rw[exec_callc hx hca hS.1,Oper.upon_enter]
 have:=hS.2 _ _ _ _ _ s3 hv2
 rw[show(args.toList.map a.eval++caps.toList).toArray=args.map a.eval++caps by
  rw[← Array.toList_map,← Array.toList_append,Array.toArray_toList]]at this
 refine this.mono ?_
 rintro e w' ⟨v,ρ',rfl,q1,q2,q3⟩
 obtain⟨b1,b2,b3⟩:=hs0.unbase q1
 refine hn _ _ ?_
 have hf1:∀ t,VRel (Dof C.D0 ρ' bl') w' ρ' (σ.tm t) (a.tmps.getD t undef):=fun t =>
  ((hf0 t).take (hlt t)).step b2 b3 q2
 exact Rel.put (σ:=⟨σ.tm,bl'⟩) b1 ⟨hN.1,(hN.2.take hm).trans q2⟩ hdf hf1 hd q3
theorem swp_goT {E : Env} (hE : EnvOK E) {N id : Nat} {ops : Array Oper} {pre post : List Oper} {o : Oper} (hl : ops.toList = pre ++ o :: post) (hg : o.guard = none) (hdst : (ops.toList.all (dstB N)) = true) {σ : St} {R : Exit → St → Prop}
  (h:aops E ops pre σ fun τ=>∃ m τ',E.m0≤m/\OpGoT E m o τ τ'/\aops E ops post τ' (R .normal)):Swp E N (.region id ops false) σ R:=by
 refine⟨fun C a w h1 h2 h3 hr=>?_⟩
 have hdo:∀ o'∈ops.toList,dstOK C.N o'.dst:=by
  intro o' ho d hd'
  have:=List.all_eq_true.1 hdst o' ho
  unfold dstB at this
  rw[hd']at this
  rw[h3]
  simpa using this
 refine wp_region_list ?_
 rw[hl]at hdo ⊢
 refine aops_app2 hE h1 (fun τ a w hk hrel=>?_) pre σ a w (fun o' ho=>hdo o' (by simp[ho])) h hr
 obtain⟨m,τ',hm,hgo,hrest⟩:=hk
 unfold wpList
 rw[if_pos (by simp[Region.wanted,hg])]
 refine .inl (hgo h1 (Nat.le_trans h2 hm) (hdo o (by simp)) hrel fun a' w' hrel'=>?_)
 exact aops_sound hE h1 (fun σ a w hk hrel=>⟨σ,hrel,hk⟩) post _ a' w' (fun o' ho=>hdo o' (by simp[ho])) hrest hrel'
theorem Weak.genT0 {tm:Nat->V} {bl:List Blk} {tl:List (Nat × V)} {xs:List Gx} (pre:List Blk) (hp0:pre=[]) (hpre:bl.take pre.length=pre) (hst2:pre.all (fun B=>Nat.ble 2 B.st)=true) (ks:List (Option Nat)) (hi:injK ks=true) (hb:srcsG pre.length bl ks ks xs) (hl:allP tl fun p=>regV pre.length bl ks (tm p.1) p.2):(h0:ks[0]? = some (some 0))->(hu:∃ B,bl[0]? = some B/\B.u=0/\B.st≤1)->Weak 1 ⟨tm,bl⟩ ⟨asg tl,pre++xs.map gb⟩:=by
 rintro h0 ⟨B0,hB0,hu0,hst0⟩ C a w hm0 ⟨ρ,hs,hN,hdf,hf⟩
 obtain⟨hlen,hget⟩:=srcsG_get hb
 have hlb:bl.length=ρ.length:=hs.len.symm
 have hq:pre.length≤ρ.length:=by
  have:=congrArg List.length hpre
  rw[List.length_take]at this
  omega
 have hql:(ρ.take pre.length).length=pre.length:=by rw[List.length_take];omega
 have get:∀(j:Nat) (l:Loc) (B:Blk),(ρ.take pre.length++ks.map (locK ρ))[j]? = some l->(pre++xs.map gb)[j]? = some B->2≤B.st∨pre.length≤j/\((∃(k:Nat) (lk:Loc) (Bk:Blk),ks[j-pre.length]? = some (some k)/\ρ[k]? = some lk/\bl[k]? = some Bk/\l={ lk with u:=0 }/\B.t=Bk.t/\B.sz=Bk.sz/\B.n=Bk.n/\Bk.st=0/\B.st=0/\B.u=0/\∀ i j,i<B.n->j<B.sz->regC pre.length bl ks (B.f i j) fun y=>Bk.f i j=y)∨(l=⟨0,none,0,0⟩/\B.n=0/\B.u=0)):=by
  intro j l B e1 e2
  rcases Nat.lt_or_ge j pre.length with hj | hj
  ·left
   rw[List.getElem?_append_left hj]at e2
   exact Nat.le_of_ble_eq_true (List.all_eq_true.1 hst2 B (List.mem_of_getElem? e2))
  right
  refine⟨hj,?_⟩
  rw[List.getElem?_append_right (by omega),hql,List.getElem?_map]at e1
  rw[List.getElem?_append_right hj,List.getElem?_map]at e2
  cases hx:xs[j-pre.length]? with
  | none=>rw[hx]at e2;cases e2
  | some x =>
   rw[hx]at e2
   simp at e2
   obtain⟨k,hk,hsrc⟩:=hget _ x hx
   rw[hk]at e1
   simp at e1
   subst e1 e2
   cases k with
   | none=>exact .inr ⟨rfl,hsrc,rfl⟩
   | some k =>
    obtain⟨Bk,q1,q2,q3,q4,q5,q6⟩:=hsrc
    have hkl:k<ρ.length:=by rw[hs.len];exact(List.getElem?_eq_some_iff.1 q1).1
    refine .inl ⟨k,ρ[k],Bk,hk,List.getElem?_eq_getElem hkl,q1,?_,q2.symm,q3.symm,q4.symm,q5,rfl,rfl,q6⟩
    simp[locK,List.getD,List.getElem?_eq_getElem hkl]
 have hD:∀ b,Dof C.D0 (ρ.take pre.length++ks.map (locK ρ)) (pre++xs.map gb) b->Dof C.D0 ρ bl b:=by
  rintro b (hx | ⟨j,l,B,e1,e2,e3,e4⟩)
  ·exact .inl hx
  ·rcases get j l B e1 e2 with q0 | ⟨_,⟨k,lk,Bk,q1,q2,q3,q4,q5,q6,q7,q8,q9,q10⟩ | ⟨q1,q2⟩⟩
   ·omega
   ·subst q4
    exact .inr ⟨k,lk,Bk,q2,q3,q8,e4⟩
   ·subst q1;cases e4
 have at_j:∀ j k,pre.length.ble j=true->ks[j-pre.length]? = some k->(ρ.take pre.length++ks.map (locK ρ))[j]? = some (locK ρ k):=fun j k h1 h2=>by
  have:=Nat.le_of_ble_eq_true h1
  rw[List.getElem?_append_right (by omega),hql,List.getElem?_map,h2];rfl
 have out:∀(k:Nat) (l:Loc) (B:Blk) (b:Nat),ρ[k]? = some l->bl[k]? = some B->B.st≤1->l.b=some b->pre.length.ble k=true->(ks.any fun x=>x == some k)=false->¬ Dof C.D0 (ρ.take pre.length++ks.map (locK ρ)) (pre++xs.map gb) b:=by
  rintro k l B b p1 p2 p3 p4 p5 p6 (hx | ⟨j,l',B',e1,e2,e3,e4⟩)
  ·have h1:=hs.own p1 p2 p3 p4
   have h2:=hs.d0 b hx
   rcases h1 with h1 | h1
   ·have:=h2.1
    have h3:C.w0.heap.size≤b:=h1
    omega
   ·exact h2.2 h1
  ·rcases get j l' B' e1 e2 with q0 | ⟨_,⟨k',lk,Bk,q1,q2,q3,q4,q5,q6,q7,q8,q9,q10⟩ | ⟨q1,q2⟩⟩
   ·omega
   ·subst q4
    have:=hs.dist k k' l lk B Bk b p1 q2 p2 q3 p3 (by omega) p4 e4
    subst this
    have:=List.any_eq_false.1 p6 (some k) (List.mem_of_getElem? q1)
    simp at this
   ·subst q1;cases e4
 refine⟨ρ.take pre.length++ks.map (locK ρ),⟨hs.below,hs.d0,by rw[List.length_append,hql];simp[hlen],fun j l B e1 e2 hst=>?_,fun i j li lj Bi Bj b e1 e2 e3 e4 e5 e6 e7 e8=>?_,fun hr b o d hb=>hs.noU hr b o d (hD b hb)⟩,⟨hN.1,fun k l h=>?_⟩,hdf,fun t=>?_⟩
 ·rcases get j l B e1 e2 with q0 | ⟨_,⟨k,lk,Bk,q1,q2,q3,q4,q5,q6,q7,q8,q9,q10,q11⟩ | ⟨q1,q2,q3⟩⟩
  ·omega
  ·subst q4
   refine⟨q10.symm,?_⟩
   rcases(hs.at_ k lk Bk q2 q3 (by omega)).2 with⟨g1,g2,g3⟩ | ⟨b,cap,cs,g2,g3,g4,g5,g6,g7,g8,g9⟩
   ·exact .inl ⟨q7.trans g1,g2,g3⟩
   ·refine .inr ⟨b,cap,cs,g2,g3,by rw[q7];exact g4,by rw[q5];exact g5,by rw[q6];exact g6,by rw[q7];exact g7,g8,fun x y hx hy=>?_⟩
    obtain⟨u,hu,hur⟩:=g9 x y (by omega) (by omega)
    refine⟨u,by rw[q6];exact hu,?_⟩
    rw[if_pos q8]at hur
    rw[if_pos q9]
    exact regC_rel hs hD at_j out (q11 x y hx hy) fun z hz=>by subst hz;exact hur
  ·subst q1
   exact⟨q3.symm,.inl ⟨q2,rfl,rfl⟩⟩
 ·rcases get i li Bi e1 e3 with q0 | ⟨hi1,⟨k,lk,Bk,q1,q2,q3,q4,q5,q6,q7,q8,q9,q10⟩ | ⟨q1,q2⟩⟩
  ·omega
  ·rcases get j lj Bj e2 e4 with p0 | ⟨hj1,⟨k',lk',Bk',p1,p2,p3,p4,p5,p6,p7,p8,p9,p10⟩ | ⟨p1,p2⟩⟩
   ·omega
   ·subst q4 p4
    have:=hs.dist k k' lk lk' Bk Bk' b q2 p2 q3 p3 (by omega) (by omega) e7 e8
    subst this
    have:=injK_eq hi q1 p1
    omega
   ·subst p1;cases e8
  ·subst q1;cases e7
 ·obtain⟨l',h1,h2⟩:=hN.2 k l h
  have hk:k<1:=Nat.lt_of_lt_of_le (List.getElem?_eq_some_iff.1 h).1 hm0
  obtain rfl:k=0:=by omega
  subst hp0
  refine⟨l',?_,h2⟩
  have hu:=(hs.at_ 0 l' B0 h1 hB0 hst0).1
  show([]++ks.map (locK ρ))[0]? = some l'
  rw[List.nil_append,List.getElem?_map,h0]
  show some { ρ.getD 0 ⟨0,none,0,0⟩with u:=0 }=some l'
  rw[List.getD_eq_getElem?_getD,h1]
  show some { l' with u:=0 }=some l'
  cases l'
  simp only[Option.some.injEq,Loc.mk.injEq,and_true]
  simp_all
 ·rcases asg_mem tl t with e | e
  ·show VRel _ _ _ (asg tl t) _
   rw[e];trivial
  ·have e1:=allP_mem hl _ e
   have e2:VRel (Dof C.D0 ρ bl) w ρ (tm t) (a.tmps.getD t undef):=hf t
   show VRel _ _ _ (asg tl t) _
   generalize asg tl t=y at e1 ⊢
   have e1:regV pre.length bl ks (tm t) y:=e1
   have fin:∀ y:V,tm t=y/\y.clos=true->VRel (Dof C.D0 (ρ.take pre.length++ks.map (locK ρ)) (pre++xs.map gb)) w (ρ.take pre.length++ks.map (locK ρ)) y (a.tmps.getD t undef):=fun y h=>by
    rw[h.1]at e2
    exact(e2.clos h.2).step (Ext.refl _ _) (fun b _ hb=>hD b hb) (LocsLe.refl _)
   have fin2:∀ y:V,tm t=y/\closT y=true->VRel (Dof C.D0 (ρ.take pre.length++ks.map (locK ρ)) (pre++xs.map gb)) w (ρ.take pre.length++ks.map (locK ρ)) y (a.tmps.getD t undef):=fun y h=>by
    rw[h.1]at e2
    exact(closT_rel e2 h.2).step (Ext.refl _ _) (fun b _ hb=>hD b hb) (LocsLe.refl _)
   match y,e1 with
   | .c y,e1 =>
    exact regC_rel hs hD at_j out e1 fun x hx=>by
     have hx:tm t = .c x:=hx
     rw[hx]at e2
     exact e2
   | .g l,e1 =>
    rcases e1 with⟨h1,h2⟩ | ⟨l',h1,h2⟩
    ·exact fin _ ⟨h1,h2⟩
    ·rw[h1]at e2
     obtain⟨vs,h3,h4⟩:=e2
     exact⟨vs,h3,regL_rel hs hD at_j out h2 h4⟩
   | .t2 ..,e1=>exact fin2 _ e1
   | .t3 ..,e1=>exact fin2 _ e1
   | .t4 ..,e1=>exact fin2 _ e1
   | .un,e1=>exact fin2 _ e1
theorem Weak.genT {tm:Nat->V} {bl:List Blk} {tl:List (Nat × V)} {xs:List Gx} (ks:List (Option Nat)) (hi:injK ks=true) (h0:ks[0]? = some (some 0)) (hu:∃ B,bl[0]? = some B/\B.u=0/\B.st≤1) (hb:srcsG 0 bl ks ks xs) (hl:allP tl fun p=>regV 0 bl ks (tm p.1) p.2):Weak 1 ⟨tm,bl⟩ (gst tl xs) :=
 Weak.genT0 [] rfl rfl rfl ks hi hb hl h0 hu
theorem swp_cond {E:Env} {N:Nat} {c:Operand} {x y:Code} {σ:St} {R:Exit->St->Prop} {b:Bool} (hb:σ.ev c = .c (.bool b)) (h1:b=true->Swp E N x σ R) (h2:b=false->Swp E N y σ R):Swp E N (.cond c x y) σ R:=⟨fun C a w g1 g2 g3 hr=>by
 have he:a.eval c = .bool b:=by
  obtain⟨ρ,hs,hN,hdf,hf⟩:=hr
  have:=ev_rel hf c
  rw[hb]at this
  exact this
 exact wp_cond_split he (fun e=>(h1 e).run C a w g1 g2 g3 hr) (fun e=>(h2 e).run C a w g1 g2 g3 hr)⟩
theorem swp_mid {E:Env} {N:Nat} {x y:Code} {σ:St} {R:Exit->St->Prop} {α:Type} (S:α->St) (I:α->Prop) (h1:Swp E N x σ (seqR (fun σ'=>∃ a,I a/\Weak E.m0 σ' (S a)) R)) (h2:∀ a,I a->Swp E N y (S a) R):Swp E N (.seq x y) σ R:=by
 refine⟨fun C a w g1 g2 g3 hr=>?_⟩
 refine wp_seq (wp_mono (h1.run C a w g1 g2 g3 hr) ?_)
 rintro e a' w' ⟨σ',hrel,hk⟩
 cases e with
 | normal =>
  obtain⟨p,hp,hw⟩:=hk
  exact(h2 p hp).run C a' w' g1 g2 g3 (hw C a' w' g2 hrel)
 | _=>exact⟨σ',hrel,hk⟩
theorem Swp.mono {E:Env} {N:Nat} {x:Code} {σ:St} {R R':Exit->St->Prop} (h:Swp E N x σ R) (k:∀ e τ,R e τ->R' e τ):Swp E N x σ R':=by
 refine⟨fun C a w g1 g2 g3 hr=>wp_mono (h.run C a w g1 g2 g3 hr) ?_⟩
 rintro e a' w' ⟨σ',hrel,hk⟩
 exact⟨σ',hrel,k e σ' hk⟩
theorem swp_mid2 {E:Env} {N:Nat} {x y z:Code} {σ:St} {R:Exit->St->Prop} {α:Type} (S:α->St) (I:α->Prop) (h1:Swp E N x σ (seqR (fun σ1=>Swp E N y σ1 (seqR (fun σ'=>∃ a,I a/\Weak E.m0 σ' (S a)) R)) R)) (h2:∀ a,I a->Swp E N z (S a) R):Swp E N (.seq x (.seq y z)) σ R :=
 swp_seqS (h1.mono fun e τ h=>by
  cases e with
  | normal=>exact swp_mid S I h h2
  | _=>exact h)
theorem OpGoT.weak {E:Env} {m:Nat} {o:Oper} {σ σ1 σ':St} (h:Weak m σ σ1) (k:OpGoT E m o σ1 σ'):OpGoT E m o σ σ':=fun hC hm hd hr hn=>k hC hm hd (h _ _ _ hm hr) hn
theorem swp_weak {E:Env} {N:Nat} {c:Code} {σ σ2:St} {R:Exit->St->Prop} (hw:Weak E.m0 σ σ2) (h:Swp E N c σ2 R):Swp E N c σ R:=⟨fun C a w h1 h2 h3 hr=>h.run C a w h1 h2 h3 (hw C a w h2 hr)⟩
end Go.Proofs.YtkmbnldginonbaaGreat
/- A grid of rows of fractions that are written: what is told of it. -/
namespace Go.Proofs.YtkmbnldginonbaaGreat
open Go.RowKit
namespace Mx
abbrev gq (n:Nat) (v:Nat->Rat):Gx:=⟨38,4,n,qlF fun j=>ofR (v j)⟩
abbrev gG (n:Nat) (g:Nat->Nat):Gx:=⟨22,1,n,fun i _ => .gs (g i+1) 0⟩
abbrev idn (i:Nat):Nat:=i
theorem cells0 {Q:Nat->Nat->Prop}:∀ i j,i<0->j<1->Q i j:=fun i j hi hj=>by
 obtain rfl:j=0:=by omega
 omega
theorem cells1 {Q:Nat->Nat->Prop} (h0:Q 0 0):∀ i j,i<1->j<1->Q i j:=fun i j hi hj=>by
 obtain rfl:j=0:=by omega
 match i,hi with
 | 0,_=>exact h0
 | _+1,h=>exact absurd h (by omega)
theorem cells2 {Q:Nat->Nat->Prop} (h0:Q 0 0) (h1:Q 1 0):∀ i j,i<2->j<1->Q i j:=fun i j hi hj=>by
 obtain rfl:j=0:=by omega
 match i,hi with
 | 0,_=>exact h0
 | 1,_=>exact h1
 | _+2,h=>exact absurd h (by omega)
theorem cells3 {Q:Nat->Nat->Prop} (h0:Q 0 0) (h1:Q 1 0) (h2:Q 2 0):∀ i j,i<3->j<1->Q i j:=fun i j hi hj=>by
 obtain rfl:j=0:=by omega
 match i,hi with
 | 0,_=>exact h0
 | 1,_=>exact h1
 | 2,_=>exact h2
 | _+3,h=>exact absurd h (by omega)
theorem cells4 {Q:Nat->Nat->Prop} (h0:Q 0 0) (h1:Q 1 0) (h2:Q 2 0) (h3:Q 3 0):∀ i j,i<4->j<1->Q i j:=fun i j hi hj=>by
 obtain rfl:j=0:=by omega
 match i,hi with
 | 0,_=>exact h0
 | 1,_=>exact h1
 | 2,_=>exact h2
 | 3,_=>exact h3
 | _+4,h=>exact absurd h (by omega)
theorem cells5 {Q:Nat->Nat->Prop} (h0:Q 0 0) (h1:Q 1 0) (h2:Q 2 0) (h3:Q 3 0) (h4:Q 4 0):∀ i j,i<5->j<1->Q i j:=fun i j hi hj=>by
 obtain rfl:j=0:=by omega
 match i,hi with
 | 0,_=>exact h0
 | 1,_=>exact h1
 | 2,_=>exact h2
 | 3,_=>exact h3
 | 4,_=>exact h4
 | _+5,h=>exact absurd h (by omega)
theorem q_clos (v:Nat->Rat) (i j:Nat):(qlF (fun j=>ofR (v j)) i j).clos=true:=by
 match j with
 | 0=>rfl
 | 1=>rfl
 | 2=>rfl
 | 3=>rfl
 | j+4=>rfl
theorem row_keep {q:Nat} {bl:List Blk} {ks:List (Option Nat)} {v w:Nat->Rat} {i j:Nat} (h:w i=v i):regC q bl ks (qlF (fun j=>ofR (w j)) i j) fun y=>qlF (fun j=>ofR (v j)) i j=y:=regE (congrArg (fun x=>(rr (ofR x)).getD j .any) h.symm) (q_clos w i j)
theorem row_upd {q:Nat} {bl:List Blk} {ks:List (Option Nat)} {v w:Nat->Rat} {k i j:Nat} {x:Rat} (hj:j<4) (h:(if i=k then x else v i)=w i):regC q bl ks (qlF (fun j=>ofR (w j)) i j) fun y=>updF (qlF fun j=>ofR (v j)) k 0 (nq x) i j=y:=regE (updG (sz:=4) (g:=fun i=>nq (v i)) (g':=fun i=>nq (w i)) rfl hj (by rw[← h];split <;> rfl)) (q_clos w i j)
theorem row_upd2 {q:Nat} {bl:List Blk} {ks:List (Option Nat)} {v w:Nat->Rat} {k l i j:Nat} {x y:Rat} (hj:j<4) (h:(if i=l then y else if i=k then x else v i)=w i):regC q bl ks (qlF (fun j=>ofR (w j)) i j) fun z=>updF (updF (qlF fun j=>ofR (v j)) k 0 (nq x)) l 0 (nq y) i j=z:=by
 refine regE ?_ (q_clos w i j)
 have e:∀ a b,b<4->updF (qlF fun j=>ofR (v j)) k 0 (nq x) a b=qlF (fun a=>ofR (if a=k then x else v a)) a b:=fun a b hb=>updG (sz:=4) (g:=fun i=>nq (v i)) (g':=fun i=>nq (if i=k then x else v i)) rfl hb (by split <;> rfl)
 have e2:updF (updF (qlF fun j=>ofR (v j)) k 0 (nq x)) l 0 (nq y) i j=updF (qlF fun a=>ofR (if a=k then x else v a)) l 0 (nq y) i j:=by
  unfold updF at *
  split
  ·rfl
  ·exact e i j hj
 rw[e2]
 exact updG (sz:=4) (g:=fun i=>nq (if i=k then x else v i)) (g':=fun i=>nq (w i)) rfl hj (by rw[← h];split <;> rfl)
theorem rk {q k n:Nat} {bl:List Blk} {ks:List (Option Nat)} {v w:Nat->Rat} (h:bl[k]? = some ⟨38,4,n,0,0,qlF fun j=>ofR (v j)⟩) (e:∀ x,x<n->w x=v x):srcG q bl ks (gq n w) (some k):=⟨_,h,rfl,rfl,rfl,rfl,fun x _ hx _=>row_keep (e x hx)⟩
theorem rs {q k n:Nat} {bl:List Blk} {ks:List (Option Nat)} {v:Nat->Rat} (h:bl[k]? = some ⟨38,4,n,0,0,qlF fun j=>ofR (v j)⟩):srcG q bl ks (gq n v) (some k):=rk h fun _ _=>rfl
theorem ru {q k n i:Nat} {bl:List Blk} {ks:List (Option Nat)} {v w:Nat->Rat} {z:Rat} (h:bl[k]? = some ⟨38,4,n,0,0,updF (qlF fun j=>ofR (v j)) i 0 (nq z)⟩) (e:∀ x,(if x=i then z else v x)=w x):srcG q bl ks (gq n w) (some k):=⟨_,h,rfl,rfl,rfl,rfl,fun x _ _ hy=>row_upd hy (e x)⟩
theorem rgl {n:Int} (h:(decide (-9223372036854775808≤n)&&decide (n<9223372036854775808))=true):inR .i64 n:=by
 rw[Bool.and_eq_true]at h
 exact i64_range (of_decide_eq_true h.1) (of_decide_eq_true h.2)
theorem so {N:Nat} {c:Code} {σ:St} {R:Exit->St->Prop} (h:awp E1m c σ R) (hc:codeB N c=true:=by kernel_rfl):Swp E1m N c σ R:=swp_of E1m_ok mixed hc h
theorem sq {N:Nat} {x y:Code} {σ:St} {R:Exit->St->Prop} (h:awp E1m x σ (seqR (fun σ'=>∃ σ2,Weak E1m.m0 σ' σ2/\Swp E1m N y σ2 R) R)) (hc:codeB N x=true:=by kernel_rfl):Swp E1m N (.seq x y) σ R:=swp_seq E1m_ok mixed hc h
theorem gk1 {b1:Blk} {r:List Blk} {t:List (Option Nat)} (h:([b1].all fun b=>b.u == 0&&b.st == 0)=true):srcG 0 (gb (gG 1 idn) :: b1 :: r) (some 0 :: some 1 :: t) (gG 1 idn) (some 0):=by
 simp only[List.all_cons,List.all_nil,Bool.and_true,Bool.and_eq_true,beq_iff_eq]at h
 obtain⟨u1,s1⟩:=h
 exact⟨_,rfl,rfl,rfl,rfl,rfl,cells1 ⟨b1,rfl,by rw[u1],s1⟩⟩
theorem gk2 {b1 b2:Blk} {r:List Blk} {t:List (Option Nat)} (h:([b1,b2].all fun b=>b.u == 0&&b.st == 0)=true):srcG 0 (gb (gG 2 idn) :: b1 :: b2 :: r) (some 0 :: some 1 :: some 2 :: t) (gG 2 idn) (some 0):=by
 simp only[List.all_cons,List.all_nil,Bool.and_true,Bool.and_eq_true,beq_iff_eq]at h
 obtain⟨⟨u1,s1⟩,⟨u2,s2⟩⟩:=h
 exact⟨_,rfl,rfl,rfl,rfl,rfl,cells2 ⟨b1,rfl,by rw[u1],s1⟩ ⟨b2,rfl,by rw[u2],s2⟩⟩
theorem gk3 {b1 b2 b3:Blk} {r:List Blk} {t:List (Option Nat)} (h:([b1,b2,b3].all fun b=>b.u == 0&&b.st == 0)=true):srcG 0 (gb (gG 3 idn) :: b1 :: b2 :: b3 :: r) (some 0 :: some 1 :: some 2 :: some 3 :: t) (gG 3 idn) (some 0):=by
 simp only[List.all_cons,List.all_nil,Bool.and_true,Bool.and_eq_true,beq_iff_eq]at h
 obtain⟨⟨u1,s1⟩,⟨u2,s2⟩,⟨u3,s3⟩⟩:=h
 exact⟨_,rfl,rfl,rfl,rfl,rfl,cells3 ⟨b1,rfl,by rw[u1],s1⟩ ⟨b2,rfl,by rw[u2],s2⟩ ⟨b3,rfl,by rw[u3],s3⟩⟩
theorem gk4 {b1 b2 b3 b4:Blk} {r:List Blk} {t:List (Option Nat)} (h:([b1,b2,b3,b4].all fun b=>b.u == 0&&b.st == 0)=true):srcG 0 (gb (gG 4 idn) :: b1 :: b2 :: b3 :: b4 :: r) (some 0 :: some 1 :: some 2 :: some 3 :: some 4 :: t) (gG 4 idn) (some 0):=by
 simp only[List.all_cons,List.all_nil,Bool.and_true,Bool.and_eq_true,beq_iff_eq]at h
 obtain⟨⟨u1,s1⟩,⟨u2,s2⟩,⟨u3,s3⟩,⟨u4,s4⟩⟩:=h
 exact⟨_,rfl,rfl,rfl,rfl,rfl,cells4 ⟨b1,rfl,by rw[u1],s1⟩ ⟨b2,rfl,by rw[u2],s2⟩ ⟨b3,rfl,by rw[u3],s3⟩ ⟨b4,rfl,by rw[u4],s4⟩⟩
theorem gk5 {b1 b2 b3 b4 b5:Blk} {r:List Blk} {t:List (Option Nat)} (h:([b1,b2,b3,b4,b5].all fun b=>b.u == 0&&b.st == 0)=true):srcG 0 (gb (gG 5 idn) :: b1 :: b2 :: b3 :: b4 :: b5 :: r) (some 0 :: some 1 :: some 2 :: some 3 :: some 4 :: some 5 :: t) (gG 5 idn) (some 0):=by
 simp only[List.all_cons,List.all_nil,Bool.and_true,Bool.and_eq_true,beq_iff_eq]at h
 obtain⟨⟨u1,s1⟩,⟨u2,s2⟩,⟨u3,s3⟩,⟨u4,s4⟩,⟨u5,s5⟩⟩:=h
 exact⟨_,rfl,rfl,rfl,rfl,rfl,cells5 ⟨b1,rfl,by rw[u1],s1⟩ ⟨b2,rfl,by rw[u2],s2⟩ ⟨b3,rfl,by rw[u3],s3⟩ ⟨b4,rfl,by rw[u4],s4⟩ ⟨b5,rfl,by rw[u5],s5⟩⟩
end Mx
end Go.Proofs.YtkmbnldginonbaaGreat
/- Short ways to tell a grid of rows anew. -/
namespace Go.Proofs.YtkmbnldginonbaaGreat
open Go.RowKit
namespace Mx
abbrev R1 (A:Nat->Nat->Rat):List Gx:=[gG 1 idn,gq 1 (A 0)]
abbrev R2 (A:Nat->Nat->Rat):List Gx:=[gG 2 idn,gq 2 (A 0),gq 2 (A 1)]
abbrev R3 (A:Nat->Nat->Rat):List Gx:=[gG 3 idn,gq 3 (A 0),gq 3 (A 1),gq 3 (A 2)]
abbrev R3b (A:Nat->Nat->Rat) (u:Rat):List Gx:=[gG 3 idn,gq 3 (A 0),gq 3 (A 1),gq 3 (A 2),⟨38,4,1,boxF (nq u)⟩]
abbrev R4 (A:Nat->Nat->Rat):List Gx:=[gG 4 idn,gq 4 (A 0),gq 4 (A 1),gq 4 (A 2),gq 4 (A 3)]
abbrev R4b (A:Nat->Nat->Rat) (u:Rat):List Gx:=[gG 4 idn,gq 4 (A 0),gq 4 (A 1),gq 4 (A 2),gq 4 (A 3),⟨38,4,1,boxF (nq u)⟩]
abbrev R5 (A:Nat->Nat->Rat):List Gx:=[gG 5 idn,gq 5 (A 0),gq 5 (A 1),gq 5 (A 2),gq 5 (A 3),gq 5 (A 4)]
abbrev R5b (A:Nat->Nat->Rat) (u:Rat):List Gx:=[gG 5 idn,gq 5 (A 0),gq 5 (A 1),gq 5 (A 2),gq 5 (A 3),gq 5 (A 4),⟨38,4,1,boxF (nq u)⟩]
abbrev nt (k m:Nat):Nat × V:=(k,.c (.int .i64 ((m:Nat):Int)))
abbrev ng (k:Nat):Nat × V:=(k,.c (.gs 0 0))
theorem we3 {tm:Nat->V} {A B:Nat->Nat->Rat} {r:List Blk} {tl:List (Nat × V)} (h:∀ b x,b<3->x<3->B b x=A b x) (hl:allP tl fun p=>regV 0 (gb (gG 3 idn) :: gb (gq 3 (A 0)) :: gb (gq 3 (A 1)) :: gb (gq 3 (A 2)) :: r) [some 0,some 1,some 2,some 3] (tm p.1) p.2):Weak 1 ⟨tm,gb (gG 3 idn) :: gb (gq 3 (A 0)) :: gb (gq 3 (A 1)) :: gb (gq 3 (A 2)) :: r⟩ (gst tl (R3 B)):=Weak.genT [some 0,some 1,some 2,some 3] rfl rfl ⟨_,rfl,rfl,by decide⟩ ⟨gk3 rfl,rk rfl fun x hx=>h 0 x (by decide) hx,rk rfl fun x hx=>h 1 x (by decide) hx,rk rfl fun x hx=>h 2 x (by decide) hx,trivial⟩ hl
theorem ws3 {tm:Nat->V} {A:Nat->Nat->Rat} {r:List Blk} {tl:List (Nat × V)} (hl:allP tl fun p=>regV 0 (gb (gG 3 idn) :: gb (gq 3 (A 0)) :: gb (gq 3 (A 1)) :: gb (gq 3 (A 2)) :: r) [some 0,some 1,some 2,some 3] (tm p.1) p.2):Weak 1 ⟨tm,gb (gG 3 idn) :: gb (gq 3 (A 0)) :: gb (gq 3 (A 1)) :: gb (gq 3 (A 2)) :: r⟩ (gst tl (R3 A)):=we3 (fun _ _ _ _=>rfl) hl
theorem wbe3 {tm:Nat->V} {A B:Nat->Nat->Rat} {u:Rat} {r:List Blk} {tl:List (Nat × V)} (h:∀ b x,b<3->x<3->B b x=A b x) (hl:allP tl fun p=>regV 0 (gb (gG 3 idn) :: gb (gq 3 (A 0)) :: gb (gq 3 (A 1)) :: gb (gq 3 (A 2)) :: gb ⟨38,4,1,boxF (nq u)⟩ :: r) [some 0,some 1,some 2,some 3,some 4] (tm p.1) p.2):Weak 1 ⟨tm,gb (gG 3 idn) :: gb (gq 3 (A 0)) :: gb (gq 3 (A 1)) :: gb (gq 3 (A 2)) :: gb ⟨38,4,1,boxF (nq u)⟩ :: r⟩ (gst tl (R3b B u)):=Weak.genT [some 0,some 1,some 2,some 3,some 4] rfl rfl ⟨_,rfl,rfl,by decide⟩ ⟨gk3 rfl,rk rfl fun x hx=>h 0 x (by decide) hx,rk rfl fun x hx=>h 1 x (by decide) hx,rk rfl fun x hx=>h 2 x (by decide) hx,Rf.boxK rfl rfl,trivial⟩ hl
theorem gp3 {bl:List Blk} {ks:List (Option Nat)} {g:Nat->Nat} {f:Nat->Nat->Cell} {u:Nat} (h:bl[0]? = some ⟨22,1,3,u,0,f⟩) (h0:regC 0 bl ks (.gs (g 0+1) 0) (fun y=>f 0 0=y):=by exact⟨_,rfl,rfl,rfl⟩) (h1:regC 0 bl ks (.gs (g 1+1) 0) (fun y=>f 1 0=y):=by exact⟨_,rfl,rfl,rfl⟩) (h2:regC 0 bl ks (.gs (g 2+1) 0) (fun y=>f 2 0=y):=by exact⟨_,rfl,rfl,rfl⟩):srcG 0 bl ks (gG 3 g) (some 0):=⟨_,h,rfl,rfl,rfl,rfl,cells3 h0 h1 h2⟩
theorem we4 {tm:Nat->V} {A B:Nat->Nat->Rat} {r:List Blk} {tl:List (Nat × V)} (h:∀ b x,b<4->x<4->B b x=A b x) (hl:allP tl fun p=>regV 0 (gb (gG 4 idn) :: gb (gq 4 (A 0)) :: gb (gq 4 (A 1)) :: gb (gq 4 (A 2)) :: gb (gq 4 (A 3)) :: r) [some 0,some 1,some 2,some 3,some 4] (tm p.1) p.2):Weak 1 ⟨tm,gb (gG 4 idn) :: gb (gq 4 (A 0)) :: gb (gq 4 (A 1)) :: gb (gq 4 (A 2)) :: gb (gq 4 (A 3)) :: r⟩ (gst tl (R4 B)):=Weak.genT [some 0,some 1,some 2,some 3,some 4] rfl rfl ⟨_,rfl,rfl,by decide⟩ ⟨gk4 rfl,rk rfl fun x hx=>h 0 x (by decide) hx,rk rfl fun x hx=>h 1 x (by decide) hx,rk rfl fun x hx=>h 2 x (by decide) hx,rk rfl fun x hx=>h 3 x (by decide) hx,trivial⟩ hl
theorem ws4 {tm:Nat->V} {A:Nat->Nat->Rat} {r:List Blk} {tl:List (Nat × V)} (hl:allP tl fun p=>regV 0 (gb (gG 4 idn) :: gb (gq 4 (A 0)) :: gb (gq 4 (A 1)) :: gb (gq 4 (A 2)) :: gb (gq 4 (A 3)) :: r) [some 0,some 1,some 2,some 3,some 4] (tm p.1) p.2):Weak 1 ⟨tm,gb (gG 4 idn) :: gb (gq 4 (A 0)) :: gb (gq 4 (A 1)) :: gb (gq 4 (A 2)) :: gb (gq 4 (A 3)) :: r⟩ (gst tl (R4 A)):=we4 (fun _ _ _ _=>rfl) hl
theorem wbe4 {tm:Nat->V} {A B:Nat->Nat->Rat} {u:Rat} {r:List Blk} {tl:List (Nat × V)} (h:∀ b x,b<4->x<4->B b x=A b x) (hl:allP tl fun p=>regV 0 (gb (gG 4 idn) :: gb (gq 4 (A 0)) :: gb (gq 4 (A 1)) :: gb (gq 4 (A 2)) :: gb (gq 4 (A 3)) :: gb ⟨38,4,1,boxF (nq u)⟩ :: r) [some 0,some 1,some 2,some 3,some 4,some 5] (tm p.1) p.2):Weak 1 ⟨tm,gb (gG 4 idn) :: gb (gq 4 (A 0)) :: gb (gq 4 (A 1)) :: gb (gq 4 (A 2)) :: gb (gq 4 (A 3)) :: gb ⟨38,4,1,boxF (nq u)⟩ :: r⟩ (gst tl (R4b B u)):=Weak.genT [some 0,some 1,some 2,some 3,some 4,some 5] rfl rfl ⟨_,rfl,rfl,by decide⟩ ⟨gk4 rfl,rk rfl fun x hx=>h 0 x (by decide) hx,rk rfl fun x hx=>h 1 x (by decide) hx,rk rfl fun x hx=>h 2 x (by decide) hx,rk rfl fun x hx=>h 3 x (by decide) hx,Rf.boxK rfl rfl,trivial⟩ hl
theorem gp4 {bl:List Blk} {ks:List (Option Nat)} {g:Nat->Nat} {f:Nat->Nat->Cell} {u:Nat} (h:bl[0]? = some ⟨22,1,4,u,0,f⟩) (h0:regC 0 bl ks (.gs (g 0+1) 0) (fun y=>f 0 0=y):=by exact⟨_,rfl,rfl,rfl⟩) (h1:regC 0 bl ks (.gs (g 1+1) 0) (fun y=>f 1 0=y):=by exact⟨_,rfl,rfl,rfl⟩) (h2:regC 0 bl ks (.gs (g 2+1) 0) (fun y=>f 2 0=y):=by exact⟨_,rfl,rfl,rfl⟩) (h3:regC 0 bl ks (.gs (g 3+1) 0) (fun y=>f 3 0=y):=by exact⟨_,rfl,rfl,rfl⟩):srcG 0 bl ks (gG 4 g) (some 0):=⟨_,h,rfl,rfl,rfl,rfl,cells4 h0 h1 h2 h3⟩
theorem we5 {tm:Nat->V} {A B:Nat->Nat->Rat} {r:List Blk} {tl:List (Nat × V)} (h:∀ b x,b<5->x<5->B b x=A b x) (hl:allP tl fun p=>regV 0 (gb (gG 5 idn) :: gb (gq 5 (A 0)) :: gb (gq 5 (A 1)) :: gb (gq 5 (A 2)) :: gb (gq 5 (A 3)) :: gb (gq 5 (A 4)) :: r) [some 0,some 1,some 2,some 3,some 4,some 5] (tm p.1) p.2):Weak 1 ⟨tm,gb (gG 5 idn) :: gb (gq 5 (A 0)) :: gb (gq 5 (A 1)) :: gb (gq 5 (A 2)) :: gb (gq 5 (A 3)) :: gb (gq 5 (A 4)) :: r⟩ (gst tl (R5 B)):=Weak.genT [some 0,some 1,some 2,some 3,some 4,some 5] rfl rfl ⟨_,rfl,rfl,by decide⟩ ⟨gk5 rfl,rk rfl fun x hx=>h 0 x (by decide) hx,rk rfl fun x hx=>h 1 x (by decide) hx,rk rfl fun x hx=>h 2 x (by decide) hx,rk rfl fun x hx=>h 3 x (by decide) hx,rk rfl fun x hx=>h 4 x (by decide) hx,trivial⟩ hl
theorem ws5 {tm:Nat->V} {A:Nat->Nat->Rat} {r:List Blk} {tl:List (Nat × V)} (hl:allP tl fun p=>regV 0 (gb (gG 5 idn) :: gb (gq 5 (A 0)) :: gb (gq 5 (A 1)) :: gb (gq 5 (A 2)) :: gb (gq 5 (A 3)) :: gb (gq 5 (A 4)) :: r) [some 0,some 1,some 2,some 3,some 4,some 5] (tm p.1) p.2):Weak 1 ⟨tm,gb (gG 5 idn) :: gb (gq 5 (A 0)) :: gb (gq 5 (A 1)) :: gb (gq 5 (A 2)) :: gb (gq 5 (A 3)) :: gb (gq 5 (A 4)) :: r⟩ (gst tl (R5 A)):=we5 (fun _ _ _ _=>rfl) hl
theorem wbe5 {tm:Nat->V} {A B:Nat->Nat->Rat} {u:Rat} {r:List Blk} {tl:List (Nat × V)} (h:∀ b x,b<5->x<5->B b x=A b x) (hl:allP tl fun p=>regV 0 (gb (gG 5 idn) :: gb (gq 5 (A 0)) :: gb (gq 5 (A 1)) :: gb (gq 5 (A 2)) :: gb (gq 5 (A 3)) :: gb (gq 5 (A 4)) :: gb ⟨38,4,1,boxF (nq u)⟩ :: r) [some 0,some 1,some 2,some 3,some 4,some 5,some 6] (tm p.1) p.2):Weak 1 ⟨tm,gb (gG 5 idn) :: gb (gq 5 (A 0)) :: gb (gq 5 (A 1)) :: gb (gq 5 (A 2)) :: gb (gq 5 (A 3)) :: gb (gq 5 (A 4)) :: gb ⟨38,4,1,boxF (nq u)⟩ :: r⟩ (gst tl (R5b B u)):=Weak.genT [some 0,some 1,some 2,some 3,some 4,some 5,some 6] rfl rfl ⟨_,rfl,rfl,by decide⟩ ⟨gk5 rfl,rk rfl fun x hx=>h 0 x (by decide) hx,rk rfl fun x hx=>h 1 x (by decide) hx,rk rfl fun x hx=>h 2 x (by decide) hx,rk rfl fun x hx=>h 3 x (by decide) hx,rk rfl fun x hx=>h 4 x (by decide) hx,Rf.boxK rfl rfl,trivial⟩ hl
theorem gp5 {bl:List Blk} {ks:List (Option Nat)} {g:Nat->Nat} {f:Nat->Nat->Cell} {u:Nat} (h:bl[0]? = some ⟨22,1,5,u,0,f⟩) (h0:regC 0 bl ks (.gs (g 0+1) 0) (fun y=>f 0 0=y):=by exact⟨_,rfl,rfl,rfl⟩) (h1:regC 0 bl ks (.gs (g 1+1) 0) (fun y=>f 1 0=y):=by exact⟨_,rfl,rfl,rfl⟩) (h2:regC 0 bl ks (.gs (g 2+1) 0) (fun y=>f 2 0=y):=by exact⟨_,rfl,rfl,rfl⟩) (h3:regC 0 bl ks (.gs (g 3+1) 0) (fun y=>f 3 0=y):=by exact⟨_,rfl,rfl,rfl⟩) (h4:regC 0 bl ks (.gs (g 4+1) 0) (fun y=>f 4 0=y):=by exact⟨_,rfl,rfl,rfl⟩):srcG 0 bl ks (gG 5 g) (some 0):=⟨_,h,rfl,rfl,rfl,rfl,cells5 h0 h1 h2 h3 h4⟩
end Mx
end Go.Proofs.YtkmbnldginonbaaGreat
/- Rows and columns exchanged. -/
set_option maxHeartbeats 64000000
namespace Go.Proofs.YtkmbnldginonbaaGreat
open Go.RowKit
namespace Mx
def xr (M:Nat->Nat->Rat) (i j k b a:Nat):Rat:=if sw i j b<k then M b (sw i j a)else M b a
theorem xr_zero (M:Nat->Nat->Rat) (i j b a:Nat):xr M i j 0 b a=M b a:=if_neg (by omega)
theorem xr_step (M:Nat->Nat->Rat) {i j k b:Nat} (hij:i≠j) (hb:sw i j b=k) (a:Nat):(if a=j then xr M i j k b i else if a=i then xr M i j k b j else xr M i j k b a)=xr M i j (k+1) b a:=by
  have e:∀ x,xr M i j k b x=M b x:=fun x=>if_neg (by omega)
  have e3:xr M i j (k+1) b a=M b (if a=i then j else if a=j then i else a):=if_pos (by omega)
  rw[e,e,e,e3]
  by_cases h1:a=i
  · rw[if_neg (show ¬ a=j by omega),if_pos h1,if_pos h1]
  · rw[if_neg h1,if_neg h1]
    by_cases h2:a=j
    · rw[if_pos h2,if_pos h2]
    · rw[if_neg h2,if_neg h2]
theorem xr_keep (M:Nat->Nat->Rat) {i j k b:Nat} (hb:sw i j b≠k) (a:Nat):xr M i j (k+1) b a=xr M i j k b a:=by
  unfold xr
  by_cases h:sw i j b<k
  · rw[if_pos h,if_pos (by omega)]
  · rw[if_neg h,if_neg (by omega)]
theorem xr_all (M:Nat->Nat->Rat) {i j n a:Nat} (ha:a<n) (x:Nat):xch (sw i j) M a x=xr M i j n (sw i j a) x:=by
  show _=if sw i j (sw i j a)<n then M (sw i j a) (sw i j x)else _
  rw[sw_sw,if_pos ha]
  rfl
theorem xk {q k n i j t b:Nat} {bl:List Blk} {ks:List (Option Nat)} {M:Nat->Nat->Rat} (h:bl[k]? = some ⟨38,4,n,0,0,qlF fun x=>ofR (xr M i j t b x)⟩) (hb:sw i j b≠t:=by exact of_decide_eq_true rfl):srcG q bl ks (gq n (xr M i j (t+1) b)) (some k):=rk h fun x _=>xr_keep M hb x
theorem xz {q k n i j b:Nat} {bl:List Blk} {ks:List (Option Nat)} {M:Nat->Nat->Rat} (h:bl[k]? = some ⟨38,4,n,0,0,qlF fun x=>ofR (M b x)⟩):srcG q bl ks (gq n (xr M i j 0 b)) (some k):=rk h fun x _=>xr_zero M i j b x
theorem xa {q k n i j m b:Nat} {bl:List Blk} {ks:List (Option Nat)} {M:Nat->Nat->Rat} (h:bl[k]? = some ⟨38,4,n,0,0,qlF fun x=>ofR (xr M i j m (sw i j b) x)⟩) (hb:b<m:=by exact of_decide_eq_true rfl):srcG q bl ks (gq n (xch (sw i j) M b)) (some k):=rk h fun x _=>xr_all M hb x
theorem xu {q k n i j t b:Nat} {bl:List Blk} {ks:List (Option Nat)} {M:Nat->Nat->Rat} (h:bl[k]? = some ⟨38,4,n,0,0,updF (updF (qlF fun x=>ofR (xr M i j t b x)) i 0 (nq (xr M i j t b j))) j 0 (nq (xr M i j t b i))⟩) (hij:i≠j:=by exact of_decide_eq_true rfl) (hb:sw i j b=t:=by rfl):srcG q bl ks (gq n (xr M i j (t+1) b)) (some k):=⟨_,h,rfl,rfl,rfl,rfl,fun x _ _ hy=>row_upd2 hy (xr_step M hij hb x)⟩
theorem lets {P:Nat->Prop} {i k:Nat} (h:i=k) (g:let v:=k;P v):P i:=by
  subst h
  exact g
theorem ni {i m:Nat} (e:decide (i<m)=true):i<m:=of_decide_eq_true e
theorem ia {i m:Int} (e:decide (i<m)=true):i<m:=of_decide_eq_true e
theorem ib {i m:Int} (e:decide (i≤m)=true):i≤m:=of_decide_eq_true e
theorem wt {tm:Nat->V} {bl:List Blk} {tl:List (Nat × V)} {xs:List Gx} {ks:List (Option Nat)} (hb:srcsG 0 bl ks ks xs) (hl:allP tl fun p=>regV 0 bl ks (tm p.1) p.2) (hi:injK ks=true:=by rfl) (h0:ks[0]? = some (some 0):=by rfl) (hu:∃ B,bl[0]? = some B/\B.u=0/\B.st≤1:=by exact⟨_,rfl,rfl,Nat.zero_le 1⟩):Weak 1 ⟨tm,bl⟩ (gst tl xs):=Weak.genT ks hi h0 hu hb hl
set_option maxRecDepth 100000 in
theorem exch_3 (M:Nat->Nat->Rat) {i j:Nat} (hij:j<i) (hi:i<3):FnT Tryz.prog true 92 1 ((R3 M).map gb) [.c (.gs 0 0),.c (.int .i64 i),.c (.int .i64 j)] (.c .any) ((R3 (xch (sw i j) M)).map gb):=by
  have e:i=1∨i=2:=by omega
  revert hij hi
  rcases e with e | e <;> (
    apply lets e
    intro i hij hi
    have e:j=0∨j=1:=by omega
    revert hij
    rcases e with e | e <;> (
      apply lets e
      intro j hij
      first
      | exact absurd hij (of_decide_eq_false rfl)
      | (
         clear hij hi
         refine fnt_okS (E:=E1m) E1m_ok Tryz.func92 rfl (by kernel_rfl) ?_
         refine sq ?_
         conv=>whnf
         repeat (refine⟨ib rfl,ia rfl,?_⟩;conv=>whnf)
         refine⟨gst [(0,.c (.gs 0 0)),(1,.c (.int .i64 i)),(2,.c (.int .i64 j))] [gG 3 (sw i j),gq 3 (M 0),gq 3 (M 1),gq 3 (M 2)],wt (ks:=[some 0,some 1,some 2,some 3]) ⟨gp3 rfl,rs rfl,rs rfl,rs rfl,trivial⟩ ⟨⟨_,rfl,rfl,rfl⟩,⟨_,rfl,rfl⟩,⟨_,rfl,rfl⟩,trivial⟩,?_⟩
         refine sq ?_
         conv=>whnf
         refine⟨(fun k:Nat=>gst [(1,.c (.int .i64 i)),(2,.c (.int .i64 j)),(22,.c (.gs 0 0)),(23,.c (.int .i64 3)),(24,.c (.int .i64 (k:Nat)))] [gG 3 (sw i j),gq 3 (xr M i j k 0),gq 3 (xr M i j k 1),gq 3 (xr M i j k 2)]) 0,wt (ks:=[some 0,some 1,some 2,some 3]) ⟨gp3 rfl,xz rfl,xz rfl,xz rfl,trivial⟩ ⟨⟨_,rfl,rfl⟩,⟨_,rfl,rfl⟩,⟨_,rfl,rfl,rfl⟩,⟨_,rfl,rfl⟩,⟨_,rfl,rfl⟩,trivial⟩,?_⟩
         refine swp_block (swp_loop (fun k:Nat=>gst [(1,.c (.int .i64 i)),(2,.c (.int .i64 j)),(22,.c (.gs 0 0)),(23,.c (.int .i64 3)),(24,.c (.int .i64 (k:Nat)))] [gG 3 (sw i j),gq 3 (xr M i j k 0),gq 3 (xr M i j k 1),gq 3 (xr M i j k 2)]) (fun k=>3-k) (fun k=>k≤3) 0 (Weak.refl _) (Nat.zero_le _) fun k hk=>?_)
         rcases Nat.lt_or_ge k 3 with hlt | hge
         rotate_left
         · obtain rfl:k=3:=Nat.le_antisymm hk hge
           refine so ?_
           conv=>whnf
           exact wt (tl:=[(0,.c .any)]) (xs:=R3 (xch (sw i j) M)) (ks:=[some 0,some (sw i j 0+1),some (sw i j 1+1),some (sw i j 2+1)]) ⟨gp3 rfl,xa rfl,xa rfl,xa rfl,trivial⟩ ⟨⟨rfl,rfl⟩,trivial⟩
         have e:k=0∨k=1∨k=2:=by omega
         clear hk hlt
         rcases e with e | e | e <;> (
           apply lets e
           intro k
           have hk:k<3:=ni rfl
           refine so ?_
           conv=>whnf
           repeat (refine⟨by first | exact ib rfl | exact ia rfl | exact ixl rfl,?_⟩;conv=>whnf)
           refine⟨i64_range (by omega) (by omega),?_⟩
           conv=>whnf
           exact⟨k+1,by omega,wt (ks:=[some 0,some 1,some 2,some 3]) ⟨gp3 rfl,by first | exact xk rfl | exact xu rfl,by first | exact xk rfl | exact xu rfl,by first | exact xk rfl | exact xu rfl,trivial⟩ ⟨⟨_,rfl,rfl⟩,⟨_,rfl,rfl⟩,⟨_,rfl,rfl,rfl⟩,⟨_,rfl,rfl⟩,⟨_,rfl,rfl⟩,trivial⟩,hk⟩))))
set_option maxRecDepth 100000 in
theorem exch_4 (M:Nat->Nat->Rat) {i j:Nat} (hij:j<i) (hi:i<4):FnT Tryz.prog true 92 1 ((R4 M).map gb) [.c (.gs 0 0),.c (.int .i64 i),.c (.int .i64 j)] (.c .any) ((R4 (xch (sw i j) M)).map gb):=by
  have e:i=1∨i=2∨i=3:=by omega
  revert hij hi
  rcases e with e | e | e <;> (
    apply lets e
    intro i hij hi
    have e:j=0∨j=1∨j=2:=by omega
    revert hij
    rcases e with e | e | e <;> (
      apply lets e
      intro j hij
      first
      | exact absurd hij (of_decide_eq_false rfl)
      | (
         clear hij hi
         refine fnt_okS (E:=E1m) E1m_ok Tryz.func92 rfl (by kernel_rfl) ?_
         refine sq ?_
         conv=>whnf
         repeat (refine⟨ib rfl,ia rfl,?_⟩;conv=>whnf)
         refine⟨gst [(0,.c (.gs 0 0)),(1,.c (.int .i64 i)),(2,.c (.int .i64 j))] [gG 4 (sw i j),gq 4 (M 0),gq 4 (M 1),gq 4 (M 2),gq 4 (M 3)],wt (ks:=[some 0,some 1,some 2,some 3,some 4]) ⟨gp4 rfl,rs rfl,rs rfl,rs rfl,rs rfl,trivial⟩ ⟨⟨_,rfl,rfl,rfl⟩,⟨_,rfl,rfl⟩,⟨_,rfl,rfl⟩,trivial⟩,?_⟩
         refine sq ?_
         conv=>whnf
         refine⟨(fun k:Nat=>gst [(1,.c (.int .i64 i)),(2,.c (.int .i64 j)),(22,.c (.gs 0 0)),(23,.c (.int .i64 4)),(24,.c (.int .i64 (k:Nat)))] [gG 4 (sw i j),gq 4 (xr M i j k 0),gq 4 (xr M i j k 1),gq 4 (xr M i j k 2),gq 4 (xr M i j k 3)]) 0,wt (ks:=[some 0,some 1,some 2,some 3,some 4]) ⟨gp4 rfl,xz rfl,xz rfl,xz rfl,xz rfl,trivial⟩ ⟨⟨_,rfl,rfl⟩,⟨_,rfl,rfl⟩,⟨_,rfl,rfl,rfl⟩,⟨_,rfl,rfl⟩,⟨_,rfl,rfl⟩,trivial⟩,?_⟩
         refine swp_block (swp_loop (fun k:Nat=>gst [(1,.c (.int .i64 i)),(2,.c (.int .i64 j)),(22,.c (.gs 0 0)),(23,.c (.int .i64 4)),(24,.c (.int .i64 (k:Nat)))] [gG 4 (sw i j),gq 4 (xr M i j k 0),gq 4 (xr M i j k 1),gq 4 (xr M i j k 2),gq 4 (xr M i j k 3)]) (fun k=>4-k) (fun k=>k≤4) 0 (Weak.refl _) (Nat.zero_le _) fun k hk=>?_)
         rcases Nat.lt_or_ge k 4 with hlt | hge
         rotate_left
         · obtain rfl:k=4:=Nat.le_antisymm hk hge
           refine so ?_
           conv=>whnf
           exact wt (tl:=[(0,.c .any)]) (xs:=R4 (xch (sw i j) M)) (ks:=[some 0,some (sw i j 0+1),some (sw i j 1+1),some (sw i j 2+1),some (sw i j 3+1)]) ⟨gp4 rfl,xa rfl,xa rfl,xa rfl,xa rfl,trivial⟩ ⟨⟨rfl,rfl⟩,trivial⟩
         have e:k=0∨k=1∨k=2∨k=3:=by omega
         clear hk hlt
         rcases e with e | e | e | e <;> (
           apply lets e
           intro k
           have hk:k<4:=ni rfl
           refine so ?_
           conv=>whnf
           repeat (refine⟨by first | exact ib rfl | exact ia rfl | exact ixl rfl,?_⟩;conv=>whnf)
           refine⟨i64_range (by omega) (by omega),?_⟩
           conv=>whnf
           exact⟨k+1,by omega,wt (ks:=[some 0,some 1,some 2,some 3,some 4]) ⟨gp4 rfl,by first | exact xk rfl | exact xu rfl,by first | exact xk rfl | exact xu rfl,by first | exact xk rfl | exact xu rfl,by first | exact xk rfl | exact xu rfl,trivial⟩ ⟨⟨_,rfl,rfl⟩,⟨_,rfl,rfl⟩,⟨_,rfl,rfl,rfl⟩,⟨_,rfl,rfl⟩,⟨_,rfl,rfl⟩,trivial⟩,hk⟩))))
set_option maxRecDepth 100000 in
theorem exch_5 (M:Nat->Nat->Rat) {i j:Nat} (hij:j<i) (hi:i<5):FnT Tryz.prog true 92 1 ((R5 M).map gb) [.c (.gs 0 0),.c (.int .i64 i),.c (.int .i64 j)] (.c .any) ((R5 (xch (sw i j) M)).map gb):=by
  have e:i=1∨i=2∨i=3∨i=4:=by omega
  revert hij hi
  rcases e with e | e | e | e <;> (
    apply lets e
    intro i hij hi
    have e:j=0∨j=1∨j=2∨j=3:=by omega
    revert hij
    rcases e with e | e | e | e <;> (
      apply lets e
      intro j hij
      first
      | exact absurd hij (of_decide_eq_false rfl)
      | (
         clear hij hi
         refine fnt_okS (E:=E1m) E1m_ok Tryz.func92 rfl (by kernel_rfl) ?_
         refine sq ?_
         conv=>whnf
         repeat (refine⟨ib rfl,ia rfl,?_⟩;conv=>whnf)
         refine⟨gst [(0,.c (.gs 0 0)),(1,.c (.int .i64 i)),(2,.c (.int .i64 j))] [gG 5 (sw i j),gq 5 (M 0),gq 5 (M 1),gq 5 (M 2),gq 5 (M 3),gq 5 (M 4)],wt (ks:=[some 0,some 1,some 2,some 3,some 4,some 5]) ⟨gp5 rfl,rs rfl,rs rfl,rs rfl,rs rfl,rs rfl,trivial⟩ ⟨⟨_,rfl,rfl,rfl⟩,⟨_,rfl,rfl⟩,⟨_,rfl,rfl⟩,trivial⟩,?_⟩
         refine sq ?_
         conv=>whnf
         refine⟨(fun k:Nat=>gst [(1,.c (.int .i64 i)),(2,.c (.int .i64 j)),(22,.c (.gs 0 0)),(23,.c (.int .i64 5)),(24,.c (.int .i64 (k:Nat)))] [gG 5 (sw i j),gq 5 (xr M i j k 0),gq 5 (xr M i j k 1),gq 5 (xr M i j k 2),gq 5 (xr M i j k 3),gq 5 (xr M i j k 4)]) 0,wt (ks:=[some 0,some 1,some 2,some 3,some 4,some 5]) ⟨gp5 rfl,xz rfl,xz rfl,xz rfl,xz rfl,xz rfl,trivial⟩ ⟨⟨_,rfl,rfl⟩,⟨_,rfl,rfl⟩,⟨_,rfl,rfl,rfl⟩,⟨_,rfl,rfl⟩,⟨_,rfl,rfl⟩,trivial⟩,?_⟩
         refine swp_block (swp_loop (fun k:Nat=>gst [(1,.c (.int .i64 i)),(2,.c (.int .i64 j)),(22,.c (.gs 0 0)),(23,.c (.int .i64 5)),(24,.c (.int .i64 (k:Nat)))] [gG 5 (sw i j),gq 5 (xr M i j k 0),gq 5 (xr M i j k 1),gq 5 (xr M i j k 2),gq 5 (xr M i j k 3),gq 5 (xr M i j k 4)]) (fun k=>5-k) (fun k=>k≤5) 0 (Weak.refl _) (Nat.zero_le _) fun k hk=>?_)
         rcases Nat.lt_or_ge k 5 with hlt | hge
         rotate_left
         · obtain rfl:k=5:=Nat.le_antisymm hk hge
           refine so ?_
           conv=>whnf
           exact wt (tl:=[(0,.c .any)]) (xs:=R5 (xch (sw i j) M)) (ks:=[some 0,some (sw i j 0+1),some (sw i j 1+1),some (sw i j 2+1),some (sw i j 3+1),some (sw i j 4+1)]) ⟨gp5 rfl,xa rfl,xa rfl,xa rfl,xa rfl,xa rfl,trivial⟩ ⟨⟨rfl,rfl⟩,trivial⟩
         have e:k=0∨k=1∨k=2∨k=3∨k=4:=by omega
         clear hk hlt
         rcases e with e | e | e | e | e <;> (
           apply lets e
           intro k
           have hk:k<5:=ni rfl
           refine so ?_
           conv=>whnf
           repeat (refine⟨by first | exact ib rfl | exact ia rfl | exact ixl rfl,?_⟩;conv=>whnf)
           refine⟨i64_range (by omega) (by omega),?_⟩
           conv=>whnf
           exact⟨k+1,by omega,wt (ks:=[some 0,some 1,some 2,some 3,some 4,some 5]) ⟨gp5 rfl,by first | exact xk rfl | exact xu rfl,by first | exact xk rfl | exact xu rfl,by first | exact xk rfl | exact xu rfl,by first | exact xk rfl | exact xu rfl,by first | exact xk rfl | exact xu rfl,trivial⟩ ⟨⟨_,rfl,rfl⟩,⟨_,rfl,rfl⟩,⟨_,rfl,rfl,rfl⟩,⟨_,rfl,rfl⟩,⟨_,rfl,rfl⟩,trivial⟩,hk⟩))))
end Mx
end Go.Proofs.YtkmbnldginonbaaGreat
/- What stands between the steps of the reduction to Hessenberg form; its sizes. -/
namespace Go.Proofs.YtkmbnldginonbaaGreat
open Go.RowKit
namespace Mx
set_option maxHeartbeats 4000000 in
theorem nz_ok {x:Rat} {L:Nat} (h:qlen x≤L) (hL:L+3≤LIM):FnOK Tryz.prog true 47 [.g (nq x)] (.c (.bool (decide (x≠0)))):=by
 have k:=qsign_ok (q:=ofR x) (ofR_fit h) hL
 rw[ofR_val]at k
 refine fn_ok (E:=E1) E1_ok Tryz.func47 rfl mixed (by kernel_rfl) (by kernel_rfl) ?_
 conv=>whnf
 refine⟨_,k,?_⟩
 conv=>whnf
 refine⟨rfl,Sub.bool ?_⟩
 show(!decide (x.num.sign=0))=decide (x≠0)
 by_cases e:x=0
 ·simp[e]
 ·have:¬ x.num.sign=0:=fun h=>e ((rat_sign_zero _).1 h)
  simp[e]
def KB (n L:Nat):Nat:=16^be n (n-1)*L
theorem be_mono (n:Nat) {a b:Nat} (h:a≤b):be n a≤be n b:=by
 induction b with
 | zero=>rw[Nat.le_zero.1 h];exact Nat.le_refl _
 | succ b ih =>
  rcases Nat.lt_or_ge a (b+1)with h1 | h1
  ·refine Nat.le_trans (ih (by omega)) ?_
   show be n b≤if b=0 then 0 else be n b+(n-1-b)
   split
   ·next e=>rw[e];exact Nat.le_refl 0
   ·omega
  ·rw[show a=b+1 by omega];exact Nat.le_refl _
theorem KB_le {n L e:Nat} (h:e≤be n (n-1)):16^e*L≤KB n L:=Nat.mul_le_mul_right L (Nat.pow_le_pow_right (by omega) h)
theorem KB_pos {n L:Nat} (h:1≤L):1≤KB n L:=Nat.mul_le_mul (Nat.pow_pos (by omega)) h
theorem hs_kb {n L:Nat} {A:Nat->Nat->Rat} (h:Bq n L A) (h1:1≤L) {m:Nat} (hm:m+1≤n):Bq n (KB n L) (hs n A m):=fun a b ha hb=>Nat.le_trans (hs_bq h h1 m hm a b ha hb) (KB_le (be_mono n (by omega)))
theorem el_kb {n L:Nat} {A:Nat->Nat->Rat} (h:Bq n L A) (h1:1≤L) {m:Nat} (h0:1≤m) (hm:m+1<n) (hp:pv n (hs n A m) m<n) {t:Nat} (ht:m+t<n):Bq n (KB n L) (el m (xch (sw (pv n (hs n A m) m) m) (hs n A m)) t):=fun a b ha hb=>by
 have h2:=hs_bq h h1 m (by omega)
 have h3:=xch_bq (s:=sw (pv n (hs n A m) m) m) h2 fun a ha=>sw_lt hp (by omega) ha
 have h4:1≤16^be n m*L:=Nat.mul_le_mul (Nat.pow_pos (by omega)) h1
 have h5:=el_bq (m:=m) h3 h4 t ht a b ha hb
 refine Nat.le_trans h5 ?_
 rw[← Nat.mul_assoc,← Nat.pow_add]
 refine KB_le ?_
 have h6:be n (m+1)≤be n (n-1):=be_mono n (by omega)
 have h7:be n (m+1)=be n m+(n-1-m):=if_neg (by omega)
 omega
theorem el_piv {n:Nat} {A:Nat->Nat->Rat} {m:Nat} (h0:1≤m) (hm:m+1<n) (hp:pv n A m<n) (t:Nat):el m (xch (sw (pv n A m) m) A) t m (m-1)≠0:=by
 obtain⟨p1,p2,p3,p4⟩:=pv_spec n A (show m≤n by omega)
 have e:∀(B:Nat->Nat->Rat) (i:Nat),i≠m->el1 m i B m (m-1)=B m (m-1):=fun B i hi=>by
  unfold el1
  split
  ·rfl
  ·show ca _ i m (ra _ i m B) m (m-1)=_
   unfold ca
   rw[if_neg (by omega)]
   unfold ra
   rw[if_neg fun e=>hi e.symm]
 have key:∀ t,el m (xch (sw (pv n A m) m) A) t m (m-1)=xch (sw (pv n A m) m) A m (m-1):=by
  intro t
  induction t with
  | zero=>rfl
  | succ t ih =>
   show el1 m (m+1+t) (el m _ t) m (m-1)=_
   rw[e _ _ (by omega),ih]
 rw[key t]
 show A (sw (pv n A m) m m) (sw (pv n A m) m (m-1))≠0
 have e1:sw (pv n A m) m m=pv n A m:=by
  unfold sw
  split
  ·omega
  ·rw[if_pos rfl]
 have e2:sw (pv n A m) m (m-1)=m-1:=by
  unfold sw
  rw[if_neg (by omega),if_neg (by omega)]
 rw[e1,e2]
 exact p4 hp
theorem stp_none {n m:Nat} {A:Nat->Nat->Rat} (h:pv n A m=n) (a b:Nat):stp n m A a b=A a b:=by
 unfold stp
 rw[if_pos h]
theorem stp_some {n m P:Nat} {A:Nat->Nat->Rat} (h:pv n A m=P) (hP:P<n) (a b:Nat):stp n m A a b=el m (xch (sw P m) A) (n-1-m) a b:=by
 unfold stp
 rw[if_neg (by omega),h]
theorem xch_self {m:Nat} (A:Nat->Nat->Rat) (a b:Nat):xch (sw m m) A a b=A a b:=by
 have e:∀ x,sw m m x=x:=fun x=>by
  unfold sw
  by_cases h:x=m
  ·rw[if_pos h,h]
  ·rw[if_neg h,if_neg h]
 show A (sw m m a) (sw m m b)=_
 rw[e,e]
theorem el1_zero {m i:Nat} {A:Nat->Nat->Rat} (h:A i (m-1)=0) (a b:Nat):el1 m i A a b=A a b:=by
 unfold el1
 rw[if_pos h]
theorem el1_some {m i:Nat} {A:Nat->Nat->Rat} {u:Rat} (h:¬ A i (m-1)=0) (hu:A i (m-1) / A m (m-1)=u) (a b:Nat):el1 m i A a b=ca u i m (ra u i m A) a b:=by
 unfold el1
 rw[if_neg h,hu]
def md1 (u:Rat) (i m:Nat) (A:Nat->Nat->Rat) (j a x:Nat):Rat:=if a=i/\x<j then A a x-u*A m x else A a x
theorem md1_zero (u:Rat) (i m:Nat) (A:Nat->Nat->Rat) (a x:Nat):md1 u i m A 0 a x=A a x:=if_neg (by omega)
theorem md1_all (u:Rat) (i m:Nat) (A:Nat->Nat->Rat) {n x:Nat} (hx:x<n) (a:Nat):ra u i m A a x=md1 u i m A n a x:=by
 unfold ra md1
 by_cases h:a=i
 ·rw[if_pos h,if_pos ⟨h,hx⟩]
 ·rw[if_neg h,if_neg fun e=>h e.1]
theorem md1_old (u:Rat) (i m:Nat) (A:Nat->Nat->Rat) (j:Nat):md1 u i m A j i j=A i j:=if_neg (by omega)
theorem md1_m (u:Rat) {i m:Nat} (h:m≠i) (A:Nat->Nat->Rat) (j x:Nat):md1 u i m A j m x=A m x:=if_neg fun e=>h e.1
theorem md1_step (u:Rat) (i m:Nat) (A:Nat->Nat->Rat) (j x:Nat):(if x=j then A i j-u*A m j else md1 u i m A j i x)=md1 u i m A (j+1) i x:=by
 unfold md1
 by_cases h:x=j
 ·rw[if_pos h,if_pos ⟨rfl,by omega⟩,h]
 ·rw[if_neg h]
  by_cases h2:x<j
  ·rw[if_pos ⟨rfl,h2⟩,if_pos ⟨rfl,by omega⟩]
  ·rw[if_neg fun e=>h2 e.2,if_neg fun e=>h (by omega)]
theorem md1_keep (u:Rat) {i m a:Nat} (h:a≠i) (A:Nat->Nat->Rat) (j x:Nat):md1 u i m A (j+1) a x=md1 u i m A j a x:=by
 unfold md1
 rw[if_neg fun e=>h e.1,if_neg fun e=>h e.1]
def md2 (u:Rat) (i m:Nat) (B:Nat->Nat->Rat) (j a x:Nat):Rat:=if a<j then ca u i m B a x else B a x
theorem md2_zero (u:Rat) (i m:Nat) (B:Nat->Nat->Rat) (a x:Nat):md2 u i m B 0 a x=B a x:=if_neg (by omega)
theorem md2_all (u:Rat) (i m:Nat) (B:Nat->Nat->Rat) {n a:Nat} (ha:a<n) (x:Nat):ca u i m B a x=md2 u i m B n a x:=(if_pos ha).symm
theorem md2_old (u:Rat) (i m:Nat) (B:Nat->Nat->Rat) (j x:Nat):md2 u i m B j j x=B j x:=if_neg (by omega)
theorem md2_step (u:Rat) (i m:Nat) (B:Nat->Nat->Rat) (j x:Nat):(if x=m then B j m+u*B j i else md2 u i m B j j x)=md2 u i m B (j+1) j x:=by
 rw[md2_old]
 have e:md2 u i m B (j+1) j x=ca u i m B j x:=if_pos (by omega)
 rw[e]
 unfold ca
 by_cases h:x=m
 ·rw[if_pos h,if_pos h,h]
 ·rw[if_neg h,if_neg h]
theorem md2_keep (u:Rat) {i m j a:Nat} (h:a≠j) (B:Nat->Nat->Rat) (x:Nat):md2 u i m B (j+1) a x=md2 u i m B j a x:=by
 unfold md2
 by_cases h1:a<j
 ·rw[if_pos h1,if_pos (by omega)]
 ·rw[if_neg h1,if_neg (by omega)]
theorem hs_succ (n:Nat) (M:Nat->Nat->Rat) {m:Nat} (h:1≤m):hs n M (m+1)=stp n m (hs n M m):=if_neg (by omega)
theorem mk1 {q k n i m t b:Nat} {u:Rat} {bl:List Blk} {ks:List (Option Nat)} {A:Nat->Nat->Rat} (h:bl[k]? = some ⟨38,4,n,0,0,qlF fun x=>ofR (md1 u i m A t b x)⟩) (hb:b≠i:=by exact of_decide_eq_true rfl):srcG q bl ks (gq n (md1 u i m A (t+1) b)) (some k):=rk h fun x _=>md1_keep u hb A t x
theorem mu1 {q k n i m t:Nat} {u:Rat} {bl:List Blk} {ks:List (Option Nat)} {A:Nat->Nat->Rat} (h:bl[k]? = some ⟨38,4,n,0,0,updF (qlF fun x=>ofR (md1 u i m A t i x)) t 0 (nq (A i t-u*A m t))⟩):srcG q bl ks (gq n (md1 u i m A (t+1) i)) (some k):=ru h fun x=>md1_step u i m A t x
theorem mk2 {q k n i m t b:Nat} {u:Rat} {bl:List Blk} {ks:List (Option Nat)} {A:Nat->Nat->Rat} (h:bl[k]? = some ⟨38,4,n,0,0,qlF fun x=>ofR (md2 u i m A t b x)⟩) (hb:b≠t:=by exact of_decide_eq_true rfl):srcG q bl ks (gq n (md2 u i m A (t+1) b)) (some k):=rk h fun x _=>md2_keep u hb A x
theorem mu2 {q k n i m t:Nat} {u:Rat} {bl:List Blk} {ks:List (Option Nat)} {A:Nat->Nat->Rat} (h:bl[k]? = some ⟨38,4,n,0,0,updF (qlF fun x=>ofR (md2 u i m A t t x)) m 0 (nq (A t m+u*A t i))⟩):srcG q bl ks (gq n (md2 u i m A (t+1) t)) (some k):=ru h fun x=>md2_step u i m A t x
theorem ra_kb {n K:Nat} {A:Nat->Nat->Rat} {u:Rat} {i m:Nat} (h:Bq n K A) (hu:qlen u≤2*K) (hm:m<n) (h1:1≤K):Bq n (5*K) (ra u i m A):=fun a b ha hb=>Nat.le_trans (ra_bq (i:=i) h hu hm h1 a b ha hb) (by omega)
/-! Places that a call below does not see. -/
theorem lt_asg {m:Nat} {tl:List (Nat × V)} (h:allP tl fun p=>p.2.lt m=true) (t:Nat):(asg tl t).lt m=true:=by
 rcases asg_mem tl t with e | e
 ·rw[e];rfl
 ·exact allP_mem h _ e
theorem lt_put {m:Nat} {σ:St} {d:Option Nat} {v:V} (h:∀ t,(σ.tm t).lt m=true) (hv:v.lt m=true) (t:Nat):((σ.put d v).tm t).lt m=true:=by
 cases d with
 | none=>exact h t
 | some d =>
  show(if t=d then v else σ.tm t).lt m=true
  split
  ·exact hv
  ·exact h t
theorem live_all {xs:List Gx}:∀ B∈xs.map gb,B.st=0∨2≤B.st:=fun B hB=>by
 obtain⟨x,_,rfl⟩:=List.mem_map.1 hB
 exact .inl rfl
end Mx
end Go.Proofs.YtkmbnldginonbaaGreat
/- qpoly.Scale; charpoly.one and charpoly.shift. -/
set_option maxHeartbeats 4000000
namespace Go.Proofs.YtkmbnldginonbaaGreat
open Go.RowKit
namespace Rf
theorem qscale1_ok {q x:RawR} {L L':Nat} (hq:q.Fit L) (hx:x.Fit L') (hL:L+L'+3≤LIM):FnOK Tryz.prog true 95 [.g (rr q),.g zcells,.c (.xp 4 fun j=>boxF (rr x) 0 (0+j))] (.g (nq (q.val*x.val))):=by
 have h:=qmul_ok hq hx hL
 refine fn_ok (E:=E1) E1_ok Tryz.func95 rfl mixed (by kernel_rfl) (by kernel_rfl) ?_
 conv=>whnf
 refine⟨_,h,?_⟩
 conv=>whnf
 exact⟨rfl,Sub.refl _⟩
theorem qpScale_ok {n:Nat} {q:Nat->RawR} {x:RawR} {z:Nat->Rat} {L L':Nat} (hn:n≤1048576) (hq:∀ a,a<n->(q a).Fit L) (hx:x.Fit L') (hL:L+L'+3≤LIM) (hz:∀ a,a<n->(q a).val*x.val=z a):FnOK Tryz.prog true 44 [.c (ql n q),.g (rr x)] (.c (nql (Q.tq z n) z)):=by
 have h0:=merge_scale (q:=q) (z:=z) (u:=fun j=>boxF (rr x) 0 (0+j)) hn fun a ha=>by
  rw[← hz a ha]
  exact qscale1_ok (hq a ha) hx hL
 have h:=fun(g:Nat->Cell) (hg:g 0 = .xp 4 fun j=>boxF (rr x) 0 (0+j))=>cap_weak (g:=g) h0 hg
 clear hq hz hx
 refine fn_ok (E:=E1) E1_ok Tryz.func44 rfl mixed (by kernel_rfl) (by kernel_rfl) ?_
 conv=>whnf
 refine⟨fun i j hi hj=>box_clos (l:=rr x) (i:=i) (j:=j) rfl,?_⟩
 conv=>whnf
 refine⟨_,h _ rfl,?_⟩
 conv=>whnf
 exact⟨rfl,Sub.refl _⟩
end Rf
namespace Mx
open Rf
theorem row1_clos {x:Rat} {i j:Nat} (hi:i<1) (hj:j<4):(rowF 4 (nq x) i j).clos=true:=by
 obtain rfl:i=0:=by omega
 match j,hj with
 | 0,_=>rfl
 | 1,_=>rfl
 | 2,_=>rfl
 | 3,_=>rfl
theorem row1_eq {x:Rat} {v:Nat->Rat} {i j:Nat} (hi:i<1) (h:v 0=x):rowF 4 (nq x) i j=qlF (fun j=>ofR (v j)) i j:=by
 obtain rfl:i=0:=by omega
 unfold rowF
 rw[Nat.zero_mul,Nat.zero_add,← h]
theorem xs_app (v:Nat->Rat) (i j:Nat):appF 1 (rowF 4 (nq 0)) (qlF fun j=>ofR (v j)) i j=qlF (fun j=>ofR (if 1≤j then v (j-1)else 0)) i j:=by
 unfold appF
 by_cases h:i<1
 ·rw[if_pos h]
  exact row1_eq h (if_neg (by omega))
 ·rw[if_neg h]
  show(rr (ofR (v (i-1)))).getD j .any=(rr (ofR (if 1≤i then v (i-1)else 0))).getD j .any
  rw[if_pos (by omega)]
theorem q1_ok:FnOK Tryz.prog true 45 [.c (.int .i64 1)] (.g (nq 1)):=by
 have:=qof_ok (n:=1) (by omega) (by omega)
 exact this
theorem one_ok:FnOK Tryz.prog true 41 [] (.c (nql 1 fun _=>1)):=by
 have k:=q1_ok
 refine fn_ok (E:=E1) E1_ok Tryz.func41 rfl mixed (by kernel_rfl) (by kernel_rfl) ?_
 conv=>whnf
 refine⟨_,k,?_⟩
 conv=>whnf
 refine⟨fun i j hi hj=>row1_clos (x:=1) hi hj,?_⟩
 conv=>whnf
 exact⟨rfl,subRowG rfl fun i j hi _=>row1_eq hi rfl⟩
def xs (v:Nat->Rat) (j:Nat):Rat:=if 1≤j then v (j-1)else 0
theorem shift_ok {n:Nat} {v:Nat->Rat} {L:Nat} (hn:n≤1000) (h:∀ i,i<n->qlen (v i)≤L) (h1:1≤L) (hL:L+3≤LIM):FnOK Tryz.prog true 43 [.c (nql n v)] (.c (nql (Q.tq (xs v) (n+1)) (xs v))):=by
 have k0:FnOK Tryz.prog true 45 [.c (.int .i64 0)] (.g (nq 0)):=qof0
 have k:=Rf.arg_ok (qnorm_ok (n:=n+1) (q:=fun i=>ofR (xs v i)) (L:=L) (v:=xs v) (funext fun i=>ofR_val _) (by omega) (fun i hi=>ofR_fit (by
  unfold xs
  split
  ·exact h _ (by omega)
  ·exact Nat.le_trans q_zero h1)) hL) (args':=[.c (.row 4 (1+n) (appF 1 (rowF 4 (nq 0)) (qlF fun j=>ofR (v j))))]) fun D w vs h=>by
   match vs,h with
   | [v1],⟨h1,_⟩=>exact⟨subRowG (by omega) (fun a b _ _=>xs_app v a b) D w v1 h1,trivial⟩
 refine fn_ok (E:=E1) E1_ok Tryz.func43 rfl mixed (by kernel_rfl) (by kernel_rfl) ?_
 conv=>whnf
 refine⟨_,k0,?_⟩
 conv=>whnf
 refine⟨by show 1+n≤16777216;omega,fun a b _ hb=>one_ql (c:=fun i=>ofR (v i)) true a b hb,?_⟩
 conv=>whnf
 refine .inr ⟨fun a b ha hb=>?_,?_⟩
 ·exact(congrArg Cell.clos (xs_app v a b)).trans (q_clos _ a b)
 conv=>whnf
 refine⟨_,k,?_⟩
 conv=>whnf
 exact⟨rfl,Sub.refl _⟩
theorem scale_step {m:Nat} {F:Nat->Rat} {w:Rat} {L L':Nat} (hm:m≤1000) (hF:∀ i,i<m->qlen (F i)≤L) (hw:qlen w≤L') (hL:L+L'+3≤LIM):FnOK Tryz.prog true 44 [.c (nql m F),.g (nq w)] (.c (nql (Q.tq (fun i=>F i*w) m) fun i=>F i*w)) :=
 qpScale_ok (x:=ofR w) (z:=fun i=>F i*w) (by omega) (fun i hi=>ofR_fit (hF i hi)) (ofR_fit hw) hL fun i _=>by rw[ofR_val,ofR_val]
theorem sub_step {m N:Nat} {F Z v:Nat->Rat} {L:Nat} (hm:m≤N) (hN:1≤N) (hN2:N≤1000) (hF:∀ i,i<N->qlen (F i)≤L) (hZ:∀ i,i<m->qlen (Z i)≤L) (h1:1≤L) (hL:L+L+4≤LIM) (h0:∀ i,m≤i->Z i=0) (hv:∀ i,i<N->F i-Z i=v i) (ht:v (N-1)≠0):FnOK Tryz.prog true 42 [.c (nql N F),.c (nql (Q.tq Z m) Z)] (.c (nql N v)):=by
 have hT:=Q.tq_le Z m
 have h:=qpSub_ok (n:=N) (m:=Q.tq Z m) (q:=fun i=>ofR (F i)) (p:=fun i=>ofR (Z i)) (L:=L) (v:=v) (fun i hi=>by
  have e1:Q.qx N (fun i=>(ofR (F i)).val) i=F i:=by rw[Q.qx_lt (by omega),ofR_val]
  have e2:Q.qx (Q.tq Z m) (fun i=>(ofR (Z i)).val) i=Z i:=by
   unfold Q.qx
   split
   ·exact ofR_val _
   ·next hlt =>
    rcases Nat.lt_or_ge i m with h3 | h3
    ·exact(Q.tq_behind (Nat.le_of_not_lt hlt) h3).symm
    ·exact(h0 i h3).symm
  rw[e1,e2]
  exact hv i (by omega)) (by omega) (by omega) (fun i hi=>ofR_fit (hF i hi)) (fun i hi=>ofR_fit (hZ i (by omega))) h1 hL
 rw[show max N (Q.tq Z m)=N by omega,Q.tq_self (v:=v) (n:=N) (fun k hk=>by rw[show k=N-1 by omega];exact ht)]at h
 exact h
theorem shift_step {n:Nat} {v:Nat->Rat} {L:Nat} (hn:n≤999) (h:∀ i,i<n+1->qlen (v i)≤L) (h1:1≤L) (hL:L+3≤LIM) (ht:v n≠0):FnOK Tryz.prog true 43 [.c (nql (n+1) v)] (.c (nql (n+2) (xs v))):=by
 have k:=shift_ok (n:=n+1) (by omega) h h1 hL
 rwa [Q.tq_self (v:=xs v) (n:=n+1+1) (fun k hk=>by
  obtain rfl:k=n+1:=by omega
  show(if 1≤n+1 then v (n+1-1)else 0)≠0
  rw[if_pos (by omega),Nat.add_sub_cancel]
  exact ht)]at k
end Mx
end Go.Proofs.YtkmbnldginonbaaGreat
/- A Hessenberg matrix that splits: its polynomial is the product of those of its blocks. Plain: no program. -/
namespace Go.Proofs.YtkmbnldginonbaaGreat
open Crg Pol
namespace Mx
section
variable {R:Type} [Crg R]
theorem C_nil:(C (0:R))=0:=Pol.ext fun i=>by
 show(if i=0 then(0:R)else 0)=0
 split <;> rfl
theorem hp_split {W:Nat->Nat->R} {k:Nat} (h:∀ i j,i<k->k≤j->W i j=0):∀ m l,l≤m->hp W (k+l)=hp W k*hp (fun i j=>W (k+i) (k+j)) l:=by
 intro m
 induction m with
 | zero =>
  intro l hl
  obtain rfl:l=0:=by omega
  exact(mul_one _).symm
 | succ m ih =>
  intro l hl
  rcases Nat.lt_or_ge l (m+1)with h1 | h1
  ·exact ih l (by omega)
  obtain rfl:l=m+1:=by omega
  show hp W (k+m+1)=_
  rw[hp_succ,hp_succ,show k+m+1=k+(m+1)from rfl,sm_split,sm_zero (n:=k) fun i hi=>by rw[h i (k+m) hi (by omega),C_nil,zero_mul],zero_add,ih m (Nat.le_refl m),sm_congr (n:=m+1) fun i hi=>by rw[ih i (by omega)],sm_congr (n:=m+1) (g:=fun i=>hp W k*(C (W (k+i) (k+m))*hp (fun i j=>W (k+i) (k+j)) i)) fun i hi=>mul_left_comm _ _ _,← mul_sm]
  exact RE.eq [X,hp W k,hp (fun i j=>W (k+i) (k+j)) m,sm (fun i=>C (W (k+i) (k+m))*hp (fun i j=>W (k+i) (k+j)) i) (m+1)] (t0*(t1*t2)-t1*t3) (t1*(t0*t2-t3)) rfl
theorem dd_split {H : Nat → Nat → R} {k : Nat} (h0 : H (k + 1) k = 0) {i : Nat} (hi : i ≤ k) : ∀ j, k + 1 ≤ j → dd H i j = 0
 | 0,hj=>absurd hj (by omega)
 | j+1,hj=>by
  rw[dd_succ H (show i≤j by omega)]
  rcases Nat.lt_or_ge k j with h | h
  ·rw[dd_split h0 hi j (by omega),zero_mul]
  ·obtain rfl:j=k:=by omega
   rw[h0,mul_zero]
theorem dd_shift (H : Nat → Nat → R) (k i : Nat) : ∀ j, dd H (k + i) (k + j) = dd (fun a b => H (k + a) (k + b)) i j
 | 0=>by
  by_cases h:i=0
  ·obtain rfl:=h
   exact(dd_self H k).trans (dd_self _ 0).symm
  ·cases k with
   | zero=>simp only[Nat.zero_add]
   | succ k =>
    show(if k+1+i≤k then _ else 1)=(1:R)
    rw[if_neg (by omega)]
 | j+1=>by
  by_cases h:i≤j
  ·rw[dd_succ _ h,← dd_shift H k i j]
   exact dd_succ H (show k+i≤k+j by omega)
  ·show(if k+i≤k+j then _ else 1)=(if i≤j then _ else(1:R))
   rw[if_neg (by omega),if_neg h]
theorem hp_blocks {H:Nat->Nat->R} {k:Nat} (h0:H (k+1) k=0) (l:Nat):hp (wd H) (k+1+l)=hp (wd H) (k+1)*hp (wd fun i j=>H (k+1+i) (k+1+j)) l:=by
 rw[hp_split (W:=wd H) (k:=k+1) (fun i j hi hj=>by rw[show wd H i j=dd H i j*H i j from rfl,dd_split h0 (by omega) j hj,zero_mul]) l l (Nat.le_refl l)]
 have e:(fun i j=>wd H (k+1+i) (k+1+j))=wd fun i j=>H (k+1+i) (k+1+j):=by
  funext i j
  show dd H (k+1+i) (k+1+j)*_=dd _ i j*_
  rw[dd_shift]
 rw[e]
end
end Mx
end Go.Proofs.YtkmbnldginonbaaGreat
/- Polynomials at a matrix; what takes a cyclic matrix's first unit vector to 0 is divisible by its polynomial. Plain: no program. -/
namespace Go.Proofs.YtkmbnldginonbaaGreat
open Crg Pol
namespace Mx
section
variable {K:Type} [Fld K] {n:Nat} {A:Nat->Nat->K}
noncomputable def evm (n:Nat) (A:Nat->Nat->K) (g:Pol K) (i j:Nat):K:=sm (fun t=>g.f t*mpw n A t i j) g.len
theorem evm_of {g:Pol K} {N:Nat} (h:g.len≤N) (i j:Nat):evm n A g i j=sm (fun t=>g.f t*mpw n A t i j) N:=(sm_more (fun t ht=>by rw[len_out g t ht,zero_mul]) h).symm
theorem evm_zero (i j:Nat):evm n A 0 i j=0:=by
 unfold evm
 rw[len_zero]
 rfl
theorem evm_add (g h:Pol K) (i j:Nat):evm n A (g+h) i j=evm n A g i j+evm n A h i j:=by
 rw[evm_of (len_add g h),evm_of (Nat.le_max_left g.len h.len),evm_of (Nat.le_max_right g.len h.len),← sm_add]
 exact sm_congr fun t _=>by rw[f_add,add_mul]
theorem evm_mn (c:K) (k i j:Nat):evm n A (mn c k) i j=c*mpw n A k i j:=by
 rw[evm_of (len_mn c k),sm_one (k:=k) (by omega) fun t _ ht=>by rw[show(mn c k:Pol K).f t=0 from if_neg ht,zero_mul],show(mn c k:Pol K).f k=c from if_pos rfl]
theorem evm_shift (c:K) (k:Nat) (g:Pol K) {i j:Nat} (hi:i<n) (hj:j<n):evm n A (mn c k*g) i j=c*mm n (mpw n A k) (evm n A g) i j:=by
 have e:mm n (mpw n A k) (evm n A g) i j=sm (fun t=>mm n (mpw n A k) (fun a b=>g.f t*mpw n A t a b) i j) g.len:=mm_sm (fun t a b=>g.f t*mpw n A t a b) g.len i j
 rw[evm_of (N:=k+g.len) (len_le fun t ht=>by rw[mn_mul,if_pos (by omega),len_out g _ (by omega),mul_zero]),sm_split,sm_zero (n:=k) fun t ht=>by rw[mn_mul,if_neg (by omega),zero_mul],zero_add,e,mul_sm]
 refine sm_congr fun t _=>?_
 rw[mn_mul,if_pos (by omega),show k+t-k=t by omega,mm_sc,mpw_add A k t i j hi hj,mul_assoc]
theorem mm_add (B C D:Nat->Nat->K) (i j:Nat):mm n (fun a b=>B a b+C a b) D i j=mm n B D i j+mm n C D i j:=by
 unfold mm
 rw[← sm_add]
 exact sm_congr fun a _=>add_mul _ _ _
theorem evm_mul (h : Pol K) : ∀ (N : Nat) (g : Pol K), g.len ≤ N → Eqn n (evm n A (g * h)) (mm n (evm n A g) (evm n A h))
 | 0,g,hg,i,j,_,_=>by
  obtain rfl:=len_nil (Nat.le_zero.1 hg)
  rw[zero_mul,evm_zero]
  exact(sm_zero fun a _=>by rw[evm_zero,zero_mul]).symm
 | N+1,g,hg,i,j,hi,hj=>by
  have e:g=(g-mn (g.f N) N)+mn (g.f N) N:=RE.eq [g,mn (g.f N) N] t0 (t0-t1+t1) rfl
  have hl:(g-mn (g.f N) N).len≤N:=len_le fun t ht=>by
   rw[f_sub]
   rcases Nat.lt_or_ge N t with h1 | h1
   ·rw[len_out g t (by omega),show(mn (g.f N) N:Pol K).f t=0 from if_neg (by omega),sub_self]
   ·obtain rfl:t=N:=by omega
    rw[show(mn (g.f t) t:Pol K).f t=g.f t from if_pos rfl,sub_self]
  have k1:=evm_mul h N _ hl i j hi hj
  generalize g.f N=c at *
  generalize g-mn c N=g1 at *
  subst e
  rw[add_mul,evm_add,k1,evm_shift c N h hi hj]
  have e2:mm n (evm n A (g1+mn c N)) (evm n A h) i j=mm n (fun a b=>evm n A g1 a b+c*mpw n A N a b) (evm n A h) i j:=sm_congr fun a _=>by rw[evm_add,evm_mn]
  rw[e2,mm_add]
  congr 1
  unfold mm
  rw[mul_sm]
  exact sm_congr fun a _=>(mul_assoc _ _ _).symm
theorem hp_len (W:Nat->Nat->K) (n:Nat):(hp W n).len=n+1:=len_eq (fun j hj=>(hp_deg W n).1 j (by omega)) (by rw[(hp_deg W n).2];exact Fld.one_ne)
theorem cyc_dvs {W:Nat->Nat->K} {g:Pol K} (h:∀ j,j<n->evm n (um W) g j 0=0):Dvs (hp W n) g:=by
 obtain⟨q,r,e,hr⟩:=div_ex g (b:=hp W n) (ne_of_len (by rw[hp_len];omega))
 rw[hp_len]at hr
 have hq:∀ j,j<n->evm n (um W) (q*hp W n) j 0=0:=fun j hj=>by
  rw[evm_mul (hp W n) q.len q (Nat.le_refl _) j 0 hj (by omega)]
  refine sm_zero fun a ha=>?_
  have:=root_um W n a 0 ha (by omega)
  rw[evm_of (N:=n+1) (by rw[hp_len];exact Nat.le_refl _) a 0]
  rw[show sm (fun t=>(hp W n).f t*mpw n (um W) t a 0) (n+1)=0 from this,mul_zero]
 have hz:∀ j,j<n->sm (fun t=>r.f t*sv n W j t) n=0:=fun j hj=>by
  have:=h j hj
  rw[e,evm_add,hq j hj,zero_add,evm_of (N:=n) (by omega) j 0]at this
  exact this
 have r0:r=0:=ext fun j=>by
  rcases Nat.lt_or_ge j n with hj | hj
  ·have k1:sm (fun a=>tm W j a*sm (fun t=>r.f t*sv n W a t) n) n=0:=sm_zero fun a ha=>by rw[hz a ha,mul_zero]
   rw[sm_congr fun a _=>mul_sm (tm W j a) (fun t=>r.f t*sv n W a t) n,sm_swap]at k1
   rw[sm_congr (g:=fun t=>r.f t*mI j t) fun t ht=>by
    rw[← tm_sv W n j t hj ht]
    unfold mm
    rw[mul_sm]
    exact sm_congr fun a _=>mul_left_comm _ _ _]at k1
   rw[sm_one (k:=j) hj fun t _ ht=>by rw[show(mI j t:K)=0 from if_neg fun x=>ht x.symm,mul_zero],show(mI j j:K)=1 from if_pos rfl,mul_one]at k1
   exact k1
  ·exact len_out r j (by omega)
 rw[e,r0,add_zero]
 exact⟨q,mul_comm _ _⟩
end
end Mx
end Go.Proofs.YtkmbnldginonbaaGreat
/- Annihilators of vectors by reduced vectors of a sequence: plain, over any field. No program. -/
namespace Go.Proofs.YtkmbnldginonbaaGreat
open Crg Pol
namespace Mx
section
variable {K:Type} [Fld K]
def av (n : Nat) (A : Nat → Nat → K) (v : Nat → K) : Nat → Nat → K
 | 0=>v
 | r+1=>fun j=>sm (fun i=>av n A v r i*A i j) n
structure Kn (K : Type) where
 v:Nat->K
 p:Nat
 q:Nat->K
def rdst (s:(Nat->K) × (Nat->K)) (k:Kn K):(Nat->K) × (Nat->K):=(fun j=>s.1 j-s.1 k.p*k.v j,fun j=>s.2 j-k.q j*s.1 k.p)
def xpn (r j:Nat):K:=if j=r then 1 else 0
def rdw (n : Nat) (A : Nat → Nat → K) (v : Nat → K) (kn : Nat → Kn K) (r : Nat) : Nat → (Nat → K) × (Nat → K)
 | 0=>(av n A v r,xpn r)
 | i+1=>rdst (rdw n A v kn r i) (kn i)
theorem rdw_congr {n : Nat} {A : Nat → Nat → K} {v : Nat → K} {k l : Nat → Kn K} (r : Nat) : ∀ m, (∀ i, i < m → k i = l i) → rdw n A v k r m = rdw n A v l r m
 | 0,_=>rfl
 | m+1,h=>by
  show rdst (rdw n A v k r m) (k m)=rdst (rdw n A v l r m) (l m)
  rw[rdw_congr r m fun i hi=>h i (by omega),h m (by omega)]
theorem ex_kn (n:Nat) (A:Nat->Nat->K) (v:Nat->K) (mk:(Nat->K) × (Nat->K)->Kn K):∃ kn:Nat->Kn K,∀ r,kn r=mk (rdw n A v kn r r):=by
 let kf:Nat->Nat->Kn K:=fun r=>Nat.rec (fun _=>⟨fun _=>0,0,fun _=>0⟩) (fun r k i=>if i=r then mk (rdw n A v k r r)else k i) r
 have h1:∀ r,kf (r+1) r=mk (rdw n A v (kf r) r r):=fun r=>if_pos rfl
 have h2:∀ r i,i<r->kf r i=kf (i+1) i:=by
  intro r
  induction r with
  | zero=>intro i hi;omega
  | succ r ih =>
   intro i hi
   rcases Nat.lt_or_ge i r with h | h
   ·have e:kf (r+1) i=kf r i:=if_neg (by omega)
    rw[e,ih i h]
   ·rw[show i=r by omega]
 refine⟨fun i=>kf (i+1) i,fun r=>?_⟩
 show kf (r+1) r=_
 rw[h1,rdw_congr r r fun i hi=>h2 r i hi]
structure Kns (n : Nat) (A : Nat → Nat → K) (v : Nat → K) (R : Nat) (kn : Nat → Kn K) (b : Nat → K) : Prop where
 lt:∀ i,i<R->(kn i).p<n
 bw:∀ i,i<R->(rdw n A v kn i i).1 (kn i).p*b i=1
 hv:∀ i,i<R->∀ j,(kn i).v j=(rdw n A v kn i i).1 j*b i
 hq:∀ i,i<R->∀ j,(kn i).q j=(rdw n A v kn i i).2 j*b i
variable {n R:Nat} {A:Nat->Nat->K} {v:Nat->K} {kn:Nat->Kn K} {b:Nat->K}
def avl (n:Nat) (A:Nat->Nat->K) (v:Nat->K) (g:Nat->K) (N j:Nat):K:=sm (fun t=>g t*av n A v t j) N
structure Kg (n : Nat) (A : Nat → Nat → K) (v : Nat → K) (kn : Nat → Kn K) (i : Nat) : Prop where
 one:(kn i).v (kn i).p=1
 zer:∀ a,a<i->(kn i).v (kn a).p=0
 val:∀ j,(kn i).v j=avl n A v (kn i).q (i+1) j
 deg:∀ t,i<t->(kn i).q t=0
 top:(kn i).q i≠0
theorem rdw_inv {r : Nat} (h : ∀ i, i < r → Kg n A v kn i) : ∀ m, m ≤ r → (∀ a, a < m → (rdw n A v kn r m).1 (kn a).p = 0) ∧ (∀ j, (rdw n A v kn r m).1 j = avl n A v (rdw n A v kn r m).2 (r + 1) j) ∧ (∀ t, r < t → (rdw n A v kn r m).2 t = 0) ∧ (rdw n A v kn r m).2 r = 1
 | 0,_=>by
  refine⟨fun a ha=>absurd ha (Nat.not_lt_zero a),fun j=>?_,fun t ht=>if_neg (by omega),if_pos rfl⟩
  show av n A v r j=sm (fun t=>xpn r t*av n A v t j) (r+1)
  rw[sm_one (k:=r) (by omega) fun t _ ht=>by rw[show(xpn r t:K)=0 from if_neg ht,zero_mul],show(xpn r r:K)=1 from if_pos rfl,one_mul]
 | m+1,hm=>by
  obtain⟨h1,h2,h3,h4⟩:=rdw_inv h m (by omega)
  have g:=h m (by omega)
  generalize hs:rdw n A v kn r m=s at h1 h2 h3 h4
  have e:rdw n A v kn r (m+1)=rdst s (kn m):=by rw[← hs];rfl
  rw[e]
  refine⟨fun a ha=>?_,fun j=>?_,fun t ht=>?_,?_⟩
  ·show s.1 (kn a).p-s.1 (kn m).p*(kn m).v (kn a).p=0
   rcases Nat.lt_or_ge a m with h | h
   ·rw[h1 a h,g.zer a h,mul_zero,sub_self]
   ·rw[show a=m by omega,g.one,Crg.mul_one,sub_self]
  ·show s.1 j-s.1 (kn m).p*(kn m).v j=sm (fun t=>(s.2 t-(kn m).q t*s.1 (kn m).p)*av n A v t j) (r+1)
   have e2:avl n A v (kn m).q (m+1) j=sm (fun t=>(kn m).q t*av n A v t j) (r+1):=(sm_more (fun t ht=>by rw[g.deg t (by omega),zero_mul]) (by omega)).symm
   rw[h2 j,g.val j,e2,sub_def]
   show sm (fun t=>s.2 t*av n A v t j) (r+1)+_=_
   rw[mul_sm,← sm_neg,← sm_add]
   exact sm_congr fun t _=>RE.eq [s.2 t,av n A v t j,s.1 (kn m).p,(kn m).q t] (t0*t1 + -(t2*(t3*t1))) ((t0-t3*t2)*t1) rfl
  ·show s.2 t-(kn m).q t*s.1 (kn m).p=0
   rw[h3 t ht,g.deg t (by omega),zero_mul,sub_self]
  ·show s.2 r-(kn m).q r*s.1 (kn m).p=1
   rw[h4,g.deg r (by omega),zero_mul,sub_zero]
theorem avl_mul (g:Nat->K) (c:K) (N j:Nat):avl n A v (fun t=>g t*c) N j=avl n A v g N j*c:=by
 unfold avl
 rw[sm_mul]
 exact sm_congr fun t _=>RE.eq [g t,c,av n A v t j] (t0*t1*t2) (t0*t2*t1) rfl
theorem Kns.all (h:Kns n A v R kn b):∀ i,i<R->Kg n A v kn i:=by
 intro i
 induction i using Nat.strongRecOn with
 | ind i ih =>
  intro hi
  obtain⟨h1,h2,h3,h4⟩:=rdw_inv (r:=i) (fun a ha=>ih a ha (by omega)) i (Nat.le_refl i)
  have hb:b i≠0:=fun e=>by
   have:=h.bw i hi
   rw[e,mul_zero]at this
   exact Fld.one_ne this.symm
  refine⟨?_,fun a ha=>?_,fun j=>?_,fun t ht=>?_,?_⟩
  ·rw[h.hv i hi,h.bw i hi]
  ·rw[h.hv i hi,h1 a ha,zero_mul]
  ·rw[h.hv i hi,h2 j,← avl_mul]
   exact sm_congr fun t _=>by rw[h.hq i hi]
  ·rw[h.hq i hi,h3 t ht,zero_mul]
  ·rw[h.hq i hi,h4,one_mul]
   exact hb
theorem Kns.inv (h:Kns n A v R kn b) {r:Nat} (hr:r≤R) {m:Nat} (hm:m≤r):(∀ a,a<m->(rdw n A v kn r m).1 (kn a).p=0)/\(∀ j,(rdw n A v kn r m).1 j=avl n A v (rdw n A v kn r m).2 (r+1) j)/\(∀ t,r<t->(rdw n A v kn r m).2 t=0)/\(rdw n A v kn r m).2 r=1:=rdw_inv (fun i hi=>h.all i (by omega)) m hm
theorem avl_sub (g f:Nat->K) (N j:Nat):avl n A v (fun t=>g t-f t) N j=avl n A v g N j-avl n A v f N j:=by
 unfold avl
 rw[sub_def,← sm_neg,← sm_add]
 exact sm_congr fun t _=>RE.eq [g t,f t,av n A v t j] ((t0-t1)*t2) (t0*t2 + -(t1*t2)) rfl
theorem avl_more {g:Nat->K} {N M:Nat} (hg:∀ t,N≤t->g t=0) (h:N≤M) (j:Nat):avl n A v g M j=avl n A v g N j:=sm_more (fun t ht=>by rw[hg t ht,zero_mul]) h
theorem Kns.span (h : Kns n A v R kn b) : ∀ d, d ≤ R → ∀ g : Nat → K, (∀ t, d ≤ t → g t = 0) → ∃ e : Nat → K, ∀ j, avl n A v g d j = sm (fun a => e a * (kn a).v j) d
 | 0,_,_,_=>⟨fun _=>0,fun _=>rfl⟩
 | d+1,hd,g,hg=>by
  have k:=h.all d (by omega)
  obtain⟨z,hz⟩:∃ z,(kn d).q d*z=1:=⟨_,Fld.mul_inv _ k.top⟩
  let g':Nat->K:=fun t=>g t-(kn d).q t*(g d*z)
  have hg':∀ t,d≤t->g' t=0:=fun t ht=>by
   show g t-(kn d).q t*(g d*z)=0
   rcases Nat.eq_or_lt_of_le ht with e | e
   ·rw[← e,show(kn d).q d*(g d*z)=g d*((kn d).q d*z)from RE.eq [(kn d).q d,g d,z] (t0*(t1*t2)) (t1*(t0*t2)) rfl,hz,Crg.mul_one,sub_self]
   ·rw[hg t e,k.deg t e,zero_mul,sub_self]
  obtain⟨e,he⟩:=h.span d (by omega) g' hg'
  refine⟨fun a=>if a=d then g d*z else e a,fun j=>?_⟩
  have h1:avl n A v g' (d+1) j=avl n A v g' d j:=avl_more hg' (by omega) j
  have h2:avl n A v g' (d+1) j=avl n A v g (d+1) j-(kn d).v j*(g d*z):=by
   show avl n A v (fun t=>g t-(kn d).q t*(g d*z)) (d+1) j=_
   rw[avl_sub,avl_mul,k.val j]
  rw[h1,he j]at h2
  show _=sm (fun a=>(if a=d then g d*z else e a)*(kn a).v j) d+(if d=d then g d*z else e d)*(kn d).v j
  rw[if_pos rfl,sm_congr (g:=fun a=>e a*(kn a).v j) fun a ha=>by rw[if_neg (by omega)],h2,sub_def,Crg.mul_comm ((kn d).v j),Crg.add_assoc,neg_add,Crg.add_zero]
theorem Kns.least (h : Kns n A v R kn b) : ∀ d, d ≤ R → ∀ g : Nat → K, (∀ t, d ≤ t → g t = 0) → (∀ j, j < n → avl n A v g d j = 0) → ∀ t, g t = 0
 | 0,_,g,hg,_,t=>hg t (Nat.zero_le t)
 | d+1,hd,g,hg,h0,t=>by
  obtain⟨h1,h2,h3,h4⟩:=h.inv (r:=d) (by omega) (Nat.le_refl d)
  let g':Nat->K:=fun t=>g t-(rdw n A v kn d d).2 t*g d
  have hg':∀ t,d≤t->g' t=0:=fun t ht=>by
   show g t-(rdw n A v kn d d).2 t*g d=0
   rcases Nat.eq_or_lt_of_le ht with e | e
   ·rw[← e,h4,one_mul,sub_self]
   ·rw[hg t e,h3 t e,zero_mul,sub_self]
  have e1:∀ j,j<n->avl n A v g' d j = -((rdw n A v kn d d).1 j*g d):=fun j hj=>by
   rw[← avl_more hg' (show d≤d+1 by omega) j]
   show avl n A v (fun t=>g t-(rdw n A v kn d d).2 t*g d) (d+1) j=_
   rw[avl_sub,avl_mul,h0 j hj,← h2 j,sub_def,zero_add]
  obtain⟨e,he⟩:=h.span d (by omega) g' hg'
  have ez:∀ a,a<d->e a=0:=by
   intro a
   induction a using Nat.strongRecOn with
   | ind a ih =>
    intro ha
    have k:=e1 (kn a).p (h.lt a (by omega))
    rw[he,h1 a ha,zero_mul,neg_zero]at k
    rw[sm_one (k:=a) ha fun c hc hn=>by
     rcases Nat.lt_or_ge c a with q | q
     ·rw[ih c q (by omega),zero_mul]
     ·rw[(h.all c (by omega)).zer a (by omega),mul_zero],(h.all a (by omega)).one,Crg.mul_one]at k
    exact k
  have e2:avl n A v g' d (kn d).p=0:=by rw[he];exact sm_zero fun a ha=>by rw[ez a ha,zero_mul]
  rw[e1 _ (h.lt d (by omega))]at e2
  have e3:g d=0:=by
   have e4:(rdw n A v kn d d).1 (kn d).p*g d=0:=by rw[← neg_neg ((rdw n A v kn d d).1 (kn d).p*g d),e2,neg_zero]
   have e5:=h.bw d (by omega)
   have e6:g d=(rdw n A v kn d d).1 (kn d).p*b d*g d:=by rw[e5,one_mul]
   rw[e6,show(rdw n A v kn d d).1 (kn d).p*b d*g d=(rdw n A v kn d d).1 (kn d).p*g d*b d from RE.eq [(rdw n A v kn d d).1 (kn d).p,b d,g d] (t0*t1*t2) (t0*t2*t1) rfl,e4,zero_mul]
  have hg2:∀ t,d≤t->g t=0:=fun t ht=>by
   rcases Nat.eq_or_lt_of_le ht with e | e
   ·rw[← e,e3]
   ·exact hg t e
  exact h.least d (by omega) g hg2 (fun j hj=>by rw[← avl_more hg2 (show d≤d+1 by omega) j];exact h0 j hj) t
theorem inj_le : ∀ (n m : Nat) (f : Nat → Nat), (∀ i, i < m → f i < n) → (∀ i j, i < j → j < m → f i ≠ f j) → m ≤ n
 | 0,0,_,_,_=>Nat.le_refl 0
 | 0,m+1,f,h,_=>absurd (h 0 (by omega)) (Nat.not_lt_zero _)
 | n+1,0,_,_,_=>Nat.zero_le _
 | n+1,m+1,f,h,k=>by
  -- the place of the last one is filled by what stands at n
  have:=inj_le n m (fun i=>if f i=n then f m else f i) (fun i hi=>by
   show(if f i=n then f m else f i)<n
   have a:=h i (by omega)
   have c:=h m (by omega)
   have d:=k i m hi (by omega)
   split <;> omega) fun i j hij hj=>by
   show(if f i=n then f m else f i)≠if f j=n then f m else f j
   have a:=k i j hij (by omega)
   have c:=k i m (by omega) (by omega)
   have d:=k j m hj (by omega)
   split <;> split <;> omega
  omega
theorem Kns.len (h:Kns n A v R kn b):R≤n:=inj_le n R (fun i=>(kn i).p) h.lt fun i j hij hj e=>by
 have e:(kn i).p=(kn j).p:=e
 have h1:=(h.all j hj).zer i hij
 rw[e,(h.all j hj).one]at h1
 exact Fld.one_ne h1
end
end Mx
end Go.Proofs.YtkmbnldginonbaaGreat
/- charpoly.reduced: the reduction of a vector and its polynomial by known ones. -/
namespace Go.Proofs.YtkmbnldginonbaaGreat
open Go.RowKit
namespace Mx
open Rf
abbrev tiK:TI:=⟨true,3,[.nil,.int .i64 0,.nil],56,[some (0,1),some (1,1),some (2,1)],none,none,3⟩
abbrev tiKs:TI:=⟨false,1,[.nil],24,[],some 130,none,0⟩
noncomputable def tyK (T:Nat):Option TI:=if T == 130 then some tiK else if T == 126 then some tiKs else tyE T
noncomputable def E1k:Env:=⟨Tryz.prog,true,tyK,0⟩
theorem tyK1:tyOf Tryz.prog 130=some tiK:=by kernel_rfl
theorem tyK2:tyOf Tryz.prog 126=some tiKs:=by kernel_rfl
theorem tyK_ok (T:Nat) (ti:TI) (h:tyK T=some ti):tyOf Tryz.prog T=some ti:=by
 unfold tyK at h
 split at h
 ·next e =>
  rw[beq_iff_eq.1 e,← h]
  exact tyK1
 ·split at h
  ·next e =>
   rw[beq_iff_eq.1 e,← h]
   exact tyK2
  ·exact tyE_ok T ti h
theorem E1k_ok:EnvOK E1k:=⟨tyK_ok⟩
noncomputable def E1km:Env:=⟨Tryz.prog,true,tyK,1⟩
theorem E1km_ok:EnvOK E1km:=⟨tyK_ok⟩
theorem FnT.m {P:Program} {r:Bool} {f:FuncId} {B B':Blk} {fresh:List Blk} {args:List V} {X:V} (h:FnT P r f 1 [B] args X (B' :: fresh)):FnM P r f B args X B' fresh:=⟨h.1,fun D w0 l w vs hs hv=>(h.2 D w0 [l] w vs hs hv).mono fun e w' ⟨v,ρ',he,hs',hl,hr⟩=>by
 match ρ',hs'.len with
 | [],hlen=>simp at hlen
 | l' :: ρ'',_=>exact⟨v,l',ρ'',he,hs',fun i x hx=>by
   match i,hx with
   | 0,hx =>
    obtain⟨y,hy,k⟩:=hl 0 x hx
    exact⟨y,hy,k⟩,hr⟩⟩
abbrev kcells (n:Nat) (kv kq:Nat->Nat->Rat) (kp:Nat->Nat) (i:Nat):List Cell:=[nql n (kv i),.int .i64 (kp i:Nat),nql (i+1) (kq i)]
abbrev kcF (n:Nat) (kv kq:Nat->Nat->Rat) (kp:Nat->Nat):Nat->Nat->Cell:=fun i y=>(kcells n kv kq kp i).getD y .any
abbrev kcB (n m:Nat) (kv kq:Nat->Nat->Rat) (kp:Nat->Nat):Gx:=⟨130,3,m,kcF n kv kq kp⟩
theorem kc_clos {n:Nat} {kv kq:Nat->Nat->Rat} {kp:Nat->Nat} {i y:Nat} (hy:y<3):(kcF n kv kq kp i y).clos=true:=by
 match y,hy with
 | 0,_=>rfl
 | 1,_=>rfl
 | 2,_=>rfl
structure Rdk (n m : Nat) (W G kv kq : Nat → Nat → Rat) (kp : Nat → Nat) (L : Nat) : Prop where
 p:∀ i,i<m->kp i<n
 lW:∀ i j,i≤m->j<n->qlen (W i j)≤L
 lG:∀ i j,i≤m->j<m+1->qlen (G i j)≤L
 lv:∀ i j,i<m->j<n->qlen (kv i j)≤L
 lq:∀ i j,i<m->j<i+1->qlen (kq i j)≤L
 sW:∀ i j,i<m->j<n->W i j-W i (kp i)*kv i j=W (i+1) j
 sG:∀ i j,i<m->j<m+1->G i j-kq i j*W i (kp i)=G (i+1) j
 zq:∀ i j,i<m->i<j->kq i j=0
 gt:∀ i,i≤m->G i m=1
theorem reg_nq {q:Nat} {bl:List Blk} {ks:List (Option Nat)} {n:Nat} {v w:Nat->Rat} (h:∀ i,i<n->w i=v i):regV q bl ks (.c (nql n w)) (.c (nql n v)) := .inl ⟨_,_,rfl,rfl,fun i j hi _=>congrArg (fun x=>(rr (ofR x)).getD j .any) (h i hi)⟩
theorem rat_one_ne:(1:Rat)≠0:=by decide
set_option maxRecDepth 100000 in
set_option maxHeartbeats 16000000 in
theorem red_ok {n m:Nat} {W G kv kq:Nat->Nat->Rat} {kp:Nat->Nat} {L:Nat} (hn:n≤1000) (hm:m≤100) (h:Rdk n m W G kv kq kp L) (h1:1≤L) (hL:8*L+32≤LIM):FnM Tryz.prog true 113 (gb (kcB n m kv kq kp)) [.c (.gs 0 0),.c (nql n (W 0)),.c (nql (m+1) (G 0))] (.t2 (.c (nql n (W m))) (.c (nql (m+1) (G m)))) (gb (kcB n m kv kq kp)) []:=by
 have knz:∀ i,i<m->FnOK Tryz.prog true 47 [.g (nq (W i (kp i)))] (.c (.bool (decide (W i (kp i)≠0)))):=fun i hi=>nz_ok (h.lW i _ (by omega) (h.p i hi)) (by omega)
 have kmul:∀ i j,i<m->j<n->FnOK Tryz.prog true 46 [.g (nq (W i (kp i))),.g (nq (kv i j))] (.g (nq (W i (kp i)*kv i j))):=fun i j hi hj=>qmul_n (h.lW i _ (by omega) (h.p i hi)) (h.lv i j hi hj) (by omega) rfl
 have ksub:∀ i j,i<m->j<n->FnOK Tryz.prog true 50 [.g (nq (W i j)),.g (nq (W i (kp i)*kv i j))] (.g (nq (W (i+1) j))):=fun i j hi hj=>qsub_n (h.lW i j (by omega) hj) (q_mul (h.lW i _ (by omega) (h.p i hi)) (h.lv i j hi hj) (by omega)) (by omega) (by omega) (h.sW i j hi hj)
 have ksc:∀ i,i<m->FnOK Tryz.prog true 44 [.c (nql (i+1) (kq i)),.g (nq (W i (kp i)))] (.c (nql (Q.tq (fun t=>kq i t*W i (kp i)) (i+1)) fun t=>kq i t*W i (kp i))):=fun i hi=>scale_step (by omega) (fun j hj=>h.lq i j hi hj) (h.lW i _ (by omega) (h.p i hi)) (by omega)
 have ksb:∀ i,i<m->FnOK Tryz.prog true 42 [.c (nql (m+1) (G i)),.c (nql (Q.tq (fun t=>kq i t*W i (kp i)) (i+1)) fun t=>kq i t*W i (kp i))] (.c (nql (m+1) (G (i+1)))):=fun i hi=>sub_step (L:=2*L) (by omega) (by omega) (by omega) (fun j hj=>Nat.le_trans (h.lG i j (by omega) hj) (by omega)) (fun j hj=>Nat.le_trans (q_mul (h.lq i j hi hj) (h.lW i _ (by omega) (h.p i hi)) (by omega)) (by omega)) (by omega) (by omega) (fun t ht=>by rw[h.zq i t hi (by omega),Rat.zero_mul]) (fun j hj=>h.sG i j hi hj) (by rw[Nat.add_sub_cancel,h.gt (i+1) (by omega)];exact rat_one_ne)
 have hsk:∀ i,i<m->W i (kp i)=0->(∀ j,j<n->W i j=W (i+1) j)/\∀ j,j<m+1->G i j=G (i+1) j:=fun i hi e=>⟨fun j hj=>by rw[← h.sW i j hi hj,e,Rat.zero_mul,Rat.sub_eq_add_neg,Rat.neg_zero,Rat.add_zero],fun j hj=>by rw[← h.sG i j hi hj,e,Rat.mul_zero,Rat.sub_eq_add_neg,Rat.neg_zero,Rat.add_zero]⟩
 have hp:=h.p
 clear h h1
 refine FnT.m ?_
 refine fnt_okS (E:=E1km) E1km_ok Tryz.func113 rfl (by kernel_rfl) ?_
 refine swp_seq0 E1km_ok mixed (by kernel_rfl) ?_
 conv=>whnf
 refine swp_mid (fun _:Unit=>gst [(1,.c (nql n (W m))),(2,.c (nql (m+1) (G m)))] [kcB n m kv kq kp]) (fun _=>True) ?_ fun _ _=>?_
 rotate_left
 ·refine swp_of E1km_ok mixed (by kernel_rfl) ?_
  conv=>whnf
  exact Weak.genT (tl:=[(0,.t2 (.c (nql n (W m))) (.c (nql (m+1) (G m))))]) (xs:=[kcB n m kv kq kp]) [some 0] rfl rfl ⟨_,rfl,rfl,Nat.zero_le 1⟩ ⟨⟨_,rfl,rfl,rfl,rfl,rfl,fun x y hx hy=>regE rfl (kc_clos hy)⟩,trivial⟩ ⟨⟨rfl,rfl⟩,trivial⟩
 refine swp_seq E1km_ok mixed (by kernel_rfl) ?_
 conv=>whnf
 refine⟨(fun i:Nat=>gst [(1,.c (nql n (W i))),(2,.c (nql (m+1) (G i))),(13,.c (.gs 0 0)),(14,.c (.int .i64 ((m:Nat):Int))),(15,.c (.int .i64 ((i:Nat):Int)))] [kcB n m kv kq kp]) 0,Weak.genT [some 0] rfl rfl ⟨_,rfl,rfl,Nat.zero_le 1⟩ ⟨⟨_,rfl,rfl,rfl,rfl,rfl,fun x y hx hy=>regE rfl (kc_clos hy)⟩,trivial⟩ ⟨.inl ⟨_,_,rfl,rfl,fun _ _ _ _=>rfl⟩,.inl ⟨_,_,rfl,rfl,fun _ _ _ _=>rfl⟩,⟨_,rfl,rfl,rfl⟩,⟨_,rfl,rfl⟩,⟨_,rfl,rfl⟩,trivial⟩,?_⟩
 refine swp_block (swp_loop (fun i:Nat=>gst [(1,.c (nql n (W i))),(2,.c (nql (m+1) (G i))),(13,.c (.gs 0 0)),(14,.c (.int .i64 ((m:Nat):Int))),(15,.c (.int .i64 ((i:Nat):Int)))] [kcB n m kv kq kp]) (fun i=>m-i) (fun i=>i≤m) 0 (Weak.refl _) (Nat.zero_le m) fun i hi=>?_)
 have i0:(0:Int)≤(i:Int):=by omega
 refine swp_seq0 E1km_ok mixed (by kernel_rfl) ?_
 conv=>whnf
 refine swp_seq E1km_ok mixed (by kernel_rfl) ?_
 conv=>whnf
 refine bcase (fun(g:decide ((i:Int)<(m:Int))=true)=>?_) fun(g:decide ((i:Int)<(m:Int))=false)=>?_
 rotate_left
 ·have g:=of_decide_eq_false g
  obtain rfl:i=m:=by have hi:i≤m:=hi;omega
  conv=>whnf
  exact⟨(),trivial,Weak.genT [some 0] rfl rfl ⟨_,rfl,rfl,Nat.zero_le 1⟩ ⟨⟨_,rfl,rfl,rfl,rfl,rfl,fun x y hx hy=>regE rfl (kc_clos hy)⟩,trivial⟩ ⟨.inl ⟨_,_,rfl,rfl,fun _ _ _ _=>rfl⟩,.inl ⟨_,_,rfl,rfl,fun _ _ _ _=>rfl⟩,trivial⟩⟩
 have g:=of_decide_eq_true g
 have i1:(i:Int)<(m:Int):=g
 have him:i<m:=by omega
 have knz:=knz i him
 have kmul:=fun j=>kmul i j him
 have ksub:=fun j=>ksub i j him
 have ksc:=ksc i him
 have ksb:=ksb i him
 have hsk:=hsk i him
 have hp:=hp i him
 conv=>whnf
 refine⟨gst [(1,.c (nql n (W i))),(2,.c (nql (m+1) (G i))),(13,.c (.gs 0 0)),(14,.c (.int .i64 ((m:Nat):Int))),(15,.c (.int .i64 ((i:Nat):Int)))] [kcB n m kv kq kp],Weak.genT [some 0] rfl rfl ⟨_,rfl,rfl,Nat.zero_le 1⟩ ⟨⟨_,rfl,rfl,rfl,rfl,rfl,fun x y hx hy=>regE rfl (kc_clos hy)⟩,trivial⟩ ⟨.inl ⟨_,_,rfl,rfl,fun _ _ _ _=>rfl⟩,.inl ⟨_,_,rfl,rfl,fun _ _ _ _=>rfl⟩,⟨_,rfl,rfl,rfl⟩,⟨_,rfl,rfl⟩,⟨_,rfl,rfl⟩,trivial⟩,?_⟩
 refine swp_mid (fun _:Unit=>gst [(1,.c (nql n (W (i+1)))),(2,.c (nql (m+1) (G (i+1)))),(13,.c (.gs 0 0)),(14,.c (.int .i64 ((m:Nat):Int))),(15,.c (.int .i64 ((i:Nat):Int)))] [kcB n m kv kq kp]) (fun _=>True) ?_ fun _ _=>?_
 rotate_left
 ·refine swp_of E1km_ok mixed (by kernel_rfl) ?_
  conv=>whnf
  refine⟨i64_range (by omega) (by omega),?_⟩
  conv=>whnf
  exact⟨i+1,by omega,Weak.genT [some 0] rfl rfl ⟨_,rfl,rfl,Nat.zero_le 1⟩ ⟨⟨_,rfl,rfl,rfl,rfl,rfl,fun x y hx hy=>regE rfl (kc_clos hy)⟩,trivial⟩ ⟨.inl ⟨_,_,rfl,rfl,fun _ _ _ _=>rfl⟩,.inl ⟨_,_,rfl,rfl,fun _ _ _ _=>rfl⟩,⟨_,rfl,rfl,rfl⟩,⟨_,rfl,rfl⟩,⟨_,rfl,rfl⟩,trivial⟩,him⟩
 refine swp_block ?_
 refine swp_seq E1km_ok mixed (by kernel_rfl) ?_
 conv=>whnf
 refine⟨i0,i1,?_⟩
 conv=>whnf
 refine⟨gst [(1,.c (nql n (W i))),(2,.c (nql (m+1) (G i))),(13,.c (.gs 0 0)),(14,.c (.int .i64 ((m:Nat):Int))),(15,.c (.int .i64 ((i:Nat):Int))),(9,.c (.p 1 0 3 0 0))] [kcB n m kv kq kp,⟨130,3,1,boxF (kcells n kv kq kp i)⟩],Weak.genT [some 0,some 1] rfl rfl ⟨_,rfl,rfl,Nat.zero_le 1⟩ ⟨⟨_,rfl,rfl,rfl,rfl,rfl,fun x y hx hy=>regE rfl (kc_clos hy)⟩,Rf.boxU rfl rfl rfl,trivial⟩ ⟨.inl ⟨_,_,rfl,rfl,fun _ _ _ _=>rfl⟩,.inl ⟨_,_,rfl,rfl,fun _ _ _ _=>rfl⟩,⟨_,rfl,rfl,rfl⟩,⟨_,rfl,rfl⟩,⟨_,rfl,rfl⟩,⟨_,rfl,rfl,rfl⟩,trivial⟩,?_⟩
 refine swp_seq E1km_ok mixed (by kernel_rfl) ?_
 conv=>whnf
 refine⟨by omega,by show((kp i:Nat):Int)<((n:Nat):Int);omega,?_⟩
 conv=>whnf
 refine⟨gst [(1,.c (nql n (W i))),(2,.c (nql (m+1) (G i))),(13,.c (.gs 0 0)),(14,.c (.int .i64 ((m:Nat):Int))),(15,.c (.int .i64 ((i:Nat):Int))),(9,.c (.p 1 0 3 0 0)),(10,.c (.p 2 0 4 0 0))] [kcB n m kv kq kp,⟨130,3,1,boxF (kcells n kv kq kp i)⟩,⟨38,4,1,boxF (nq (W i (kp i)))⟩],Weak.genT [some 0,some 1,some 2] rfl rfl ⟨_,rfl,rfl,Nat.zero_le 1⟩ ⟨⟨_,rfl,rfl,rfl,rfl,rfl,fun x y hx hy=>regE rfl (kc_clos hy)⟩,Rf.boxK rfl rfl,Rf.boxU rfl rfl rfl,trivial⟩ ⟨.inl ⟨_,_,rfl,rfl,fun _ _ _ _=>rfl⟩,.inl ⟨_,_,rfl,rfl,fun _ _ _ _=>rfl⟩,⟨_,rfl,rfl,rfl⟩,⟨_,rfl,rfl⟩,⟨_,rfl,rfl⟩,⟨_,rfl,rfl,rfl⟩,⟨_,rfl,rfl,rfl⟩,trivial⟩,?_⟩
 refine swp_seq E1km_ok mixed (by kernel_rfl) ?_
 conv=>whnf
 refine⟨_,knz,?_⟩
 conv=>whnf
 refine bcase (fun(g:(!decide (W i (kp i)≠0))=true)=>?_) fun(g:(!decide (W i (kp i)≠0))=false)=>?_
 ·have h0:W i (kp i)=0:=by simpa using g
  obtain⟨w1,w2⟩:=hsk h0
  conv=>whnf
  exact⟨(),trivial,Weak.genT [some 0] rfl rfl ⟨_,rfl,rfl,Nat.zero_le 1⟩ ⟨⟨_,rfl,rfl,rfl,rfl,rfl,fun x y hx hy=>regE rfl (kc_clos hy)⟩,trivial⟩ ⟨reg_nq fun x hx=>w1 x hx,reg_nq fun x hx=>w2 x hx,⟨_,rfl,rfl,rfl⟩,⟨_,rfl,rfl⟩,⟨_,rfl,rfl⟩,trivial⟩⟩
 conv=>whnf
 refine⟨gst [(1,.c (nql n (W i))),(2,.c (nql (m+1) (G i))),(13,.c (.gs 0 0)),(14,.c (.int .i64 ((m:Nat):Int))),(15,.c (.int .i64 ((i:Nat):Int))),(9,.c (.p 1 0 3 0 0)),(10,.c (.p 2 0 4 0 0))] [kcB n m kv kq kp,⟨130,3,1,boxF (kcells n kv kq kp i)⟩,⟨38,4,1,boxF (nq (W i (kp i)))⟩],Weak.genT [some 0,some 1,some 2] rfl rfl ⟨_,rfl,rfl,Nat.zero_le 1⟩ ⟨⟨_,rfl,rfl,rfl,rfl,rfl,fun x y hx hy=>regE rfl (kc_clos hy)⟩,Rf.boxK rfl rfl,Rf.boxK rfl rfl,trivial⟩ ⟨.inl ⟨_,_,rfl,rfl,fun _ _ _ _=>rfl⟩,.inl ⟨_,_,rfl,rfl,fun _ _ _ _=>rfl⟩,⟨_,rfl,rfl,rfl⟩,⟨_,rfl,rfl⟩,⟨_,rfl,rfl⟩,⟨_,rfl,rfl,rfl⟩,⟨_,rfl,rfl,rfl⟩,trivial⟩,?_⟩
 refine swp_seq E1km_ok mixed (by kernel_rfl) ?_
 conv=>whnf
 refine⟨by omega,Int.le_refl _,by omega,by show(64:Int)*n≤281474976710656;omega,?_⟩
 conv=>whnf
 refine⟨gst [(1,.c (nql n (W i))),(2,.c (nql (m+1) (G i))),(13,.c (.gs 0 0)),(14,.c (.int .i64 ((m:Nat):Int))),(15,.c (.int .i64 ((i:Nat):Int))),(9,.c (.p 1 0 3 0 0)),(10,.c (.p 2 0 4 0 0)),(11,.c (.gs 3 0))] [kcB n m kv kq kp,⟨130,3,1,boxF (kcells n kv kq kp i)⟩,⟨38,4,1,boxF (nq (W i (kp i)))⟩,gqp n (W (i+1)) 0],Weak.genT [some 0,some 1,some 2,some 3] rfl rfl ⟨_,rfl,rfl,Nat.zero_le 1⟩ ⟨⟨_,rfl,rfl,rfl,rfl,rfl,fun x y hx hy=>regE rfl (kc_clos hy)⟩,Rf.boxK rfl rfl,Rf.boxK rfl rfl,⟨_,rfl,rfl,rfl,by show Int.toNat n=n;omega,rfl,fun k j hk hj=>regE (congrArg (fun l=>l.getD j .any) (qp_zero (W (i+1)) k).symm) (qp_clos k j)⟩,trivial⟩ ⟨.inl ⟨_,_,rfl,rfl,fun _ _ _ _=>rfl⟩,.inl ⟨_,_,rfl,rfl,fun _ _ _ _=>rfl⟩,⟨_,rfl,rfl,rfl⟩,⟨_,rfl,rfl⟩,⟨_,rfl,rfl⟩,⟨_,rfl,rfl,rfl⟩,⟨_,rfl,rfl,rfl⟩,⟨_,rfl,rfl,rfl⟩,trivial⟩,?_⟩
 refine swp_mid (fun _:Unit=>gst [(1,.c (nql n (W i))),(2,.c (nql (m+1) (G i))),(13,.c (.gs 0 0)),(14,.c (.int .i64 ((m:Nat):Int))),(15,.c (.int .i64 ((i:Nat):Int))),(9,.c (.p 1 0 3 0 0)),(10,.c (.p 2 0 4 0 0)),(11,.c (nql n (W (i+1))))] [kcB n m kv kq kp,⟨130,3,1,boxF (kcells n kv kq kp i)⟩,⟨38,4,1,boxF (nq (W i (kp i)))⟩]) (fun _=>True) ?_ fun _ _=>?_
 rotate_left
 ·refine swp_of E1km_ok mixed (by kernel_rfl) ?_
  conv=>whnf
  refine⟨_,ksc,?_⟩
  conv=>whnf
  refine⟨_,ksb,?_⟩
  conv=>whnf
  exact⟨(),trivial,Weak.genT [some 0] rfl rfl ⟨_,rfl,rfl,Nat.zero_le 1⟩ ⟨⟨_,rfl,rfl,rfl,rfl,rfl,fun x y hx hy=>regE rfl (kc_clos hy)⟩,trivial⟩ ⟨.inl ⟨_,_,rfl,rfl,fun _ _ _ _=>rfl⟩,.inl ⟨_,_,rfl,rfl,fun _ _ _ _=>rfl⟩,⟨_,rfl,rfl,rfl⟩,⟨_,rfl,rfl⟩,⟨_,rfl,rfl⟩,trivial⟩⟩
 refine swp_seq E1km_ok mixed (by kernel_rfl) ?_
 conv=>whnf
 refine⟨(fun j:Nat=>gst [(1,.c (nql n (W i))),(2,.c (nql (m+1) (G i))),(13,.c (.gs 0 0)),(14,.c (.int .i64 ((m:Nat):Int))),(15,.c (.int .i64 ((i:Nat):Int))),(9,.c (.p 1 0 3 0 0)),(10,.c (.p 2 0 4 0 0)),(11,.c (.gs 3 0)),(31,.c (.int .i64 ((n:Nat):Int))),(32,.c (.int .i64 ((j:Nat):Int)))] [kcB n m kv kq kp,⟨130,3,1,boxF (kcells n kv kq kp i)⟩,⟨38,4,1,boxF (nq (W i (kp i)))⟩,gqp n (W (i+1)) j]) 0,Weak.genT [some 0,some 1,some 2,some 3] rfl rfl ⟨_,rfl,rfl,Nat.zero_le 1⟩ ⟨⟨_,rfl,rfl,rfl,rfl,rfl,fun x y hx hy=>regE rfl (kc_clos hy)⟩,Rf.boxK rfl rfl,Rf.boxK rfl rfl,⟨_,rfl,rfl,rfl,rfl,rfl,fun k j hk hj=>regE rfl (qp_clos k j)⟩,trivial⟩ ⟨.inl ⟨_,_,rfl,rfl,fun _ _ _ _=>rfl⟩,.inl ⟨_,_,rfl,rfl,fun _ _ _ _=>rfl⟩,⟨_,rfl,rfl,rfl⟩,⟨_,rfl,rfl⟩,⟨_,rfl,rfl⟩,⟨_,rfl,rfl,rfl⟩,⟨_,rfl,rfl,rfl⟩,⟨_,rfl,rfl,rfl⟩,⟨_,rfl,rfl⟩,⟨_,rfl,rfl⟩,trivial⟩,?_⟩
 refine swp_block (swp_loop (fun j:Nat=>gst [(1,.c (nql n (W i))),(2,.c (nql (m+1) (G i))),(13,.c (.gs 0 0)),(14,.c (.int .i64 ((m:Nat):Int))),(15,.c (.int .i64 ((i:Nat):Int))),(9,.c (.p 1 0 3 0 0)),(10,.c (.p 2 0 4 0 0)),(11,.c (.gs 3 0)),(31,.c (.int .i64 ((n:Nat):Int))),(32,.c (.int .i64 ((j:Nat):Int)))] [kcB n m kv kq kp,⟨130,3,1,boxF (kcells n kv kq kp i)⟩,⟨38,4,1,boxF (nq (W i (kp i)))⟩,gqp n (W (i+1)) j]) (fun j=>n-j) (fun j=>j≤n) 0 (Weak.refl _) (Nat.zero_le n) fun j hj=>?_)
 have kmul:=kmul j
 have ksub:=ksub j
 have hj:j≤n:=hj
 have j0:(0:Int)≤(j:Int):=by omega
 refine swp_of E1km_ok mixed (by kernel_rfl) ?_
 conv=>whnf
 refine bcase (fun(g:decide ((j:Int)<(n:Int))=true)=>?_) fun(g:decide ((j:Int)<(n:Int))=false)=>?_
 ·have g:=of_decide_eq_true g
  have j1:(j:Int)<(n:Int):=g
  have kmul:=kmul (by omega)
  have ksub:=ksub (by omega)
  conv=>whnf
  repeat (refine⟨by first | exact j0 | exact j1,?_⟩;conv=>whnf)
  refine⟨_,kmul,?_⟩
  conv=>whnf
  repeat (refine⟨by first | exact j0 | exact j1,?_⟩;conv=>whnf)
  refine⟨_,ksub,?_⟩
  conv=>whnf
  repeat (refine⟨by first | exact j0 | exact j1,?_⟩;conv=>whnf)
  refine⟨i64_range (by omega) (by omega),?_⟩
  conv=>whnf
  exact⟨j+1,by omega,Weak.genT [some 0,some 1,some 2,some 3] rfl rfl ⟨_,rfl,rfl,Nat.zero_le 1⟩ ⟨⟨_,rfl,rfl,rfl,rfl,rfl,fun x y hx hy=>regE rfl (kc_clos hy)⟩,Rf.boxK rfl rfl,Rf.boxK rfl rfl,⟨_,rfl,rfl,rfl,rfl,rfl,fun k y hk hy=>regE (updG (sz:=4) (g:=qpF (W (i+1)) j) (g':=qpF (W (i+1)) (j+1)) (l:=nq (W (i+1) j)) rfl hy (qp_next (W (i+1)) j k)) (qp_clos k y)⟩,trivial⟩ ⟨.inl ⟨_,_,rfl,rfl,fun _ _ _ _=>rfl⟩,.inl ⟨_,_,rfl,rfl,fun _ _ _ _=>rfl⟩,⟨_,rfl,rfl,rfl⟩,⟨_,rfl,rfl⟩,⟨_,rfl,rfl⟩,⟨_,rfl,rfl,rfl⟩,⟨_,rfl,rfl,rfl⟩,⟨_,rfl,rfl,rfl⟩,⟨_,rfl,rfl⟩,⟨_,rfl,rfl⟩,trivial⟩,by omega⟩
 ·have g:=of_decide_eq_false g
  obtain rfl:j=n:=by omega
  conv=>whnf
  exact⟨(),trivial,Weak.genT [some 0,some 1,some 2] rfl rfl ⟨_,rfl,rfl,Nat.zero_le 1⟩ ⟨⟨_,rfl,rfl,rfl,rfl,rfl,fun x y hx hy=>regE rfl (kc_clos hy)⟩,Rf.boxK rfl rfl,Rf.boxK rfl rfl,trivial⟩ ⟨.inl ⟨_,_,rfl,rfl,fun _ _ _ _=>rfl⟩,.inl ⟨_,_,rfl,rfl,fun _ _ _ _=>rfl⟩,⟨_,rfl,rfl,rfl⟩,⟨_,rfl,rfl⟩,⟨_,rfl,rfl⟩,⟨_,rfl,rfl,rfl⟩,⟨_,rfl,rfl,rfl⟩,.inr (.inr ⟨3,_,rfl,rfl,rfl,rfl,Nat.zero_le _,rfl,rfl,fun x y hx hy=>⟨qp_all hx y,q_clos _ x y⟩⟩),trivial⟩⟩
end Mx
end Go.Proofs.YtkmbnldginonbaaGreat
