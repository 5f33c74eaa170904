/- A call that is handed all blocks of its caller's and may exchange all but the first m of them. -/
import Derived.Test.YtkmbnldginonbaaGreatPo9
import Derived.Test.YtkmbnldginonbaaGreatPo12
import Derived.Test.YtkmbnldginonbaaGreatPo5
import Derived.Test.YtkmbnldginonbaaGreatPo1
import Derived.Test.YtkmbnldginonbaaGreatPo10
namespace Go.Proofs.YtkmbnldginonbaaGreat
open Go.RowKit
def FnT (P:Program) (r:Bool) (f:FuncId) (m:Nat) (bl:List Blk) (args:List V) (X:V) (bl':List Blk):Prop :=
 x8 P f=true/\∀(D0:Nat->Prop) (w0:Base) (ρ:List Loc) (w:World) (vs:List Value),Sat D0 w0 r ρ bl w->VRels (Dof D0 ρ bl) w ρ args vs ->
  Calls P f vs.toArray w fun e w'=>∃ v ρ',e = .returned v/\Sat D0 w0 r ρ' bl' w'/\LocsLe (ρ.take m) ρ'/\VRel (Dof D0 ρ' bl') w' ρ' X v
theorem jX {E : Env} (hE : EnvOK E) {f : FuncId} {fn : Func} {c : Code} {args : List V} {X : V} {bl post : List Blk} (hf : E.P.funcs[f]? = some fn) (hb : fn.body = some c) (hbd : x8 E.P f = true)
  (h:Swp E fn.ntmps c ⟨vw args,bl⟩ (retS E fn.results.toList X E.m0 post)):FnT E.P E.r f E.m0 bl args X post:=by
 refine⟨hbd,?_⟩;intro D w0 ρ w vs hs0 hargs;refine calls_of_wp hf hb ?_;let C:Ctx:=⟨D,w0,E.r,fn.ntmps,ρ.take E.m0⟩;have hlen:=hargs.length;have hle:LocsLe (ρ.take E.m0) ρ:=fun i l hl=>by
  rw[List.getElem?_take]at hl;split at hl
  ·exact⟨l,hl,fun _=>rfl,Nat.le_refl _⟩
  ·cases hl
 have hrel:Rel C ⟨vw args,bl⟩ { tmps:=vs.toArray++Array.replicate (fn.ntmps-vs.toArray.size) undef,defers:=[] } w:=by
  refine⟨ρ,hs0,⟨by simp[C];omega,hle⟩,rfl,fun t=>?_⟩;have h2:=hargs.get t;show VRel (Dof D ρ bl) w ρ (args.getD t (.c .any)) _;rcases Nat.lt_or_ge t vs.length with hlt | hge
  ·have:(vs.toArray++Array.replicate (fn.ntmps-vs.toArray.size) undef).getD t undef=vs.getD t undef:=by
    rw[Array.getD_eq_getD_getElem?,Array.getElem?_append_left (by simpa using hlt)];simp[List.getD]
   rw[this];exact h2
  ·rw[show args.getD t (V.c .any) = .c .any by rw[List.getD,List.getElem?_eq_none (by omega)];rfl];trivial
 refine wp_mono (h.run C _ _ rfl (by show(ρ.take E.m0).length<=E.m0;rw[List.length_take];omega) rfl hrel) ?_;rintro e a w' ⟨σ,hr,hk⟩;have fin:retS E fn.results.toList X E.m0 post .ret σ->a.defers=[]/\∃ v,(results fn a.tmps).run E.P w' = .ok v w'/\∃ u ρ',Ending.returned v = .returned u/\Sat D w0 E.r ρ' post w'/\LocsLe (ρ.take E.m0) ρ'/\VRel (Dof D ρ' post) w' ρ' X u:=by
  intro hk;obtain⟨ρ1,hs,hN,hdf,hfr⟩:=hr;refine⟨hdf,?_⟩;simp only[retS]at hk;split at hk
  ·rename_i v hv;obtain⟨x,hx,hxr⟩:=W4 hE hs hfr hv;have hrel':Rel ⟨D,w0,E.r,0,ρ.take E.m0⟩ ⟨asg [(0,v)],σ.bl⟩ ⟨#[x],[]⟩ w':=by
    refine⟨ρ1,hs,⟨Nat.zero_le _,hN.2⟩,rfl,fun t=>?_⟩;show VRel _ _ _ (if t=0 then v else .c .any) _;split
    ·rename_i e;subst e;exact hxr
    ·trivial
   obtain⟨ρ2,hs2,hN2,_,hf2⟩:=hk ⟨D,w0,E.r,0,ρ.take E.m0⟩ _ _ (by show(ρ.take E.m0).length<=E.m0;rw[List.length_take];omega) hrel';exact⟨x,hx,x,ρ2,rfl,hs2,hN2.2,hf2 0⟩
  ·exact hk.elim
 cases e with
 | normal=>exact fin hk
 | ret=>exact fin hk
 | exit i=>exact hk.elim
 | goto l=>exact hk.elim
 | panic ch=>exact hk.elim
 | outgrown=>exact hk.elim
def OpGoT (E:Env) (m:Nat) (o:Oper) (σ σ':St):Prop:=∀ {C:Ctx} {a:Act} {w:World} {next:Act->World->Prop} {Q:Exit->Act->World->Prop},C.r=E.r->C.ρ0.length<=m->yX C.N o.dst->Rel C σ a w->(∀ a' w',Rel C σ' a' w'->next a' w')->o.wp E.P a w next Q
theorem aops_app2 {E : Env} (hE : EnvOK E) {C : Ctx} (hC : C.r = E.r) {ops : Array Oper} {Q : Exit → Act → World → Prop} {K : St → Prop} {l2 : List Oper} (hQ : ∀ σ a w, K σ → Rel C σ a w → wpList E.P ops Q l2 a w) :
  ∀(l:List Oper) (σ:St) (a:Act) (w:World),(∀ o∈l,yX C.N o.dst)->aops E ops l σ K->Rel C σ a w->wpList E.P ops Q (l++l2) a w
 | [],σ,a,w,_,h,hr=>hQ σ a w h hr
 | o :: rest,σ,a,w,hd,h,hr=>by
  have ih:=fun σ a w=>aops_app2 (ops:=ops) hE hC hQ rest σ a w (fun o ho=>hd o (by simp[ho]));rw[List.cons_append];unfold wpList;simp only[aops]at h;split at h
  ·rename_i hg;rw[if_pos (by simp[Region.wanted,hg])];exact .inl (UK hE hC h (hd o (by simp)) hr fun σ' a' w' hk hrel=>ih σ' a' w' hk hrel)
  ·rename_i g want hg;split at h
   ·rename_i d b hgv;have h:=cs_iff.1 h;rw[xK,jv]at h;obtain⟨hy,hv,hlt,htm⟩:=WF (a:=a) (w:=w) hgv (by obtain⟨ρ,hs,hN,hdf,hf⟩:=hr;exact fun d _=>⟨_,ρ,hf d⟩);have hwt:Region.wanted o (yielded ops a.tmps)=(b == want):=by
     unfold Region.wanted;rw[hg];simp only[hy];rfl
    rw[hwt];by_cases e:b=want
    ·rw[if_pos (by simp[e])];refine .inl (UK hE hC (h.1 e) (hd o (by simp)) (UP hr fun D ρ=>?_) fun σ' a' w' hk hrel=>ih σ' a' w' hk hrel);rw[hv,e];rfl
    ·have e':b=!want:=by cases b <;> cases want <;> simp_all
     rw[if_neg (by simpa using e)];have h2:Rel C (σ.put (some d) (.c (.bool !want))) a w:=UP hr fun D ρ=>by rw[hv,e'];rfl
     obtain⟨ρ,hs,hN,hdf,hf⟩:=h2;exact ih _ _ _ (h.2 e') (Rel.put hs hN hdf hf (hd o (by simp)) rfl)
   ·split at h
    ·rename_i hgu;have hy:=guard_un (a:=a) (w:=w) hgu (by obtain⟨ρ,hs,hN,hdf,hf⟩:=hr;exact fun d _=>⟨_,ρ,hf d⟩);have hwt:Region.wanted o (yielded ops a.tmps)=false:=by
      unfold Region.wanted;rw[hg];simp only[hy];rfl
     rw[hwt,if_neg (by simp)];obtain⟨ρ,hs,hN,hdf,hf⟩:=hr;exact ih _ _ _ h (Rel.put hs hN hdf hf (hd o (by simp)) rfl)
    ·exact h.elim
theorem OpGoT.call0 {E : Env} {m : Nat} {o : Oper} {σ : St} {g : Operand} {args : Array Operand} {ts : Array TypeId} (hx : o.op = .call { callee := .value g, args, argTypes := ts }) {f : FuncId} {cs : List Cell} (hg : calleeX σ g = some (f, cs)) (hst : ∀ B ∈ σ.bl, B.st = 0 ∨ 2 ≤ B.st) {X : V} {bl' : List Blk}
  (hS:FnT E.P E.r f m σ.bl ((args.toList.map fun x=>σ.ev x)++cs.map V.c) X bl') (hlt:∀ t,(σ.tm t).lt m=true):OpGoT E m o σ (St.put ⟨σ.tm,bl'⟩ o.dst X):=by
 intro C a w next Q hC hm hd hr hn
 obtain⟨ρ0,hs0,hN,hdf,hf0⟩:=hr;have hev:∀ x,VRel (Dof C.D0 ρ0 σ.bl) w ρ0 (σ.ev x) (a.eval x):=fun x=>kX hf0 x;obtain⟨caps,hca,hcr⟩:=calleeX_eval hg (hev g);have s3:=hs0.rebase hst;have hv2:VRels (Dof C.D0 ρ0 σ.bl) w ρ0 ((args.toList.map fun x=>σ.ev x)++cs.map V.c) (args.toList.map a.eval++caps.toList) :=
  (VRels.map args.toList fun x _=>hev x).append (VRels.cells (by simpa using hcr))
 rw[<- hC]at hS;unfold Oper.wp;rw[exec_callc hx hca hS.1,Oper.upon_enter];have:=hS.2 _ _ _ _ _ s3 hv2;rw[show(args.toList.map a.eval++caps.toList).toArray=args.map a.eval++caps by
  rw[<- Array.toList_map,<- Array.toList_append,Array.toArray_toList]]at this
 refine this.mono ?_;rintro e w' ⟨v,ρ',rfl,q1,q2,q3⟩;obtain⟨b1,b2,b3⟩:=hs0.unbase q1;refine hn _ _ ?_;have hf1:∀ t,VRel (Dof C.D0 ρ' bl') w' ρ' (σ.tm t) (a.tmps.getD t undef):=fun t =>
  ((hf0 t).take (hlt t)).step b2 b3 q2
 exact Rel.put (σ:=⟨σ.tm,bl'⟩) b1 ⟨hN.1,(hN.2.take hm).trans q2⟩ hdf hf1 hd q3
theorem vK {E : Env} (hE : EnvOK E) {N id : Nat} {ops : Array Oper} {pre post : List Oper} {o : Oper} (hl : ops.toList = pre ++ o :: post) (hg : o.guard = none) (hdst : (ops.toList.all (dstB N)) = true) {σ : St} {R : Exit → St → Prop}
  (h:aops E ops pre σ fun τ=>∃ m τ',E.m0<=m/\OpGoT E m o τ τ'/\aops E ops post τ' (R .normal)):Swp E N (.region id ops false) σ R:=by
 refine⟨fun C a w h1 h2 h3 hr=>?_⟩;have hdo:∀ o'∈ops.toList,yX C.N o'.dst:=by
  intro o' ho d hd';have:=List.all_eq_true.1 hdst o' ho;unfold dstB at this;rw[hd']at this;rw[h3];simpa using this
 refine wp_region_list ?_;rw[hl]at hdo ⊢
 refine aops_app2 hE h1 (fun τ a w hk hrel=>?_) pre σ a w (fun o' ho=>hdo o' (by simp[ho])) h hr;obtain⟨m,τ',hm,hgo,hrest⟩:=hk;unfold wpList;rw[if_pos (by simp[Region.wanted,hg])];refine .inl (hgo h1 (Nat.le_trans h2 hm) (hdo o (by simp)) hrel fun a' w' hrel'=>?_);exact aops_sound hE h1 (fun σ a w hk hrel=>⟨σ,hrel,hk⟩) post _ a' w' (fun o' ho=>hdo o' (by simp[ho])) hrest hrel'
theorem Weak.genT0 {tm:Nat->V} {bl:List Blk} {tl:List (Nat × V)} {xs:List Gx} (pre:List Blk) (hp0:pre=[]) (hpre:bl.take pre.length=pre) (hst2:pre.all (fun B=>Nat.ble 2 B.st)=true) (ks:List (Option Nat)) (hi:injK ks=true) (hb:srcsG pre.length bl ks ks xs) (hl:Vp tl fun p=>gP pre.length bl ks (tm p.1) p.2):(h0:ks[0]? = some (some 0))->(hu:∃ B,bl[0]? = some B/\B.u=0/\B.st<=1)->Weak 1 ⟨tm,bl⟩ ⟨asg tl,pre++xs.map gb⟩:=by
 rintro h0 ⟨B0,hB0,hu0,hst0⟩ C a w hm0 ⟨ρ,hs,hN,hdf,hf⟩;obtain⟨hlen,hget⟩:=srcsG_get hb;have hlb:bl.length=ρ.length:=hs.len.symm;have hq:pre.length<=ρ.length:=by
  have:=congrArg List.length hpre;rw[List.length_take]at this;omega
 have hql:(ρ.take pre.length).length=pre.length:=by rw[List.length_take];omega
 have get:∀(j:Nat) (l:Loc) (B:Blk),(ρ.take pre.length++ks.map (yQ ρ))[j]? = some l->(pre++xs.map gb)[j]? = some B->2<=B.st∨pre.length<=j/\((∃(k:Nat) (lk:Loc) (Bk:Blk),ks[j-pre.length]? = some (some k)/\ρ[k]? = some lk/\bl[k]? = some Bk/\l={ lk with u:=0 }/\B.t=Bk.t/\B.sz=Bk.sz/\B.n=Bk.n/\Bk.st=0/\B.st=0/\B.u=0/\∀ i j,i<B.n->j<B.sz->zF pre.length bl ks (B.f i j) fun y=>Bk.f i j=y)∨(l=⟨0,none,0,0⟩/\B.n=0/\B.u=0)):=by
  intro j l B e1 e2;rcases Nat.lt_or_ge j pre.length with hj | hj
  ·left;rw[List.getElem?_append_left hj]at e2;exact Nat.le_of_ble_eq_true (List.all_eq_true.1 hst2 B (List.mem_of_getElem? e2))
  right;refine⟨hj,?_⟩;rw[List.getElem?_append_right (by omega),hql,List.getElem?_map]at e1;rw[List.getElem?_append_right hj,List.getElem?_map]at e2;cases hx:xs[j-pre.length]? with
  | none=>rw[hx]at e2;cases e2
  | some x =>
   rw[hx]at e2;simp at e2;obtain⟨k,hk,hsrc⟩:=hget _ x hx;rw[hk]at e1;simp at e1;subst e1 e2;cases k with
   | none=>exact .inr ⟨rfl,hsrc,rfl⟩
   | some k =>
    obtain⟨Bk,q1,q2,q3,q4,q5,q6⟩:=hsrc;have hkl:k<ρ.length:=by rw[hs.len];exact(List.getElem?_eq_some_iff.1 q1).1
    refine .inl ⟨k,ρ[k],Bk,hk,List.getElem?_eq_getElem hkl,q1,?_,q2.symm,q3.symm,q4.symm,q5,rfl,rfl,q6⟩;simp[yQ,List.getD,List.getElem?_eq_getElem hkl]
 have hD:∀ b,Dof C.D0 (ρ.take pre.length++ks.map (yQ ρ)) (pre++xs.map gb) b->Dof C.D0 ρ bl b:=by
  rintro b (hx | ⟨j,l,B,e1,e2,e3,e4⟩)
  ·exact .inl hx
  ·rcases get j l B e1 e2 with q0 | ⟨_,⟨k,lk,Bk,q1,q2,q3,q4,q5,q6,q7,q8,q9,q10⟩ | ⟨q1,q2⟩⟩
   ·omega
   ·subst q4;exact .inr ⟨k,lk,Bk,q2,q3,q8,e4⟩
   ·subst q1;cases e4
 have at_j:∀ j k,pre.length.ble j=true->ks[j-pre.length]? = some k->(ρ.take pre.length++ks.map (yQ ρ))[j]? = some (yQ ρ k):=fun j k h1 h2=>by
  have:=Nat.le_of_ble_eq_true h1;rw[List.getElem?_append_right (by omega),hql,List.getElem?_map,h2];rfl
 have out:∀(k:Nat) (l:Loc) (B:Blk) (b:Nat),ρ[k]? = some l->bl[k]? = some B->B.st<=1->l.b=some b->pre.length.ble k=true->(ks.any fun x=>x == some k)=false->¬ Dof C.D0 (ρ.take pre.length++ks.map (yQ ρ)) (pre++xs.map gb) b:=by
  rintro k l B b p1 p2 p3 p4 p5 p6 (hx | ⟨j,l',B',e1,e2,e3,e4⟩)
  ·have h1:=hs.own p1 p2 p3 p4;have h2:=hs.d0 b hx;rcases h1 with h1 | h1
   ·have:=h2.1;have h3:C.w0.heap.size<=b:=h1;omega
   ·exact h2.2 h1
  ·rcases get j l' B' e1 e2 with q0 | ⟨_,⟨k',lk,Bk,q1,q2,q3,q4,q5,q6,q7,q8,q9,q10⟩ | ⟨q1,q2⟩⟩
   ·omega
   ·subst q4;have:=hs.dist k k' l lk B Bk b p1 q2 p2 q3 p3 (by omega) p4 e4;subst this;have:=List.any_eq_false.1 p6 (some k) (List.mem_of_getElem? q1);simp at this
   ·subst q1;cases e4
 refine⟨ρ.take pre.length++ks.map (yQ ρ),⟨hs.below,hs.d0,by rw[List.length_append,hql];simp[hlen],fun j l B e1 e2 hst=>?_,fun i j li lj Bi Bj b e1 e2 e3 e4 e5 e6 e7 e8=>?_,fun hr b o d hb=>hs.noU hr b o d (hD b hb)⟩,⟨hN.1,fun k l h=>?_⟩,hdf,fun t=>?_⟩
 ·rcases get j l B e1 e2 with q0 | ⟨_,⟨k,lk,Bk,q1,q2,q3,q4,q5,q6,q7,q8,q9,q10,q11⟩ | ⟨q1,q2,q3⟩⟩
  ·omega
  ·subst q4;refine⟨q10.symm,?_⟩;rcases(hs.at_ k lk Bk q2 q3 (by omega)).2 with⟨g1,g2,g3⟩ | ⟨b,cap,cs,g2,g3,g4,g5,g6,g7,g8,g9⟩
   ·exact .inl ⟨q7.trans g1,g2,g3⟩
   ·refine .inr ⟨b,cap,cs,g2,g3,by rw[q7];exact g4,by rw[q5];exact g5,by rw[q6];exact g6,by rw[q7];exact g7,g8,fun x y hx hy=>?_⟩;obtain⟨u,hu,hur⟩:=g9 x y (by omega) (by omega);refine⟨u,by rw[q6];exact hu,?_⟩;rw[if_pos q8]at hur;rw[if_pos q9];exact U6 hs hD at_j out (q11 x y hx hy) fun z hz=>by subst hz;exact hur
  ·subst q1;exact⟨q3.symm,.inl ⟨q2,rfl,rfl⟩⟩
 ·rcases get i li Bi e1 e3 with q0 | ⟨hi1,⟨k,lk,Bk,q1,q2,q3,q4,q5,q6,q7,q8,q9,q10⟩ | ⟨q1,q2⟩⟩
  ·omega
  ·rcases get j lj Bj e2 e4 with p0 | ⟨hj1,⟨k',lk',Bk',p1,p2,p3,p4,p5,p6,p7,p8,p9,p10⟩ | ⟨p1,p2⟩⟩
   ·omega
   ·subst q4 p4;have:=hs.dist k k' lk lk' Bk Bk' b q2 p2 q3 p3 (by omega) (by omega) e7 e8;subst this;have:=injK_eq hi q1 p1;omega
   ·subst p1;cases e8
  ·subst q1;cases e7
 ·obtain⟨l',h1,h2⟩:=hN.2 k l h;have hk:k<1:=Nat.lt_of_lt_of_le (List.getElem?_eq_some_iff.1 h).1 hm0;obtain rfl:k=0:=by omega
  subst hp0;refine⟨l',?_,h2⟩;have hu:=(hs.at_ 0 l' B0 h1 hB0 hst0).1;show([]++ks.map (yQ ρ))[0]? = some l';rw[List.nil_append,List.getElem?_map,h0];show some { ρ.getD 0 ⟨0,none,0,0⟩with u:=0 }=some l';rw[List.getD_eq_getElem?_getD,h1];show some { l' with u:=0 }=some l';cases l';simp only[Option.some.injEq,Loc.mk.injEq,and_true]
  simp_all
 ·rcases asg_mem tl t with e | e
  ·show VRel _ _ _ (asg tl t) _;rw[e];trivial
  ·have e1:=U4 hl _ e;have e2:VRel (Dof C.D0 ρ bl) w ρ (tm t) (a.tmps.getD t undef):=hf t;show VRel _ _ _ (asg tl t) _;generalize asg tl t=y at e1 ⊢
   have e1:gP pre.length bl ks (tm t) y:=e1;have fin:∀ y:V,tm t=y/\y.clos=true->VRel (Dof C.D0 (ρ.take pre.length++ks.map (yQ ρ)) (pre++xs.map gb)) w (ρ.take pre.length++ks.map (yQ ρ)) y (a.tmps.getD t undef):=fun y h=>by
    rw[h.1]at e2;exact(e2.clos h.2).step (Ext.refl _ _) (fun b _ hb=>hD b hb) (LocsLe.refl _)
   have fin2:∀ y:V,tm t=y/\wJ y=true->VRel (Dof C.D0 (ρ.take pre.length++ks.map (yQ ρ)) (pre++xs.map gb)) w (ρ.take pre.length++ks.map (yQ ρ)) y (a.tmps.getD t undef):=fun y h=>by
    rw[h.1]at e2;exact(xW e2 h.2).step (Ext.refl _ _) (fun b _ hb=>hD b hb) (LocsLe.refl _)
   match y,e1 with
   | .c y,e1 =>
    exact U6 hs hD at_j out e1 fun x hx=>by
     have hx:tm t = .c x:=hx;rw[hx]at e2;exact e2
   | .g l,e1 =>
    rcases e1 with⟨h1,h2⟩ | ⟨l',h1,h2⟩
    ·exact fin _ ⟨h1,h2⟩
    ·rw[h1]at e2;obtain⟨vs,h3,h4⟩:=e2;exact⟨vs,h3,regL_rel hs hD at_j out h2 h4⟩
   | .t2 ..,e1=>exact fin2 _ e1
   | .t3 ..,e1=>exact fin2 _ e1
   | .t4 ..,e1=>exact fin2 _ e1
   | .un,e1=>exact fin2 _ e1
theorem Weak.genT {tm:Nat->V} {bl:List Blk} {tl:List (Nat × V)} {xs:List Gx} (ks:List (Option Nat)) (hi:injK ks=true) (h0:ks[0]? = some (some 0)) (hu:∃ B,bl[0]? = some B/\B.u=0/\B.st<=1) (hb:srcsG 0 bl ks ks xs) (hl:Vp tl fun p=>gP 0 bl ks (tm p.1) p.2):Weak 1 ⟨tm,bl⟩ (gst tl xs) :=
 Weak.genT0 [] rfl rfl rfl ks hi hb hl h0 hu
theorem swp_cond {E:Env} {N:Nat} {c:Operand} {x y:Code} {σ:St} {R:Exit->St->Prop} {b:Bool} (hb:σ.ev c = .c (.bool b)) (h1:b=true->Swp E N x σ R) (h2:b=false->Swp E N y σ R):Swp E N (.cond c x y) σ R:=⟨fun C a w g1 g2 g3 hr=>by
 have he:a.eval c = .bool b:=by
  obtain⟨ρ,hs,hN,hdf,hf⟩:=hr;have:=kX hf c;rw[hb]at this;exact this
 exact wp_cond_split he (fun e=>(h1 e).run C a w g1 g2 g3 hr) (fun e=>(h2 e).run C a w g1 g2 g3 hr)⟩
theorem qF {E:Env} {N:Nat} {x y:Code} {σ:St} {R:Exit->St->Prop} {α:Type} (S:α->St) (I:α->Prop) (h1:Swp E N x σ (seqR (fun σ'=>∃ a,I a/\Weak E.m0 σ' (S a)) R)) (h2:∀ a,I a->Swp E N y (S a) R):Swp E N (.seq x y) σ R:=by
 refine⟨fun C a w g1 g2 g3 hr=>?_⟩;refine wp_seq (wp_mono (h1.run C a w g1 g2 g3 hr) ?_);rintro e a' w' ⟨σ',hrel,hk⟩;cases e with
 | normal =>
  obtain⟨p,hp,hw⟩:=hk;exact(h2 p hp).run C a' w' g1 g2 g3 (hw C a' w' g2 hrel)
 | _=>exact⟨σ',hrel,hk⟩
theorem Swp.mono {E:Env} {N:Nat} {x:Code} {σ:St} {R R':Exit->St->Prop} (h:Swp E N x σ R) (k:∀ e τ,R e τ->R' e τ):Swp E N x σ R':=by
 refine⟨fun C a w g1 g2 g3 hr=>wp_mono (h.run C a w g1 g2 g3 hr) ?_⟩;rintro e a' w' ⟨σ',hrel,hk⟩;exact⟨σ',hrel,k e σ' hk⟩
theorem V4 {E:Env} {N:Nat} {x y z:Code} {σ:St} {R:Exit->St->Prop} {α:Type} (S:α->St) (I:α->Prop) (h1:Swp E N x σ (seqR (fun σ1=>Swp E N y σ1 (seqR (fun σ'=>∃ a,I a/\Weak E.m0 σ' (S a)) R)) R)) (h2:∀ a,I a->Swp E N z (S a) R):Swp E N (.seq x (.seq y z)) σ R :=
 jq (h1.mono fun e τ h=>by
  cases e with
  | normal=>exact qF S I h h2
  | _=>exact h)
theorem OpGoT.weak {E:Env} {m:Nat} {o:Oper} {σ σ1 σ':St} (h:Weak m σ σ1) (k:OpGoT E m o σ1 σ'):OpGoT E m o σ σ':=fun hC hm hd hr hn=>k hC hm hd (h _ _ _ hm hr) hn
theorem swp_weak {E:Env} {N:Nat} {c:Code} {σ σ2:St} {R:Exit->St->Prop} (hw:Weak E.m0 σ σ2) (h:Swp E N c σ2 R):Swp E N c σ R:=⟨fun C a w h1 h2 h3 hr=>h.run C a w h1 h2 h3 (hw C a w h2 hr)⟩
end Go.Proofs.YtkmbnldginonbaaGreat
set_option maxHeartbeats 32000000
namespace Go.Proofs.YtkmbnldginonbaaGreat
open Go.RowKit
namespace Mx
open Rf
theorem cleared_ok {m c:Nat} {r p:Nat->Rat} (hm:m<=1024) (hc:c<m) (hr:∀ j,j<m->qlen (r j)<=65535) (hp:∀ j,j<m->qlen (p j)<=65535):FnOK Tryz.prog false 153 [.c (nql m r),.c (nql m p),.c (.int .i64 (c:Nat))] (.c (nql m (gcl c p r))):=by
 have s0:=Wv (x:=r c) (by have:=hr c hc;omega);have n0:=rqneg_n (x:=r c) (by have:=hr c hc;omega);have c0:FnOK Tryz.prog false 63 [.c (nql m r),.g (nq (-(r c))),.c (nql m p)] (.c (nql m (gcl c p r))):=rcomb_ok hm hr hp (by rw[show qlen (-(r c))=qlen (r c)from q_neg _];exact hr c hc);have z0:r c=0->∀ j,j<m->r j=gcl c p r j:=fun e j _=>by
  show r j=r j + -(r c)*p j;rw[e,Rat.neg_zero,Rat.zero_mul,Rat.add_zero]
 generalize gcl c p r=z at *;refine qV (E:=E0) qw Tryz.func153 rfl mixed (by kernel_rfl) (by kernel_rfl) ?_;conv=>whnf
 refine⟨by omega,by omega,?_⟩;conv=>whnf
 refine⟨_,s0,?_⟩;conv=>whnf
 refine qg (fun(h:decide ((r c).num.sign=0)=true)=>?_) fun(h:decide ((r c).num.sign=0)=false)=>?_
 ·have z0:=z0 ((jf _).1 (of_decide_eq_true h));conv=>whnf
  exact⟨rfl,zg rfl fun i j hi _=>congrArg (fun x=>(rr (ofR x)).getD j .any) (z0 i hi)⟩
 ·conv=>whnf
  refine⟨by omega,by omega,?_⟩;conv=>whnf
  refine⟨_,n0,?_⟩;conv=>whnf
  refine⟨_,c0,?_⟩;conv=>whnf
  exact⟨rfl,Sub.refl _⟩
structure Rnd9 (m : Nat) (N R κ : Nat → Nat) (α ω : Nat → Nat → Nat → Rat) (π : Nat → Nat → Nat) (ρ : Nat → Nat → Rat) : Prop where
 hm:m<=1024
 hN:∀ c,c<=m->N c<=1024
 hR:∀ c,c<=m->R c<=1024
 r0:R 0=0
 k1:∀ c,c<m->κ c<=N c
 k2:∀ c j,c<m->j<κ c->α c j c=0
 k3:∀ c,c<m->κ c<N c->α c (κ c) c≠0
 n1:∀ c,c<m->κ c=N c->N (c+1)=N c/\R (c+1)=R c/\α (c+1)=α c/\ω (c+1)=ω c/\π (c+1)=π c
 n2:∀ c,c<m->κ c<N c->N (c+1)=N c-1/\R (c+1)=R c+1
 a2:∀ c,c<m->κ c<N c->∀ i,i<N c-1->α (c+1) i=gcl c (ρ c) (α c (if i<κ c then i else i+1))
 o2:∀ c,c<m->κ c<N c->∀ i,i<R c->ω (c+1) i=gcl c (ρ c) (ω c i)
 o3:∀ c,c<m->κ c<N c->ω (c+1) (R c)=ρ c
 p2:∀ c,c<m->κ c<N c->∀ i,i<R c->π (c+1) i=π c i
 p3:∀ c,c<m->κ c<N c->π (c+1) (R c)=c
 st:∀ c,c<=m->N c=0->R c=R m/\ω c=ω m/\π c=π m
 la:∀ c i j,c<=m->i<N c->j<m->qlen (α c i j)<=60000
 lo:∀ c i j,c<=m->i<R c->j<m->qlen (ω c i j)<=60000
 lp:∀ c j,c<m->κ c<N c->j<m->qlen (ρ c j)<=65535
 rp:∀ c j,c<m->κ c<N c->j<m->0+1 / α c (κ c) c*α c (κ c) j=ρ c j
abbrev rlF (m:Nat) (α:Nat->Nat->Rat):Nat->Nat->Cell:=fun i _=>nql m (α i)
abbrev plF (π:Nat->Nat):Nat->Nat->Cell:=fun i _ => .int .i64 ((π i:Nat):Int)
abbrev rlB (m N:Nat) (α:Nat->Nat->Rat):Gx:=⟨22,1,N,rlF m α⟩
abbrev plB (N:Nat) (π:Nat->Nat):Gx:=⟨3,1,N,plF π⟩
theorem zW {q:Nat} {bl:List Blk} {ks:List (Option Nat)} {m:Nat} {v w:Nat->Rat} {c:Cell} (hc:c=nql m w) (h:∀ i,i<m->w i=v i):zF q bl ks (nql m v) fun y=>c=y := .inl ⟨_,_,hc,rfl,fun i j hi _=>congrArg (fun x=>(rr (ofR x)).getD j .any) (h i hi)⟩
theorem kG {bl:List Blk} {r:Prop} {m x y:Nat} {v:Nat->Rat} (hx:x<1) (hy:y<1):St.one bl (xJ 1 [nql m v] x y)=true/\(r->(xJ 1 [nql m v] x y).noU=true):=by
 obtain rfl:x=0:=by omega
 obtain rfl:y=0:=by omega
 exact⟨rfl,fun _=>rfl⟩
theorem one_int {bl:List Blk} {r:Prop} {x y:Nat} {z:Int} (hx:x<1) (hy:y<1):St.one bl (xJ 1 [.int .i64 z] x y)=true/\(r->(xJ 1 [.int .i64 z] x y).noU=true):=by
 obtain rfl:x=0:=by omega
 obtain rfl:y=0:=by omega
 exact⟨rfl,fun _=>rfl⟩
theorem app_rl {q:Nat} {bl:List Blk} {ks:List (Option Nat)} {m N i j:Nat} {α β:Nat->Nat->Rat} {v:Nat->Rat} (hi:i<N+1) (hj:j<1) (h1:∀ i,i<N->α i=β i) (h2:v=β N):zF q bl ks (nql m (β i)) fun y=>zB N (rlF m α) (xJ 1 [nql m v]) i j=y:=by
 obtain rfl:j=0:=by omega
 refine zW (w:=β i) ?_ fun _ _=>rfl;unfold zB;by_cases h:i<N
 ·rw[if_pos h];show nql m (α i)=_;rw[h1 i h]
 ·rw[if_neg h];obtain rfl:i=N:=by omega
  rw[Nat.sub_self,<- h2];rfl
theorem app_pl {q:Nat} {bl:List Blk} {ks:List (Option Nat)} {N i j:Nat} {π τ:Nat->Nat} {z:Int} (hi:i<N+1) (hj:j<1) (h1:∀ i,i<N->π i=τ i) (h2:z=(τ N:Nat)):zF q bl ks (.int .i64 ((τ i:Nat):Int)) fun y=>zB N (plF π) (xJ 1 [.int .i64 z]) i j=y:=by
 obtain rfl:j=0:=by omega
 refine qY ?_ rfl;unfold zB;by_cases h:i<N
 ·rw[if_pos h];show Cell.int .i64 ((π i:Nat):Int)=_;rw[h1 i h]
 ·rw[if_neg h];obtain rfl:i=N:=by omega
  rw[Nat.sub_self,<- h2];rfl
def omid (c:Nat) (ρ:Nat->Rat) (ω:Nat->Nat->Rat) (i k:Nat):Nat->Rat:=if k<i then gcl c ρ (ω k)else ω k
theorem omid_upd {q:Nat} {bl:List Blk} {ks:List (Option Nat)} {m c t i j:Nat} {ρ:Nat->Rat} {ω:Nat->Nat->Rat} (hj:j<1):zF q bl ks (nql m (omid c ρ ω (t+1) i)) fun y=>zY (rlF m (omid c ρ ω t)) t 0 [nql m (gcl c ρ (ω t))] i j=y:=by
 obtain rfl:j=0:=by omega
 refine zW (w:=omid c ρ ω (t+1) i) ?_ fun _ _=>rfl;unfold zY;by_cases h:i=t
 ·subst h;rw[if_pos ⟨rfl,Nat.le_refl 0,Nat.lt_succ_self 0⟩];show nql m (gcl c ρ (ω i))=_;unfold omid;rw[if_pos (Nat.lt_succ_self i)]
 ·rw[if_neg fun e=>h e.1];show nql m (omid c ρ ω t i)=_;unfold omid;by_cases h2:i<t
  ·rw[if_pos h2,if_pos (by omega)]
  ·rw[if_neg h2,if_neg (by omega)]
def rkn (κ i:Nat):Nat:=if i<=κ then i else i-1
theorem rkn_at {κ i:Nat} (h:i≠κ):rkn κ (i+1)=rkn κ i+1/\(if rkn κ i<κ then rkn κ i else rkn κ i+1)=i:=by
 unfold rkn;rcases Nat.lt_or_ge i κ with e | e
 ·rw[if_pos (by omega),if_pos (by omega),if_pos (by omega)];exact⟨rfl,rfl⟩
 ·rw[if_neg (by omega),if_neg (by omega),if_neg (by omega)];omega
theorem rkn_eq (κ:Nat):rkn κ (κ+1)=rkn κ κ:=by
 unfold rkn;rw[if_neg (by omega),if_pos (Nat.le_refl κ)];omega
def rkf (c κ:Nat) (ρ:Nat->Rat) (α:Nat->Nat->Rat) (i:Nat):Nat->Rat:=gcl c ρ (α (if i<κ then i else i+1))
set_option maxRecDepth 100000 in
theorem reduce_walk {m:Nat} {N R κ:Nat->Nat} {α ω:Nat->Nat->Nat->Rat} {π:Nat->Nat->Nat} {ρ:Nat->Nat->Rat} (h:Rnd9 m N R κ α ω π ρ):FnOK Tryz.prog false 124 [.c (.int .i64 (m:Nat)),.c (.row 1 (N 0) (rlF m (α 0)))] (.t2 (.c (.row 1 (R m) (rlF m (ω m)))) (.c (.row 1 (R m) (plF (π m))))):=by
 obtain⟨hm,hN,hR,r0,k1,k2,k3,n1,n2,a2,o2,o3,p2,p3,st,la,lo,lp,rp⟩:=h;have z0:=Xx (n:=m) hm;have q1:=vZ (n:=1) (by decide) (by decide);refine jy (E:=E0) qw Tryz.func124 rfl (by kernel_rfl) ?_;refine qf qw mixed (by kernel_rfl) ?_;conv=>whnf
 refine qf qw mixed (by kernel_rfl) ?_;conv=>whnf
 refine qf qw mixed (by kernel_rfl) ?_;conv=>whnf
 refine⟨by show 0+N 0<=16777216;have:=hN 0 (Nat.zero_le m);omega,fun _ _ _ _=>⟨rfl,fun _=>rfl⟩,?_⟩;conv=>whnf
 refine qf qw mixed (by kernel_rfl) ?_;conv=>whnf
 refine qf qw mixed (by kernel_rfl) ?_;conv=>whnf
 refine qF (fun _:Unit=>gst [(7,.c (.gs 0 0)),(8,.c (.gs 1 0))] [rlB m (R m) (ω m),plB (R m) (π m)]) (fun _=>True) ?_ fun _ _=>?_;rotate_left
 ·refine qJ qw mixed (by kernel_rfl) ?_;conv=>whnf
  refine⟨fun _ _ _ _=>rfl,?_⟩;conv=>whnf
  refine⟨fun _ _ _ _=>rfl,?_⟩;conv=>whnf
  exact⟨rfl,Sub.refl _⟩
 refine qy qw mixed (by kernel_rfl) ?_;conv=>whnf
 refine⟨(fun c:Nat=>gst [(0,.c (.int .i64 ((m:Nat):Int))),(6,.c (.row 1 (N c) (rlF m (α c)))),(7,.c (.gs 0 0)),(8,.c (.gs 1 0)),(9,.c (.int .i64 ((c:Nat):Int)))] [rlB m (R c) (ω c),plB (R c) (π c)]) 0,Weak.gen [none,none] rfl ⟨r0,r0,trivial⟩ ⟨⟨_,rfl,rfl⟩,.inr (.inr ⟨0,_,rfl,rfl,rfl,rfl,Nat.zero_le _,rfl,Nat.zero_add _,fun x y hx hy=>⟨rfl,rfl⟩⟩),rfl,rfl,⟨_,rfl,rfl⟩,trivial⟩,?_⟩;refine qq (qZ (fun c:Nat=>gst [(0,.c (.int .i64 ((m:Nat):Int))),(6,.c (.row 1 (N c) (rlF m (α c)))),(7,.c (.gs 0 0)),(8,.c (.gs 1 0)),(9,.c (.int .i64 ((c:Nat):Int)))] [rlB m (R c) (ω c),plB (R c) (π c)]) (fun c=>m-c) (fun c=>c<=m) 0 (Weak.refl _) (Nat.zero_le m) fun c hc=>?_);have hc:c<=m:=hc;have hN:=hN c hc;have hR:=hR c hc;have st:=st c hc;have la:=fun i j=>la c i j hc;have lo:=fun i j=>lo c i j hc;rcases Nat.lt_or_ge c m with cm | cm;rotate_left
 ·obtain rfl:c=m:=by omega
  refine qy qw mixed (by kernel_rfl) ?_;conv=>whnf
  refine jj (show decide ((c:Int)<(c:Int))=false from decide_eq_false (by omega)) ?_;conv=>whnf
  exact⟨(),trivial,Weak.gen [some 0,some 1] rfl ⟨⟨_,rfl,rfl,rfl,rfl,rfl,fun x y hx hy=>zW rfl fun _ _=>rfl⟩,⟨_,rfl,rfl,rfl,rfl,rfl,fun x y hx hy=>qY rfl rfl⟩,trivial⟩ ⟨⟨_,rfl,rfl,rfl⟩,⟨_,rfl,rfl,rfl⟩,trivial⟩⟩
 rcases Nat.eq_zero_or_pos (N c)with n0 | npos
 ·obtain⟨e1,e2,e3⟩:=st n0;refine qy qw mixed (by kernel_rfl) ?_;conv=>whnf
  refine xG (show decide ((c:Int)<(m:Int))=true from decide_eq_true (by omega)) ?_;conv=>whnf
  refine jj (show decide ((0:Int)<(N c:Int))=false from decide_eq_false (by omega)) ?_;conv=>whnf
  exact⟨(),trivial,Weak.gen [some 0,some 1] rfl ⟨⟨_,rfl,rfl,rfl,e1,rfl,fun x y hx hy=>zW rfl fun j _=>by rw[e2]⟩,⟨_,rfl,rfl,rfl,e1,rfl,fun x y hx hy=>qY (by rw[e3]) rfl⟩,trivial⟩ ⟨⟨_,rfl,rfl,rfl⟩,⟨_,rfl,rfl,rfl⟩,trivial⟩⟩
 clear st;have k1:=k1 c cm;have k2:=fun j=>k2 c j cm;have k3:=k3 c cm;have n1:=n1 c cm;have n2:=n2 c cm;have a2:=a2 c cm;have o2:=o2 c cm;have o3:=o3 c cm;have p2:=p2 c cm;have p3:=p3 c cm;have lp:=fun j=>lp c j cm;have rp:=fun j=>rp c j cm;refine qy qw mixed (by kernel_rfl) ?_;conv=>whnf
 refine xG (show decide ((c:Int)<(m:Int))=true from decide_eq_true (by omega)) ?_;conv=>whnf
 refine xG (show decide ((0:Int)<(N c:Int))=true from decide_eq_true (by omega)) ?_;conv=>whnf
 refine⟨gst [(0,.c (.int .i64 ((m:Nat):Int))),(6,.c (.row 1 (N c) (rlF m (α c)))),(7,.c (.gs 0 0)),(8,.c (.gs 1 0)),(9,.c (.int .i64 ((c:Nat):Int)))] [rlB m (R c) (ω c),plB (R c) (π c)],Weak.gen [some 0,some 1] rfl ⟨⟨_,rfl,rfl,rfl,rfl,rfl,fun x y hx hy=>zW rfl fun _ _=>rfl⟩,⟨_,rfl,rfl,rfl,rfl,rfl,fun x y hx hy=>qY rfl rfl⟩,trivial⟩ ⟨⟨_,rfl,rfl⟩,rO rfl,⟨_,rfl,rfl,rfl⟩,⟨_,rfl,rfl,rfl⟩,⟨_,rfl,rfl⟩,trivial⟩,?_⟩;refine qF (fun _:Unit=>gst [(0,.c (.int .i64 ((m:Nat):Int))),(6,.c (.row 1 (N (c+1)) (rlF m (α (c+1))))),(7,.c (.gs 0 0)),(8,.c (.gs 1 0)),(9,.c (.int .i64 ((c:Nat):Int)))] [rlB m (R (c+1)) (ω (c+1)),plB (R (c+1)) (π (c+1))]) (fun _=>True) ?_ fun _ _=>?_;rotate_left
 ·refine qJ qw mixed (by kernel_rfl) ?_;conv=>whnf
  refine⟨i64 (by omega) (by omega),?_⟩;conv=>whnf
  exact⟨c+1,by omega,Weak.gen [some 0,some 1] rfl ⟨⟨_,rfl,rfl,rfl,rfl,rfl,fun x y hx hy=>zW rfl fun _ _=>rfl⟩,⟨_,rfl,rfl,rfl,rfl,rfl,fun x y hx hy=>qY rfl rfl⟩,trivial⟩ ⟨⟨_,rfl,rfl⟩,rO rfl,⟨_,rfl,rfl,rfl⟩,⟨_,rfl,rfl,rfl⟩,⟨_,rfl,rfl⟩,trivial⟩,cm⟩
 refine qq ?_;refine qy qw mixed (by kernel_rfl) ?_;conv=>whnf
 refine⟨(fun i:Nat=>gst [(0,.c (.int .i64 ((m:Nat):Int))),(6,.c (.row 1 (N c) (rlF m (α c)))),(7,.c (.gs 0 0)),(8,.c (.gs 1 0)),(9,.c (.int .i64 ((c:Nat):Int))),(10,.c (.int .i64 ((i:Nat):Int)))] [rlB m (R c) (ω c),plB (R c) (π c)]) 0,Weak.gen [some 0,some 1] rfl ⟨⟨_,rfl,rfl,rfl,rfl,rfl,fun x y hx hy=>zW rfl fun _ _=>rfl⟩,⟨_,rfl,rfl,rfl,rfl,rfl,fun x y hx hy=>qY rfl rfl⟩,trivial⟩ ⟨⟨_,rfl,rfl⟩,rO rfl,⟨_,rfl,rfl,rfl⟩,⟨_,rfl,rfl,rfl⟩,⟨_,rfl,rfl⟩,⟨_,rfl,rfl⟩,trivial⟩,?_⟩;refine qF (fun _:Unit=>gst [(0,.c (.int .i64 ((m:Nat):Int))),(6,.c (.row 1 (N c) (rlF m (α c)))),(7,.c (.gs 0 0)),(8,.c (.gs 1 0)),(9,.c (.int .i64 ((c:Nat):Int))),(10,.c (.int .i64 ((κ c:Nat):Int)))] [rlB m (R c) (ω c),plB (R c) (π c)]) (fun _=>True) ?_ fun _ _=>?_
 ·refine qq (qZ (fun i:Nat=>gst [(0,.c (.int .i64 ((m:Nat):Int))),(6,.c (.row 1 (N c) (rlF m (α c)))),(7,.c (.gs 0 0)),(8,.c (.gs 1 0)),(9,.c (.int .i64 ((c:Nat):Int))),(10,.c (.int .i64 ((i:Nat):Int)))] [rlB m (R c) (ω c),plB (R c) (π c)]) (fun i=>N c-i) (fun i=>i<=κ c) 0 (Weak.refl _) (Nat.zero_le _) fun i hi=>?_);have hi:i<=κ c:=hi;have k2:=k2 i;have la:=la i c;have s0:=fun h=>Wv (x:=α c i c) (h:qlen _<=524286);rcases Nat.lt_or_ge i (N c)with il | il;rotate_left
  ·have e:i=κ c:=by omega
   refine qy qw mixed (by kernel_rfl) ?_;conv=>whnf
   refine jj (show decide ((i:Int)<(N c:Int))=false from decide_eq_false (by omega)) ?_;conv=>whnf
   exact⟨(),trivial,Weak.gen [some 0,some 1] rfl ⟨⟨_,rfl,rfl,rfl,rfl,rfl,fun x y hx hy=>zW rfl fun _ _=>rfl⟩,⟨_,rfl,rfl,rfl,rfl,rfl,fun x y hx hy=>qY rfl rfl⟩,trivial⟩ ⟨⟨_,rfl,rfl⟩,rO rfl,⟨_,rfl,rfl,rfl⟩,⟨_,rfl,rfl,rfl⟩,⟨_,rfl,rfl⟩,⟨_,rfl,by rw[<- e]⟩,trivial⟩⟩
  have s0:=s0 (by have:=la il cm;omega);have i0:(0:Int)<=(i:Int):=by omega
  have i1:(i:Int)<(N c:Int):=by omega
  have c0:(0:Int)<=(c:Int):=by omega
  have c1:(c:Int)<(m:Int):=by omega
  refine qy qw mixed (by kernel_rfl) ?_;conv=>whnf
  refine xG (show decide ((i:Int)<(N c:Int))=true from decide_eq_true i1) ?_;conv=>whnf
  repeat (refine⟨by first | exact i0 | exact i1 | exact c0 | exact c1,?_⟩;conv=>whnf)
  refine⟨_,s0,?_⟩;conv=>whnf
  refine qg (fun(h:decide ((α c i c).num.sign=0)=true)=>?_) fun(h:decide ((α c i c).num.sign=0)=false)=>?_
  ·have h0:α c i c=0:=(jf _).1 (of_decide_eq_true h);have ik:i<κ c:=Nat.lt_of_le_of_ne hi fun e=>k3 (by omega) (by rw[<- e];exact h0);conv=>whnf
   refine⟨gst [(0,.c (.int .i64 ((m:Nat):Int))),(6,.c (.row 1 (N c) (rlF m (α c)))),(7,.c (.gs 0 0)),(8,.c (.gs 1 0)),(9,.c (.int .i64 ((c:Nat):Int))),(10,.c (.int .i64 ((i:Nat):Int)))] [rlB m (R c) (ω c),plB (R c) (π c)],Weak.gen [some 0,some 1] rfl ⟨⟨_,rfl,rfl,rfl,rfl,rfl,fun x y hx hy=>zW rfl fun _ _=>rfl⟩,⟨_,rfl,rfl,rfl,rfl,rfl,fun x y hx hy=>qY rfl rfl⟩,trivial⟩ ⟨⟨_,rfl,rfl⟩,rO rfl,⟨_,rfl,rfl,rfl⟩,⟨_,rfl,rfl,rfl⟩,⟨_,rfl,rfl⟩,⟨_,rfl,rfl⟩,trivial⟩,?_⟩;refine qq ?_;refine qJ qw mixed (by kernel_rfl) ?_;conv=>whnf
   refine⟨i64 (by omega) (by omega),?_⟩;conv=>whnf
   exact⟨i+1,by omega,Weak.gen [some 0,some 1] rfl ⟨⟨_,rfl,rfl,rfl,rfl,rfl,fun x y hx hy=>zW rfl fun _ _=>rfl⟩,⟨_,rfl,rfl,rfl,rfl,rfl,fun x y hx hy=>qY rfl rfl⟩,trivial⟩ ⟨⟨_,rfl,rfl⟩,rO rfl,⟨_,rfl,rfl,rfl⟩,⟨_,rfl,rfl,rfl⟩,⟨_,rfl,rfl⟩,⟨_,rfl,rfl⟩,trivial⟩,ik⟩
  ·have h0:α c i c≠0:=fun e=>of_decide_eq_false h ((jf _).2 e);have e:i=κ c:=Nat.le_antisymm hi (Nat.le_of_not_lt fun d=>h0 (k2 d));conv=>whnf
   exact⟨(),trivial,Weak.gen [some 0,some 1] rfl ⟨⟨_,rfl,rfl,rfl,rfl,rfl,fun x y hx hy=>zW rfl fun _ _=>rfl⟩,⟨_,rfl,rfl,rfl,rfl,rfl,fun x y hx hy=>qY rfl rfl⟩,trivial⟩ ⟨⟨_,rfl,rfl⟩,rO rfl,⟨_,rfl,rfl,rfl⟩,⟨_,rfl,rfl,rfl⟩,⟨_,rfl,rfl⟩,⟨_,rfl,by rw[<- e]⟩,trivial⟩⟩
 rcases Nat.lt_or_ge (κ c) (N c)with kn | kn;rotate_left
 ·have e:κ c=N c:=by omega
  obtain⟨e1,e2,e3,e4,e5⟩:=n1 e;refine qy qw mixed (by kernel_rfl) ?_;conv=>whnf
  refine xG (show decide (((κ c:Nat):Int)=(N c:Int))=true from decide_eq_true (by omega)) ?_;conv=>whnf
  exact⟨(),trivial,Weak.gen [some 0,some 1] rfl ⟨⟨_,rfl,rfl,rfl,e2.symm,rfl,fun x y hx hy=>zW rfl fun j _=>by rw[e4]⟩,⟨_,rfl,rfl,rfl,e2.symm,rfl,fun x y hx hy=>qY (by rw[e5]) rfl⟩,trivial⟩ ⟨⟨_,rfl,rfl⟩,.inl ⟨_,_,rfl,e1.symm,fun x y _ _=>by rw[e3]⟩,⟨_,rfl,rfl,rfl⟩,⟨_,rfl,rfl,rfl⟩,⟨_,rfl,rfl⟩,trivial⟩⟩
 clear n1;have z1:((1:Int):Rat)=1:=rfl;have r1:=rqratio_n (x:=((1:Int):Rat)) (y:=α c (κ c) c) (by rw[z1];exact Nat.le_trans (show qlen 1<=1 by decide) (by decide)) (by have:=la (κ c) c kn cm;omega);have c1:FnOK Tryz.prog false 63 [.c (nql m fun _=>0),.g (nq (((1:Int):Rat) / α c (κ c) c)),.c (nql m (α c (κ c)))] (.c (nql m (ρ c))):=(rcomb_ok (X:=fun _=>0) (Y:=α c (κ c)) (c:=((1:Int):Rat) / α c (κ c) c) hm (fun _ _=>Nat.le_trans Uy (by decide)) (fun i hi=>Nat.le_trans (la (κ c) i kn hi) (by decide)) (Nat.le_trans (q_div (L:=1) (L':=60000) (show qlen 1<=1 by decide) (la (κ c) c kn cm) (by decide)) (by decide))).res (zg rfl fun i j hi _=>congrArg (fun x=>(rr (ofR x)).getD j .any) (rp i kn hi));have k0:(0:Int)<=((κ c:Nat):Int):=by omega
 have k9:((κ c:Nat):Int)<(N c:Int):=by omega
 have j0:(0:Int)<=(c:Int):=by omega
 have j1:(c:Int)<(m:Int):=by omega
 refine qy qw mixed (by kernel_rfl) ?_;conv=>whnf
 refine jj (show decide (((κ c:Nat):Int)=(N c:Int))=false from decide_eq_false (by omega)) ?_;conv=>whnf
 refine⟨gst [(0,.c (.int .i64 ((m:Nat):Int))),(6,.c (.row 1 (N c) (rlF m (α c)))),(7,.c (.gs 0 0)),(8,.c (.gs 1 0)),(9,.c (.int .i64 ((c:Nat):Int))),(10,.c (.int .i64 ((κ c:Nat):Int)))] [rlB m (R c) (ω c),plB (R c) (π c)],Weak.gen [some 0,some 1] rfl ⟨⟨_,rfl,rfl,rfl,rfl,rfl,fun x y hx hy=>zW rfl fun _ _=>rfl⟩,⟨_,rfl,rfl,rfl,rfl,rfl,fun x y hx hy=>qY rfl rfl⟩,trivial⟩ ⟨⟨_,rfl,rfl⟩,rO rfl,⟨_,rfl,rfl,rfl⟩,⟨_,rfl,rfl,rfl⟩,⟨_,rfl,rfl⟩,⟨_,rfl,rfl⟩,trivial⟩,?_⟩;refine qy qw mixed (by kernel_rfl) ?_;conv=>whnf
 refine⟨_,z0,?_⟩;conv=>whnf
 refine⟨_,q1,?_⟩;conv=>whnf
 repeat (refine⟨by first | exact k0 | exact k9 | exact j0 | exact j1,?_⟩;conv=>whnf)
 refine⟨_,r1,?_⟩;conv=>whnf
 repeat (refine⟨by first | exact k0 | exact k9 | exact j0 | exact j1,?_⟩;conv=>whnf)
 refine⟨_,c1,?_⟩;conv=>whnf
 refine⟨gst [(0,.c (.int .i64 ((m:Nat):Int))),(6,.c (.row 1 (N c) (rlF m (α c)))),(7,.c (.gs 0 0)),(8,.c (.gs 1 0)),(9,.c (.int .i64 ((c:Nat):Int))),(10,.c (.int .i64 ((κ c:Nat):Int))),(11,.c (nql m (ρ c)))] [rlB m (R c) (ω c),plB (R c) (π c)],Weak.gen [some 0,some 1] rfl ⟨⟨_,rfl,rfl,rfl,rfl,rfl,fun x y hx hy=>zW rfl fun _ _=>rfl⟩,⟨_,rfl,rfl,rfl,rfl,rfl,fun x y hx hy=>qY rfl rfl⟩,trivial⟩ ⟨⟨_,rfl,rfl⟩,rO rfl,⟨_,rfl,rfl,rfl⟩,⟨_,rfl,rfl,rfl⟩,⟨_,rfl,rfl⟩,⟨_,rfl,rfl⟩,rO rfl,trivial⟩,?_⟩;refine qf qw mixed (by kernel_rfl) ?_;conv=>whnf
 refine qF (fun _:Unit=>gst [(0,.c (.int .i64 ((m:Nat):Int))),(6,.c (.row 1 (N c) (rlF m (α c)))),(7,.c (.gs 0 0)),(8,.c (.gs 1 0)),(9,.c (.int .i64 ((c:Nat):Int))),(10,.c (.int .i64 ((κ c:Nat):Int))),(11,.c (nql m (ρ c))),(12,.c (.gs 2 0))] [rlB m (R c) (ω c),plB (R c) (π c),rlB m (rkn (κ c) (N c)) (rkf c (κ c) (ρ c) (α c))]) (fun _=>True) ?_ fun _ _=>?_
 ·refine qy qw mixed (by kernel_rfl) ?_;conv=>whnf
  refine⟨(fun i:Nat=>gst [(0,.c (.int .i64 ((m:Nat):Int))),(6,.c (.row 1 (N c) (rlF m (α c)))),(7,.c (.gs 0 0)),(8,.c (.gs 1 0)),(9,.c (.int .i64 ((c:Nat):Int))),(10,.c (.int .i64 ((κ c:Nat):Int))),(11,.c (nql m (ρ c))),(12,.c (.gs 2 0)),(13,.c (.int .i64 ((i:Nat):Int)))] [rlB m (R c) (ω c),plB (R c) (π c),rlB m (rkn (κ c) i) (rkf c (κ c) (ρ c) (α c))]) 0,Weak.gen [some 0,some 1,none] rfl ⟨⟨_,rfl,rfl,rfl,rfl,rfl,fun x y hx hy=>zW rfl fun _ _=>rfl⟩,⟨_,rfl,rfl,rfl,rfl,rfl,fun x y hx hy=>qY rfl rfl⟩,by show rkn (κ c) 0=0;exact if_pos (Nat.zero_le _),trivial⟩ ⟨⟨_,rfl,rfl⟩,rO rfl,⟨_,rfl,rfl,rfl⟩,⟨_,rfl,rfl,rfl⟩,⟨_,rfl,rfl⟩,⟨_,rfl,rfl⟩,rO rfl,rfl,⟨_,rfl,rfl⟩,trivial⟩,?_⟩;refine qq (qZ (fun i:Nat=>gst [(0,.c (.int .i64 ((m:Nat):Int))),(6,.c (.row 1 (N c) (rlF m (α c)))),(7,.c (.gs 0 0)),(8,.c (.gs 1 0)),(9,.c (.int .i64 ((c:Nat):Int))),(10,.c (.int .i64 ((κ c:Nat):Int))),(11,.c (nql m (ρ c))),(12,.c (.gs 2 0)),(13,.c (.int .i64 ((i:Nat):Int)))] [rlB m (R c) (ω c),plB (R c) (π c),rlB m (rkn (κ c) i) (rkf c (κ c) (ρ c) (α c))]) (fun i=>N c-i) (fun i=>i<=N c) 0 (Weak.refl _) (Nat.zero_le _) fun i hi=>?_);have hi:i<=N c:=hi;rcases Nat.lt_or_ge i (N c)with il | il;rotate_left
  ·obtain e:i=N c:=by omega
   refine qy qw mixed (by kernel_rfl) ?_;conv=>whnf
   refine jj (show decide ((i:Int)<(N c:Int))=false from decide_eq_false (by omega)) ?_;conv=>whnf
   exact⟨(),trivial,Weak.gen [some 0,some 1,some 2] rfl ⟨⟨_,rfl,rfl,rfl,rfl,rfl,fun x y hx hy=>zW rfl fun _ _=>rfl⟩,⟨_,rfl,rfl,rfl,rfl,rfl,fun x y hx hy=>qY rfl rfl⟩,⟨_,rfl,rfl,rfl,by rw[<- e],rfl,fun x y hx hy=>zW rfl fun _ _=>rfl⟩,trivial⟩ ⟨⟨_,rfl,rfl⟩,rO rfl,⟨_,rfl,rfl,rfl⟩,⟨_,rfl,rfl,rfl⟩,⟨_,rfl,rfl⟩,⟨_,rfl,rfl⟩,rO rfl,⟨_,rfl,rfl,rfl⟩,trivial⟩⟩
  have la:=la i;have kc:=cleared_ok (r:=α c i) (p:=ρ c) hm cm (fun j hj=>Nat.le_trans (la j il hj) (by decide)) fun j hj=>lp j kn hj;have i0:(0:Int)<=(i:Int):=by omega
  have i1:(i:Int)<(N c:Int):=by omega
  refine qy qw mixed (by kernel_rfl) ?_;conv=>whnf
  refine xG (show decide ((i:Int)<(N c:Int))=true from decide_eq_true i1) ?_;conv=>whnf
  refine⟨gst [(0,.c (.int .i64 ((m:Nat):Int))),(6,.c (.row 1 (N c) (rlF m (α c)))),(7,.c (.gs 0 0)),(8,.c (.gs 1 0)),(9,.c (.int .i64 ((c:Nat):Int))),(10,.c (.int .i64 ((κ c:Nat):Int))),(11,.c (nql m (ρ c))),(12,.c (.gs 2 0)),(13,.c (.int .i64 ((i:Nat):Int)))] [rlB m (R c) (ω c),plB (R c) (π c),rlB m (rkn (κ c) i) (rkf c (κ c) (ρ c) (α c))],Weak.gen [some 0,some 1,some 2] rfl ⟨⟨_,rfl,rfl,rfl,rfl,rfl,fun x y hx hy=>zW rfl fun _ _=>rfl⟩,⟨_,rfl,rfl,rfl,rfl,rfl,fun x y hx hy=>qY rfl rfl⟩,⟨_,rfl,rfl,rfl,rfl,rfl,fun x y hx hy=>zW rfl fun _ _=>rfl⟩,trivial⟩ ⟨⟨_,rfl,rfl⟩,rO rfl,⟨_,rfl,rfl,rfl⟩,⟨_,rfl,rfl,rfl⟩,⟨_,rfl,rfl⟩,⟨_,rfl,rfl⟩,rO rfl,⟨_,rfl,rfl,rfl⟩,⟨_,rfl,rfl⟩,trivial⟩,?_⟩;refine qF (fun _:Unit=>gst [(0,.c (.int .i64 ((m:Nat):Int))),(6,.c (.row 1 (N c) (rlF m (α c)))),(7,.c (.gs 0 0)),(8,.c (.gs 1 0)),(9,.c (.int .i64 ((c:Nat):Int))),(10,.c (.int .i64 ((κ c:Nat):Int))),(11,.c (nql m (ρ c))),(12,.c (.gs 2 0)),(13,.c (.int .i64 ((i:Nat):Int)))] [rlB m (R c) (ω c),plB (R c) (π c),rlB m (rkn (κ c) (i+1)) (rkf c (κ c) (ρ c) (α c))]) (fun _=>True) ?_ fun _ _=>?_;rotate_left
  ·refine qJ qw mixed (by kernel_rfl) ?_;conv=>whnf
   refine⟨i64 (by omega) (by omega),?_⟩;conv=>whnf
   exact⟨i+1,by omega,Weak.gen [some 0,some 1,some 2] rfl ⟨⟨_,rfl,rfl,rfl,rfl,rfl,fun x y hx hy=>zW rfl fun _ _=>rfl⟩,⟨_,rfl,rfl,rfl,rfl,rfl,fun x y hx hy=>qY rfl rfl⟩,⟨_,rfl,rfl,rfl,rfl,rfl,fun x y hx hy=>zW rfl fun _ _=>rfl⟩,trivial⟩ ⟨⟨_,rfl,rfl⟩,rO rfl,⟨_,rfl,rfl,rfl⟩,⟨_,rfl,rfl,rfl⟩,⟨_,rfl,rfl⟩,⟨_,rfl,rfl⟩,rO rfl,⟨_,rfl,rfl,rfl⟩,⟨_,rfl,rfl⟩,trivial⟩,il⟩
  refine qq ?_;refine qJ qw mixed (by kernel_rfl) ?_;conv=>whnf
  by_cases e:i=κ c
  ·refine jj (show(!decide (((i:Nat):Int)=((κ c:Nat):Int)))=false by simp[e]) ?_;conv=>whnf
   exact⟨(),trivial,Weak.gen [some 0,some 1,some 2] rfl ⟨⟨_,rfl,rfl,rfl,rfl,rfl,fun x y hx hy=>zW rfl fun _ _=>rfl⟩,⟨_,rfl,rfl,rfl,rfl,rfl,fun x y hx hy=>qY rfl rfl⟩,⟨_,rfl,rfl,rfl,by rw[e];exact(rkn_eq _).symm,rfl,fun x y hx hy=>zW rfl fun _ _=>rfl⟩,trivial⟩ ⟨⟨_,rfl,rfl⟩,rO rfl,⟨_,rfl,rfl,rfl⟩,⟨_,rfl,rfl,rfl⟩,⟨_,rfl,rfl⟩,⟨_,rfl,rfl⟩,rO rfl,⟨_,rfl,rfl,rfl⟩,⟨_,rfl,rfl⟩,trivial⟩⟩
  obtain⟨q1,q2⟩:=rkn_at e;have q3:rkn (κ c) i<=1024:=by unfold rkn;split <;> omega
  refine xG (show(!decide (((i:Nat):Int)=((κ c:Nat):Int)))=true by simp;omega) ?_;conv=>whnf
  repeat (refine⟨by first | exact i0 | exact i1,?_⟩;conv=>whnf)
  refine⟨_,kc,?_⟩;conv=>whnf
  refine⟨by show rkn (κ c) i+1<=16777216;omega,fun a b ha hb=>kG ha hb,?_⟩;conv=>whnf
  exact⟨(),trivial,Weak.gen [some 0,some 1,some 2] rfl ⟨⟨_,rfl,rfl,rfl,rfl,rfl,fun x y hx hy=>zW rfl fun _ _=>rfl⟩,⟨_,rfl,rfl,rfl,rfl,rfl,fun x y hx hy=>qY rfl rfl⟩,⟨_,rfl,rfl,rfl,q1.symm,rfl,fun x y hx hy=>app_rl (by rw[<- q1];exact hx) hy (fun _ _=>rfl) (by unfold rkf;rw[q2])⟩,trivial⟩ ⟨⟨_,rfl,rfl⟩,rO rfl,⟨_,rfl,rfl,rfl⟩,⟨_,rfl,rfl,rfl⟩,⟨_,rfl,rfl⟩,⟨_,rfl,rfl⟩,rO rfl,⟨_,rfl,rfl,rfl⟩,⟨_,rfl,rfl⟩,trivial⟩⟩
 refine qF (fun _:Unit=>gst [(0,.c (.int .i64 ((m:Nat):Int))),(6,.c (.row 1 (N c) (rlF m (α c)))),(7,.c (.gs 0 0)),(8,.c (.gs 1 0)),(9,.c (.int .i64 ((c:Nat):Int))),(10,.c (.int .i64 ((κ c:Nat):Int))),(11,.c (nql m (ρ c))),(12,.c (.gs 2 0))] [rlB m (R c) (omid c (ρ c) (ω c) (R c)),plB (R c) (π c),rlB m (rkn (κ c) (N c)) (rkf c (κ c) (ρ c) (α c))]) (fun _=>True) ?_ fun _ _=>?_
 ·refine qy qw mixed (by kernel_rfl) ?_;conv=>whnf
  refine⟨(fun i:Nat=>gst [(0,.c (.int .i64 ((m:Nat):Int))),(6,.c (.row 1 (N c) (rlF m (α c)))),(7,.c (.gs 0 0)),(8,.c (.gs 1 0)),(9,.c (.int .i64 ((c:Nat):Int))),(10,.c (.int .i64 ((κ c:Nat):Int))),(11,.c (nql m (ρ c))),(12,.c (.gs 2 0)),(14,.c (.int .i64 ((i:Nat):Int)))] [rlB m (R c) (omid c (ρ c) (ω c) i),plB (R c) (π c),rlB m (rkn (κ c) (N c)) (rkf c (κ c) (ρ c) (α c))]) 0,Weak.gen [some 0,some 1,some 2] rfl ⟨⟨_,rfl,rfl,rfl,rfl,rfl,fun x y hx hy=>zW rfl fun j _=>by rw[show omid c (ρ c) (ω c) 0 x=ω c x from if_neg (Nat.not_lt_zero x)]⟩,⟨_,rfl,rfl,rfl,rfl,rfl,fun x y hx hy=>qY rfl rfl⟩,⟨_,rfl,rfl,rfl,rfl,rfl,fun x y hx hy=>zW rfl fun _ _=>rfl⟩,trivial⟩ ⟨⟨_,rfl,rfl⟩,rO rfl,⟨_,rfl,rfl,rfl⟩,⟨_,rfl,rfl,rfl⟩,⟨_,rfl,rfl⟩,⟨_,rfl,rfl⟩,rO rfl,⟨_,rfl,rfl,rfl⟩,⟨_,rfl,rfl⟩,trivial⟩,?_⟩;refine qq (qZ (fun i:Nat=>gst [(0,.c (.int .i64 ((m:Nat):Int))),(6,.c (.row 1 (N c) (rlF m (α c)))),(7,.c (.gs 0 0)),(8,.c (.gs 1 0)),(9,.c (.int .i64 ((c:Nat):Int))),(10,.c (.int .i64 ((κ c:Nat):Int))),(11,.c (nql m (ρ c))),(12,.c (.gs 2 0)),(14,.c (.int .i64 ((i:Nat):Int)))] [rlB m (R c) (omid c (ρ c) (ω c) i),plB (R c) (π c),rlB m (rkn (κ c) (N c)) (rkf c (κ c) (ρ c) (α c))]) (fun i=>R c-i) (fun i=>i<=R c) 0 (Weak.refl _) (Nat.zero_le _) fun i hi=>?_);have hi:i<=R c:=hi;rcases Nat.lt_or_ge i (R c)with il | il;rotate_left
  ·obtain e:i=R c:=by omega
   refine qy qw mixed (by kernel_rfl) ?_;conv=>whnf
   refine jj (show decide ((i:Int)<(R c:Int))=false from decide_eq_false (by omega)) ?_;conv=>whnf
   exact⟨(),trivial,Weak.gen [some 0,some 1,some 2] rfl ⟨⟨_,rfl,rfl,rfl,rfl,rfl,fun x y hx hy=>zW rfl fun j _=>by rw[e]⟩,⟨_,rfl,rfl,rfl,rfl,rfl,fun x y hx hy=>qY rfl rfl⟩,⟨_,rfl,rfl,rfl,rfl,rfl,fun x y hx hy=>zW rfl fun _ _=>rfl⟩,trivial⟩ ⟨⟨_,rfl,rfl⟩,rO rfl,⟨_,rfl,rfl,rfl⟩,⟨_,rfl,rfl,rfl⟩,⟨_,rfl,rfl⟩,⟨_,rfl,rfl⟩,rO rfl,⟨_,rfl,rfl,rfl⟩,trivial⟩⟩
  have eo:omid c (ρ c) (ω c) i i=ω c i:=if_neg (Nat.lt_irrefl i);have kc:FnOK Tryz.prog false 153 [.c (nql m (omid c (ρ c) (ω c) i i)),.c (nql m (ρ c)),.c (.int .i64 (c:Nat))] (.c (nql m (gcl c (ρ c) (ω c i)))):=by
   rw[eo];exact cleared_ok hm cm (fun j hj=>Nat.le_trans (lo i j il hj) (by decide)) fun j hj=>lp j kn hj
  have i0:(0:Int)<=(i:Int):=by omega
  have i1:(i:Int)<(R c:Int):=by omega
  refine qJ qw mixed (by kernel_rfl) ?_;conv=>whnf
  refine xG (show decide ((i:Int)<(R c:Int))=true from decide_eq_true i1) ?_;conv=>whnf
  repeat (refine⟨by first | exact i0 | exact i1,?_⟩;conv=>whnf)
  refine⟨_,kc,?_⟩;conv=>whnf
  repeat (refine⟨by first | exact i0 | exact i1,?_⟩;conv=>whnf)
  refine⟨i64 (by omega) (by omega),?_⟩;conv=>whnf
  exact⟨i+1,by omega,Weak.gen [some 0,some 1,some 2] rfl ⟨⟨_,rfl,rfl,rfl,rfl,rfl,fun x y hx hy=>omid_upd hy⟩,⟨_,rfl,rfl,rfl,rfl,rfl,fun x y hx hy=>qY rfl rfl⟩,⟨_,rfl,rfl,rfl,rfl,rfl,fun x y hx hy=>zW rfl fun _ _=>rfl⟩,trivial⟩ ⟨⟨_,rfl,rfl⟩,rO rfl,⟨_,rfl,rfl,rfl⟩,⟨_,rfl,rfl,rfl⟩,⟨_,rfl,rfl⟩,⟨_,rfl,rfl⟩,rO rfl,⟨_,rfl,rfl,rfl⟩,⟨_,rfl,rfl⟩,trivial⟩,il⟩
 obtain⟨e1,e2⟩:=n2 kn;have a2:=a2 kn;have o2:=o2 kn;have o3:=o3 kn;have p2:=p2 kn;have p3:=p3 kn;have e3:rkn (κ c) (N c)=N c-1:=if_neg (by omega);refine qJ qw mixed (by kernel_rfl) ?_;conv=>whnf
 refine⟨by show R c+1<=16777216;omega,fun a b ha hb=>kG ha hb,?_⟩;conv=>whnf
 refine⟨by show R c+1<=16777216;omega,fun a b ha hb=>one_int ha hb,?_⟩;conv=>whnf
 exact⟨(),trivial,Weak.gen [some 0,some 1] rfl ⟨⟨_,rfl,rfl,rfl,e2.symm,rfl,fun x y hx hy=>app_rl (by rw[<- e2];exact hx) hy (fun i hi=>by rw[o2 i hi];exact if_pos hi) o3.symm⟩,⟨_,rfl,rfl,rfl,e2.symm,rfl,fun x y hx hy=>app_pl (by rw[<- e2];exact hx) hy (fun i hi=>(p2 i hi).symm) (by rw[p3])⟩,trivial⟩ ⟨⟨_,rfl,rfl⟩,.inr (.inr ⟨2,_,rfl,rfl,rfl,rfl,Nat.zero_le _,rfl,by rw[e1];exact e3,fun x y hx hy=>⟨by show nql m _=nql m _;rw[a2 x (by rw[<- e1];exact hx)];rfl,rfl⟩⟩),⟨_,rfl,rfl,rfl⟩,⟨_,rfl,rfl,rfl⟩,⟨_,rfl,rfl⟩,trivial⟩⟩
end Mx
end Go.Proofs.YtkmbnldginonbaaGreat
namespace Go.Proofs.YtkmbnldginonbaaGreat
open Go.RowKit
namespace Mx
abbrev gq (n:Nat) (v:Nat->Rat):Gx:=⟨38,4,n,qlF fun j=>ofR (v j)⟩
abbrev gG (n:Nat) (g:Nat->Nat):Gx:=⟨22,1,n,fun i _ => .gs (g i+1) 0⟩
abbrev idn (i:Nat):Nat:=i
theorem cells0 {Q:Nat->Nat->Prop}:∀ i j,i<0->j<1->Q i j:=fun i j hi hj=>by
 obtain rfl:j=0:=by omega
 omega
theorem cells1 {Q:Nat->Nat->Prop} (h0:Q 0 0):∀ i j,i<1->j<1->Q i j:=fun i j hi hj=>by
 obtain rfl:j=0:=by omega
 match i,hi with
 | 0,_=>exact h0
 | _+1,h=>exact absurd h (by omega)
theorem cells2 {Q:Nat->Nat->Prop} (h0:Q 0 0) (h1:Q 1 0):∀ i j,i<2->j<1->Q i j:=fun i j hi hj=>by
 obtain rfl:j=0:=by omega
 match i,hi with
 | 0,_=>exact h0
 | 1,_=>exact h1
 | _+2,h=>exact absurd h (by omega)
theorem cells3 {Q:Nat->Nat->Prop} (h0:Q 0 0) (h1:Q 1 0) (h2:Q 2 0):∀ i j,i<3->j<1->Q i j:=fun i j hi hj=>by
 obtain rfl:j=0:=by omega
 match i,hi with
 | 0,_=>exact h0
 | 1,_=>exact h1
 | 2,_=>exact h2
 | _+3,h=>exact absurd h (by omega)
theorem cells4 {Q:Nat->Nat->Prop} (h0:Q 0 0) (h1:Q 1 0) (h2:Q 2 0) (h3:Q 3 0):∀ i j,i<4->j<1->Q i j:=fun i j hi hj=>by
 obtain rfl:j=0:=by omega
 match i,hi with
 | 0,_=>exact h0
 | 1,_=>exact h1
 | 2,_=>exact h2
 | 3,_=>exact h3
 | _+4,h=>exact absurd h (by omega)
theorem cells5 {Q:Nat->Nat->Prop} (h0:Q 0 0) (h1:Q 1 0) (h2:Q 2 0) (h3:Q 3 0) (h4:Q 4 0):∀ i j,i<5->j<1->Q i j:=fun i j hi hj=>by
 obtain rfl:j=0:=by omega
 match i,hi with
 | 0,_=>exact h0
 | 1,_=>exact h1
 | 2,_=>exact h2
 | 3,_=>exact h3
 | 4,_=>exact h4
 | _+5,h=>exact absurd h (by omega)
theorem Uw (v:Nat->Rat) (i j:Nat):(qlF (fun j=>ofR (v j)) i j).clos=true:=by
 match j with
 | 0=>rfl
 | 1=>rfl
 | 2=>rfl
 | 3=>rfl
 | j+4=>rfl
theorem row_keep {q:Nat} {bl:List Blk} {ks:List (Option Nat)} {v w:Nat->Rat} {i j:Nat} (h:w i=v i):zF q bl ks (qlF (fun j=>ofR (w j)) i j) fun y=>qlF (fun j=>ofR (v j)) i j=y:=qY (congrArg (fun x=>(rr (ofR x)).getD j .any) h.symm) (Uw w i j)
theorem row_upd {q:Nat} {bl:List Blk} {ks:List (Option Nat)} {v w:Nat->Rat} {k i j:Nat} {x:Rat} (hj:j<4) (h:(if i=k then x else v i)=w i):zF q bl ks (qlF (fun j=>ofR (w j)) i j) fun y=>zY (qlF fun j=>ofR (v j)) k 0 (nq x) i j=y:=qY (WZ (sz:=4) (g:=fun i=>nq (v i)) (g':=fun i=>nq (w i)) rfl hj (by rw[<- h];split <;> rfl)) (Uw w i j)
theorem row_upd2 {q:Nat} {bl:List Blk} {ks:List (Option Nat)} {v w:Nat->Rat} {k l i j:Nat} {x y:Rat} (hj:j<4) (h:(if i=l then y else if i=k then x else v i)=w i):zF q bl ks (qlF (fun j=>ofR (w j)) i j) fun z=>zY (zY (qlF fun j=>ofR (v j)) k 0 (nq x)) l 0 (nq y) i j=z:=by
 refine qY ?_ (Uw w i j);have e:∀ a b,b<4->zY (qlF fun j=>ofR (v j)) k 0 (nq x) a b=qlF (fun a=>ofR (if a=k then x else v a)) a b:=fun a b hb=>WZ (sz:=4) (g:=fun i=>nq (v i)) (g':=fun i=>nq (if i=k then x else v i)) rfl hb (by split <;> rfl);have e2:zY (zY (qlF fun j=>ofR (v j)) k 0 (nq x)) l 0 (nq y) i j=zY (qlF fun a=>ofR (if a=k then x else v a)) l 0 (nq y) i j:=by
  unfold zY at *;split
  ·rfl
  ·exact e i j hj
 rw[e2];exact WZ (sz:=4) (g:=fun i=>nq (if i=k then x else v i)) (g':=fun i=>nq (w i)) rfl hj (by rw[<- h];split <;> rfl)
theorem rk {q k n:Nat} {bl:List Blk} {ks:List (Option Nat)} {v w:Nat->Rat} (h:bl[k]? = some ⟨38,4,n,0,0,qlF fun j=>ofR (v j)⟩) (e:∀ x,x<n->w x=v x):yZ q bl ks (gq n w) (some k):=⟨_,h,rfl,rfl,rfl,rfl,fun x _ hx _=>row_keep (e x hx)⟩
theorem rs {q k n:Nat} {bl:List Blk} {ks:List (Option Nat)} {v:Nat->Rat} (h:bl[k]? = some ⟨38,4,n,0,0,qlF fun j=>ofR (v j)⟩):yZ q bl ks (gq n v) (some k):=rk h fun _ _=>rfl
theorem ru {q k n i:Nat} {bl:List Blk} {ks:List (Option Nat)} {v w:Nat->Rat} {z:Rat} (h:bl[k]? = some ⟨38,4,n,0,0,zY (qlF fun j=>ofR (v j)) i 0 (nq z)⟩) (e:∀ x,(if x=i then z else v x)=w x):yZ q bl ks (gq n w) (some k):=⟨_,h,rfl,rfl,rfl,rfl,fun x _ _ hy=>row_upd hy (e x)⟩
theorem rgl {n:Int} (h:(decide (-9223372036854775808<=n)&&decide (n<9223372036854775808))=true):inR .i64 n:=by
 rw[Bool.and_eq_true]at h;exact qz (of_decide_eq_true h.1) (of_decide_eq_true h.2)
theorem so {N:Nat} {c:Code} {σ:St} {R:Exit->St->Prop} (h:awp E1m c σ R) (hc:x9 N c=true:=by kernel_rfl):Swp E1m N c σ R:=qJ wj mixed hc h
theorem sq {N:Nat} {x y:Code} {σ:St} {R:Exit->St->Prop} (h:awp E1m x σ (seqR (fun σ'=>∃ σ2,Weak E1m.m0 σ' σ2/\Swp E1m N y σ2 R) R)) (hc:x9 N x=true:=by kernel_rfl):Swp E1m N (.seq x y) σ R:=qy wj mixed hc h
theorem gk1 {b1:Blk} {r:List Blk} {t:List (Option Nat)} (h:([b1].all fun b=>b.u == 0&&b.st == 0)=true):yZ 0 (gb (gG 1 idn) :: b1 :: r) (some 0 :: some 1 :: t) (gG 1 idn) (some 0):=by
 simp only[List.all_cons,List.all_nil,Bool.and_true,Bool.and_eq_true,beq_iff_eq]at h;obtain⟨u1,s1⟩:=h;exact⟨_,rfl,rfl,rfl,rfl,rfl,cells1 ⟨b1,rfl,by rw[u1],s1⟩⟩
theorem gk2 {b1 b2:Blk} {r:List Blk} {t:List (Option Nat)} (h:([b1,b2].all fun b=>b.u == 0&&b.st == 0)=true):yZ 0 (gb (gG 2 idn) :: b1 :: b2 :: r) (some 0 :: some 1 :: some 2 :: t) (gG 2 idn) (some 0):=by
 simp only[List.all_cons,List.all_nil,Bool.and_true,Bool.and_eq_true,beq_iff_eq]at h;obtain⟨⟨u1,s1⟩,⟨u2,s2⟩⟩:=h;exact⟨_,rfl,rfl,rfl,rfl,rfl,cells2 ⟨b1,rfl,by rw[u1],s1⟩ ⟨b2,rfl,by rw[u2],s2⟩⟩
theorem gk3 {b1 b2 b3:Blk} {r:List Blk} {t:List (Option Nat)} (h:([b1,b2,b3].all fun b=>b.u == 0&&b.st == 0)=true):yZ 0 (gb (gG 3 idn) :: b1 :: b2 :: b3 :: r) (some 0 :: some 1 :: some 2 :: some 3 :: t) (gG 3 idn) (some 0):=by
 simp only[List.all_cons,List.all_nil,Bool.and_true,Bool.and_eq_true,beq_iff_eq]at h;obtain⟨⟨u1,s1⟩,⟨u2,s2⟩,⟨u3,s3⟩⟩:=h;exact⟨_,rfl,rfl,rfl,rfl,rfl,cells3 ⟨b1,rfl,by rw[u1],s1⟩ ⟨b2,rfl,by rw[u2],s2⟩ ⟨b3,rfl,by rw[u3],s3⟩⟩
theorem gk4 {b1 b2 b3 b4:Blk} {r:List Blk} {t:List (Option Nat)} (h:([b1,b2,b3,b4].all fun b=>b.u == 0&&b.st == 0)=true):yZ 0 (gb (gG 4 idn) :: b1 :: b2 :: b3 :: b4 :: r) (some 0 :: some 1 :: some 2 :: some 3 :: some 4 :: t) (gG 4 idn) (some 0):=by
 simp only[List.all_cons,List.all_nil,Bool.and_true,Bool.and_eq_true,beq_iff_eq]at h;obtain⟨⟨u1,s1⟩,⟨u2,s2⟩,⟨u3,s3⟩,⟨u4,s4⟩⟩:=h;exact⟨_,rfl,rfl,rfl,rfl,rfl,cells4 ⟨b1,rfl,by rw[u1],s1⟩ ⟨b2,rfl,by rw[u2],s2⟩ ⟨b3,rfl,by rw[u3],s3⟩ ⟨b4,rfl,by rw[u4],s4⟩⟩
theorem gk5 {b1 b2 b3 b4 b5:Blk} {r:List Blk} {t:List (Option Nat)} (h:([b1,b2,b3,b4,b5].all fun b=>b.u == 0&&b.st == 0)=true):yZ 0 (gb (gG 5 idn) :: b1 :: b2 :: b3 :: b4 :: b5 :: r) (some 0 :: some 1 :: some 2 :: some 3 :: some 4 :: some 5 :: t) (gG 5 idn) (some 0):=by
 simp only[List.all_cons,List.all_nil,Bool.and_true,Bool.and_eq_true,beq_iff_eq]at h;obtain⟨⟨u1,s1⟩,⟨u2,s2⟩,⟨u3,s3⟩,⟨u4,s4⟩,⟨u5,s5⟩⟩:=h;exact⟨_,rfl,rfl,rfl,rfl,rfl,cells5 ⟨b1,rfl,by rw[u1],s1⟩ ⟨b2,rfl,by rw[u2],s2⟩ ⟨b3,rfl,by rw[u3],s3⟩ ⟨b4,rfl,by rw[u4],s4⟩ ⟨b5,rfl,by rw[u5],s5⟩⟩
abbrev gsF (d:Nat):Nat->Nat->Cell:=fun x _ => .gs (x+d) 0
def gsOK (ks:List (Option Nat)) (bl:List Blk) (d i:Nat):Bool:=(List.range i).all fun x=>(match ks[x+d]? with
 | some (some k)=>(match bl[k]? with
  | some B=>B.u == 0&&B.st == 0
  | none=>false)
 | _=>false)
theorem gs_keep {ks:List (Option Nat)} {bl:List Blk} {d i x y:Nat} {f:Nat->Nat->Cell} (h:gsOK ks bl d i=true) (hx:x<i) (hf:∀ k,ks[x+d]? = some (some k)->f x y = .gs k 0):zF 0 bl ks (gsF d x y) fun z=>f x y=z:=by
 have h:=List.all_eq_true.1 h x (List.mem_range.2 hx);show match Nat.ble 0 (x+d),ks[x+d-0]? with
  | true,some (some k)=>∃ B,bl[k]? = some B/\f x y = .gs k B.u/\B.st=0
  | true,some none=>f x y = .nil
  | _,_=>False
 rw[Nat.sub_zero];rcases hk:ks[x+d]? with _ | _ | k
 ·rw[hk]at h;cases h
 ·rw[hk]at h;cases h
 ·rw[hk]at h;rcases hb:bl[k]? with _ | B
  ·simp only[hb]at h;cases h
  ·simp only[hb,Bool.and_eq_true,beq_iff_eq]at h;exact⟨B,hb,by rw[hf k hk,h.1],h.2⟩
abbrev rowsL (m:Nat) (G:Nat->Nat->Rat) (i:Nat):List Gx:=(List.range i).map fun x=>gq m (G x)
theorem app_gs {ks:List (Option Nat)} {bl:List Blk} {d i x y:Nat} (h:gsOK ks bl d (i+1)=true) (hk:((List.range (i+1)).all fun x=>ks[x+d]? == some (some (x+d)))=true) (hx:x<i+1) (hy:y<1):zF 0 bl ks (gsF d x y) fun z=>zB i (gsF d) (xJ 1 [.gs (i+d) 0]) x y=z:=by
 refine gs_keep h hx fun k hk2=>?_;have e:=beq_iff_eq.1 (List.all_eq_true.1 hk x (List.mem_range.2 hx));rw[e]at hk2;obtain rfl:y=0:=by omega
 have hk2:x+d=k:=by simpa using hk2
 unfold zB;by_cases c:x<i
 ·rw[if_pos c,<- hk2]
 ·rw[if_neg c,show x=i by omega,Nat.sub_self,<- hk2,show x=i by omega];rfl
theorem vp {ks:List (Option Nat)} {bl:List Blk} {d i x y:Nat} (h:gsOK ks bl d i=true) (hk:((List.range i).all fun x=>ks[x+d]? == some (some (x+d)))=true) (hx:x<i):zF 0 bl ks (gsF d x y) fun z=>gsF d x y=z:=gs_keep h hx fun k hk2=>by
 have e:=beq_iff_eq.1 (List.all_eq_true.1 hk x (List.mem_range.2 hx));rw[e]at hk2;have hk2:x+d=k:=by simpa using hk2
 rw[<- hk2]
theorem gs_to {ks:List (Option Nat)} {bl:List Blk} {d e i x y:Nat} (h:gsOK ks bl d i=true) (hk:((List.range i).all fun x=>ks[x+d]? == some (some (x+e)))=true) (hx:x<i):zF 0 bl ks (gsF d x y) fun z=>gsF e x y=z:=gs_keep h hx fun k hk2=>by
 have g:=beq_iff_eq.1 (List.all_eq_true.1 hk x (List.mem_range.2 hx));rw[g]at hk2;have hk2:x+e=k:=by simpa using hk2
 rw[<- hk2]
theorem gs_nil {ks:List (Option Nat)} {bl:List Blk} {j:Nat} (hk:ks[j]? = some none):gP 0 bl ks (.c .nil) (.c (.gs j 0)):=by
 show match Nat.ble 0 j,ks[j-0]? with
  | true,some (some k)=>∃ B,bl[k]? = some B/\V.c .nil = .c (.gs k B.u)/\B.st=0
  | true,some none=>V.c .nil = .c .nil
  | _,_=>False
 rw[Nat.sub_zero,hk];exact rfl
theorem gs_at {ks:List (Option Nat)} {bl:List Blk} {j k u:Nat} {B:Blk} (hk:ks[j]? = some (some k)) (hb:bl[k]? = some B) (hs:B.st=0) (hu:B.u=u):gP 0 bl ks (.c (.gs k u)) (.c (.gs j 0)):=by
 show match Nat.ble 0 j,ks[j-0]? with
  | true,some (some l)=>∃ C,bl[l]? = some C/\V.c (.gs k u) = .c (.gs l C.u)/\C.st=0
  | true,some none=>V.c (.gs k u) = .c .nil
  | _,_=>False
 rw[Nat.sub_zero,hk];exact⟨B,hb,by rw[hu],hs⟩
theorem gs_upd {ks:List (Option Nat)} {bl:List Blk} {d i k x y:Nat} (h:((List.range k).all fun x=>(match ks[x+d]? with
  | some (some c)=>c == x+d&&(match bl[c]? with
   | some B=>B.st == 0&&(B.u == if x=i then 1 else 0)
   | none=>false)
  | _=>false))=true) (hx:x<k) (hy:y<1):zF 0 bl ks (gsF d x y) fun z=>zY (gsF d) i 0 [.gs (i+d) 1] x y=z:=by
 obtain rfl:y=0:=by omega
 have h:=List.all_eq_true.1 h x (List.mem_range.2 hx);show match Nat.ble 0 (x+d),ks[x+d-0]? with
  | true,some (some k)=>∃ B,bl[k]? = some B/\zY (gsF d) i 0 [.gs (i+d) 1] x 0 = .gs k B.u/\B.st=0
  | true,some none=>zY (gsF d) i 0 [.gs (i+d) 1] x 0 = .nil
  | _,_=>False
 rw[Nat.sub_zero];rcases hk:ks[x+d]? with _ | _ | c
 ·rw[hk]at h;cases h
 ·rw[hk]at h;cases h
 ·rw[hk]at h;rcases hb:bl[c]? with _ | B
  ·simp only[hb,Bool.and_false]at h;cases h
  ·simp only[hb,Bool.and_eq_true,beq_iff_eq]at h;obtain⟨h1,h2,h3⟩:=h;refine⟨B,hb,?_,h2⟩;unfold zY;by_cases e:x=i
   ·rw[if_pos ⟨e,Nat.le_refl 0,Nat.lt_succ_self 0⟩,h3,if_pos e,h1,e];rfl
   ·rw[if_neg fun c=>e c.1,h3,if_neg e,h1]
theorem gs_none {ks:List (Option Nat)} {bl:List Blk} {d i x y:Nat} {f:Nat->Nat->Cell} (hk:((List.range i).all fun x=>ks[x+d]? == some none)=true) (hf:f x 0 = .nil) (hx:x<i) (hy:y<1):zF 0 bl ks (gsF d x y) fun z=>f x y=z:=by
 obtain rfl:y=0:=by omega
 have h:=beq_iff_eq.1 (List.all_eq_true.1 hk x (List.mem_range.2 hx));show match Nat.ble 0 (x+d),ks[x+d-0]? with
  | true,some (some k)=>∃ B,bl[k]? = some B/\f x 0 = .gs k B.u/\B.st=0
  | true,some none=>f x 0 = .nil
  | _,_=>False
 rw[Nat.sub_zero,h];exact hf
abbrev R1 (A:Nat->Nat->Rat):List Gx:=[gG 1 idn,gq 1 (A 0)]
abbrev R3 (A:Nat->Nat->Rat):List Gx:=[gG 3 idn,gq 3 (A 0),gq 3 (A 1),gq 3 (A 2)]
abbrev R3b (A:Nat->Nat->Rat) (u:Rat):List Gx:=[gG 3 idn,gq 3 (A 0),gq 3 (A 1),gq 3 (A 2),⟨38,4,1,qk (nq u)⟩]
abbrev R4 (A:Nat->Nat->Rat):List Gx:=[gG 4 idn,gq 4 (A 0),gq 4 (A 1),gq 4 (A 2),gq 4 (A 3)]
abbrev R4b (A:Nat->Nat->Rat) (u:Rat):List Gx:=[gG 4 idn,gq 4 (A 0),gq 4 (A 1),gq 4 (A 2),gq 4 (A 3),⟨38,4,1,qk (nq u)⟩]
abbrev R5 (A:Nat->Nat->Rat):List Gx:=[gG 5 idn,gq 5 (A 0),gq 5 (A 1),gq 5 (A 2),gq 5 (A 3),gq 5 (A 4)]
abbrev R5b (A:Nat->Nat->Rat) (u:Rat):List Gx:=[gG 5 idn,gq 5 (A 0),gq 5 (A 1),gq 5 (A 2),gq 5 (A 3),gq 5 (A 4),⟨38,4,1,qk (nq u)⟩]
abbrev nt (k m:Nat):Nat × V:=(k,.c (.int .i64 ((m:Nat):Int)))
abbrev ng (k:Nat):Nat × V:=(k,.c (.gs 0 0))
theorem we3 {tm:Nat->V} {A B:Nat->Nat->Rat} {r:List Blk} {tl:List (Nat × V)} (h:∀ b x,b<3->x<3->B b x=A b x) (hl:Vp tl fun p=>gP 0 (gb (gG 3 idn) :: gb (gq 3 (A 0)) :: gb (gq 3 (A 1)) :: gb (gq 3 (A 2)) :: r) [some 0,some 1,some 2,some 3] (tm p.1) p.2):Weak 1 ⟨tm,gb (gG 3 idn) :: gb (gq 3 (A 0)) :: gb (gq 3 (A 1)) :: gb (gq 3 (A 2)) :: r⟩ (gst tl (R3 B)):=Weak.genT [some 0,some 1,some 2,some 3] rfl rfl ⟨_,rfl,rfl,by decide⟩ ⟨gk3 rfl,rk rfl fun x hx=>h 0 x (by decide) hx,rk rfl fun x hx=>h 1 x (by decide) hx,rk rfl fun x hx=>h 2 x (by decide) hx,trivial⟩ hl
theorem ws3 {tm:Nat->V} {A:Nat->Nat->Rat} {r:List Blk} {tl:List (Nat × V)} (hl:Vp tl fun p=>gP 0 (gb (gG 3 idn) :: gb (gq 3 (A 0)) :: gb (gq 3 (A 1)) :: gb (gq 3 (A 2)) :: r) [some 0,some 1,some 2,some 3] (tm p.1) p.2):Weak 1 ⟨tm,gb (gG 3 idn) :: gb (gq 3 (A 0)) :: gb (gq 3 (A 1)) :: gb (gq 3 (A 2)) :: r⟩ (gst tl (R3 A)):=we3 (fun _ _ _ _=>rfl) hl
theorem wbe3 {tm:Nat->V} {A B:Nat->Nat->Rat} {u:Rat} {r:List Blk} {tl:List (Nat × V)} (h:∀ b x,b<3->x<3->B b x=A b x) (hl:Vp tl fun p=>gP 0 (gb (gG 3 idn) :: gb (gq 3 (A 0)) :: gb (gq 3 (A 1)) :: gb (gq 3 (A 2)) :: gb ⟨38,4,1,qk (nq u)⟩ :: r) [some 0,some 1,some 2,some 3,some 4] (tm p.1) p.2):Weak 1 ⟨tm,gb (gG 3 idn) :: gb (gq 3 (A 0)) :: gb (gq 3 (A 1)) :: gb (gq 3 (A 2)) :: gb ⟨38,4,1,qk (nq u)⟩ :: r⟩ (gst tl (R3b B u)):=Weak.genT [some 0,some 1,some 2,some 3,some 4] rfl rfl ⟨_,rfl,rfl,by decide⟩ ⟨gk3 rfl,rk rfl fun x hx=>h 0 x (by decide) hx,rk rfl fun x hx=>h 1 x (by decide) hx,rk rfl fun x hx=>h 2 x (by decide) hx,Rf.boxK rfl rfl,trivial⟩ hl
theorem gp3 {bl:List Blk} {ks:List (Option Nat)} {g:Nat->Nat} {f:Nat->Nat->Cell} {u:Nat} (h:bl[0]? = some ⟨22,1,3,u,0,f⟩) (h0:zF 0 bl ks (.gs (g 0+1) 0) (fun y=>f 0 0=y):=by exact⟨_,rfl,rfl,rfl⟩) (h1:zF 0 bl ks (.gs (g 1+1) 0) (fun y=>f 1 0=y):=by exact⟨_,rfl,rfl,rfl⟩) (h2:zF 0 bl ks (.gs (g 2+1) 0) (fun y=>f 2 0=y):=by exact⟨_,rfl,rfl,rfl⟩):yZ 0 bl ks (gG 3 g) (some 0):=⟨_,h,rfl,rfl,rfl,rfl,cells3 h0 h1 h2⟩
theorem we4 {tm:Nat->V} {A B:Nat->Nat->Rat} {r:List Blk} {tl:List (Nat × V)} (h:∀ b x,b<4->x<4->B b x=A b x) (hl:Vp tl fun p=>gP 0 (gb (gG 4 idn) :: gb (gq 4 (A 0)) :: gb (gq 4 (A 1)) :: gb (gq 4 (A 2)) :: gb (gq 4 (A 3)) :: r) [some 0,some 1,some 2,some 3,some 4] (tm p.1) p.2):Weak 1 ⟨tm,gb (gG 4 idn) :: gb (gq 4 (A 0)) :: gb (gq 4 (A 1)) :: gb (gq 4 (A 2)) :: gb (gq 4 (A 3)) :: r⟩ (gst tl (R4 B)):=Weak.genT [some 0,some 1,some 2,some 3,some 4] rfl rfl ⟨_,rfl,rfl,by decide⟩ ⟨gk4 rfl,rk rfl fun x hx=>h 0 x (by decide) hx,rk rfl fun x hx=>h 1 x (by decide) hx,rk rfl fun x hx=>h 2 x (by decide) hx,rk rfl fun x hx=>h 3 x (by decide) hx,trivial⟩ hl
theorem ws4 {tm:Nat->V} {A:Nat->Nat->Rat} {r:List Blk} {tl:List (Nat × V)} (hl:Vp tl fun p=>gP 0 (gb (gG 4 idn) :: gb (gq 4 (A 0)) :: gb (gq 4 (A 1)) :: gb (gq 4 (A 2)) :: gb (gq 4 (A 3)) :: r) [some 0,some 1,some 2,some 3,some 4] (tm p.1) p.2):Weak 1 ⟨tm,gb (gG 4 idn) :: gb (gq 4 (A 0)) :: gb (gq 4 (A 1)) :: gb (gq 4 (A 2)) :: gb (gq 4 (A 3)) :: r⟩ (gst tl (R4 A)):=we4 (fun _ _ _ _=>rfl) hl
theorem wbe4 {tm:Nat->V} {A B:Nat->Nat->Rat} {u:Rat} {r:List Blk} {tl:List (Nat × V)} (h:∀ b x,b<4->x<4->B b x=A b x) (hl:Vp tl fun p=>gP 0 (gb (gG 4 idn) :: gb (gq 4 (A 0)) :: gb (gq 4 (A 1)) :: gb (gq 4 (A 2)) :: gb (gq 4 (A 3)) :: gb ⟨38,4,1,qk (nq u)⟩ :: r) [some 0,some 1,some 2,some 3,some 4,some 5] (tm p.1) p.2):Weak 1 ⟨tm,gb (gG 4 idn) :: gb (gq 4 (A 0)) :: gb (gq 4 (A 1)) :: gb (gq 4 (A 2)) :: gb (gq 4 (A 3)) :: gb ⟨38,4,1,qk (nq u)⟩ :: r⟩ (gst tl (R4b B u)):=Weak.genT [some 0,some 1,some 2,some 3,some 4,some 5] rfl rfl ⟨_,rfl,rfl,by decide⟩ ⟨gk4 rfl,rk rfl fun x hx=>h 0 x (by decide) hx,rk rfl fun x hx=>h 1 x (by decide) hx,rk rfl fun x hx=>h 2 x (by decide) hx,rk rfl fun x hx=>h 3 x (by decide) hx,Rf.boxK rfl rfl,trivial⟩ hl
theorem gp4 {bl:List Blk} {ks:List (Option Nat)} {g:Nat->Nat} {f:Nat->Nat->Cell} {u:Nat} (h:bl[0]? = some ⟨22,1,4,u,0,f⟩) (h0:zF 0 bl ks (.gs (g 0+1) 0) (fun y=>f 0 0=y):=by exact⟨_,rfl,rfl,rfl⟩) (h1:zF 0 bl ks (.gs (g 1+1) 0) (fun y=>f 1 0=y):=by exact⟨_,rfl,rfl,rfl⟩) (h2:zF 0 bl ks (.gs (g 2+1) 0) (fun y=>f 2 0=y):=by exact⟨_,rfl,rfl,rfl⟩) (h3:zF 0 bl ks (.gs (g 3+1) 0) (fun y=>f 3 0=y):=by exact⟨_,rfl,rfl,rfl⟩):yZ 0 bl ks (gG 4 g) (some 0):=⟨_,h,rfl,rfl,rfl,rfl,cells4 h0 h1 h2 h3⟩
theorem we5 {tm:Nat->V} {A B:Nat->Nat->Rat} {r:List Blk} {tl:List (Nat × V)} (h:∀ b x,b<5->x<5->B b x=A b x) (hl:Vp tl fun p=>gP 0 (gb (gG 5 idn) :: gb (gq 5 (A 0)) :: gb (gq 5 (A 1)) :: gb (gq 5 (A 2)) :: gb (gq 5 (A 3)) :: gb (gq 5 (A 4)) :: r) [some 0,some 1,some 2,some 3,some 4,some 5] (tm p.1) p.2):Weak 1 ⟨tm,gb (gG 5 idn) :: gb (gq 5 (A 0)) :: gb (gq 5 (A 1)) :: gb (gq 5 (A 2)) :: gb (gq 5 (A 3)) :: gb (gq 5 (A 4)) :: r⟩ (gst tl (R5 B)):=Weak.genT [some 0,some 1,some 2,some 3,some 4,some 5] rfl rfl ⟨_,rfl,rfl,by decide⟩ ⟨gk5 rfl,rk rfl fun x hx=>h 0 x (by decide) hx,rk rfl fun x hx=>h 1 x (by decide) hx,rk rfl fun x hx=>h 2 x (by decide) hx,rk rfl fun x hx=>h 3 x (by decide) hx,rk rfl fun x hx=>h 4 x (by decide) hx,trivial⟩ hl
theorem ws5 {tm:Nat->V} {A:Nat->Nat->Rat} {r:List Blk} {tl:List (Nat × V)} (hl:Vp tl fun p=>gP 0 (gb (gG 5 idn) :: gb (gq 5 (A 0)) :: gb (gq 5 (A 1)) :: gb (gq 5 (A 2)) :: gb (gq 5 (A 3)) :: gb (gq 5 (A 4)) :: r) [some 0,some 1,some 2,some 3,some 4,some 5] (tm p.1) p.2):Weak 1 ⟨tm,gb (gG 5 idn) :: gb (gq 5 (A 0)) :: gb (gq 5 (A 1)) :: gb (gq 5 (A 2)) :: gb (gq 5 (A 3)) :: gb (gq 5 (A 4)) :: r⟩ (gst tl (R5 A)):=we5 (fun _ _ _ _=>rfl) hl
theorem wbe5 {tm:Nat->V} {A B:Nat->Nat->Rat} {u:Rat} {r:List Blk} {tl:List (Nat × V)} (h:∀ b x,b<5->x<5->B b x=A b x) (hl:Vp tl fun p=>gP 0 (gb (gG 5 idn) :: gb (gq 5 (A 0)) :: gb (gq 5 (A 1)) :: gb (gq 5 (A 2)) :: gb (gq 5 (A 3)) :: gb (gq 5 (A 4)) :: gb ⟨38,4,1,qk (nq u)⟩ :: r) [some 0,some 1,some 2,some 3,some 4,some 5,some 6] (tm p.1) p.2):Weak 1 ⟨tm,gb (gG 5 idn) :: gb (gq 5 (A 0)) :: gb (gq 5 (A 1)) :: gb (gq 5 (A 2)) :: gb (gq 5 (A 3)) :: gb (gq 5 (A 4)) :: gb ⟨38,4,1,qk (nq u)⟩ :: r⟩ (gst tl (R5b B u)):=Weak.genT [some 0,some 1,some 2,some 3,some 4,some 5,some 6] rfl rfl ⟨_,rfl,rfl,by decide⟩ ⟨gk5 rfl,rk rfl fun x hx=>h 0 x (by decide) hx,rk rfl fun x hx=>h 1 x (by decide) hx,rk rfl fun x hx=>h 2 x (by decide) hx,rk rfl fun x hx=>h 3 x (by decide) hx,rk rfl fun x hx=>h 4 x (by decide) hx,Rf.boxK rfl rfl,trivial⟩ hl
theorem gp5 {bl:List Blk} {ks:List (Option Nat)} {g:Nat->Nat} {f:Nat->Nat->Cell} {u:Nat} (h:bl[0]? = some ⟨22,1,5,u,0,f⟩) (h0:zF 0 bl ks (.gs (g 0+1) 0) (fun y=>f 0 0=y):=by exact⟨_,rfl,rfl,rfl⟩) (h1:zF 0 bl ks (.gs (g 1+1) 0) (fun y=>f 1 0=y):=by exact⟨_,rfl,rfl,rfl⟩) (h2:zF 0 bl ks (.gs (g 2+1) 0) (fun y=>f 2 0=y):=by exact⟨_,rfl,rfl,rfl⟩) (h3:zF 0 bl ks (.gs (g 3+1) 0) (fun y=>f 3 0=y):=by exact⟨_,rfl,rfl,rfl⟩) (h4:zF 0 bl ks (.gs (g 4+1) 0) (fun y=>f 4 0=y):=by exact⟨_,rfl,rfl,rfl⟩):yZ 0 bl ks (gG 5 g) (some 0):=⟨_,h,rfl,rfl,rfl,rfl,cells5 h0 h1 h2 h3 h4⟩
set_option maxHeartbeats 64000000
set_option maxRecDepth 100000
def xr (M:Nat->Nat->Rat) (i j k b a:Nat):Rat:=if sw i j b<k then M b (sw i j a)else M b a
theorem xr_zero (M:Nat->Nat->Rat) (i j b a:Nat):xr M i j 0 b a=M b a:=if_neg (by omega)
theorem xr_step (M:Nat->Nat->Rat) {i j k b:Nat} (hij:i≠j) (hb:sw i j b=k) (a:Nat):(if a=j then xr M i j k b i else if a=i then xr M i j k b j else xr M i j k b a)=xr M i j (k+1) b a:=by
 have e:∀ x,xr M i j k b x=M b x:=fun x=>if_neg (by omega);have e3:xr M i j (k+1) b a=M b (if a=i then j else if a=j then i else a):=if_pos (by omega);rw[e,e,e,e3];by_cases h1:a=i
 ·rw[if_neg (show ¬ a=j by omega),if_pos h1,if_pos h1]
 ·rw[if_neg h1,if_neg h1];by_cases h2:a=j
  ·rw[if_pos h2,if_pos h2]
  ·rw[if_neg h2,if_neg h2]
theorem xr_keep (M:Nat->Nat->Rat) {i j k b:Nat} (hb:sw i j b≠k) (a:Nat):xr M i j (k+1) b a=xr M i j k b a:=by
 unfold xr;by_cases h:sw i j b<k
 ·rw[if_pos h,if_pos (by omega)]
 ·rw[if_neg h,if_neg (by omega)]
theorem xr_all (M:Nat->Nat->Rat) {i j n a:Nat} (ha:a<n) (x:Nat):xch (sw i j) M a x=xr M i j n (sw i j a) x:=by
 show _=if sw i j (sw i j a)<n then M (sw i j a) (sw i j x)else _
 rw[sw_sw,if_pos ha];rfl
theorem xk {q k n i j t b:Nat} {bl:List Blk} {ks:List (Option Nat)} {M:Nat->Nat->Rat} (h:bl[k]? = some ⟨38,4,n,0,0,qlF fun x=>ofR (xr M i j t b x)⟩) (hb:sw i j b≠t:=by exact of_decide_eq_true rfl):yZ q bl ks (gq n (xr M i j (t+1) b)) (some k):=rk h fun x _=>xr_keep M hb x
theorem xz {q k n i j b:Nat} {bl:List Blk} {ks:List (Option Nat)} {M:Nat->Nat->Rat} (h:bl[k]? = some ⟨38,4,n,0,0,qlF fun x=>ofR (M b x)⟩):yZ q bl ks (gq n (xr M i j 0 b)) (some k):=rk h fun x _=>xr_zero M i j b x
theorem xa {q k n i j m b:Nat} {bl:List Blk} {ks:List (Option Nat)} {M:Nat->Nat->Rat} (h:bl[k]? = some ⟨38,4,n,0,0,qlF fun x=>ofR (xr M i j m (sw i j b) x)⟩) (hb:b<m:=by exact of_decide_eq_true rfl):yZ q bl ks (gq n (xch (sw i j) M b)) (some k):=rk h fun x _=>xr_all M hb x
theorem xu {q k n i j t b:Nat} {bl:List Blk} {ks:List (Option Nat)} {M:Nat->Nat->Rat} (h:bl[k]? = some ⟨38,4,n,0,0,zY (zY (qlF fun x=>ofR (xr M i j t b x)) i 0 (nq (xr M i j t b j))) j 0 (nq (xr M i j t b i))⟩) (hij:i≠j:=by exact of_decide_eq_true rfl) (hb:sw i j b=t:=by rfl):yZ q bl ks (gq n (xr M i j (t+1) b)) (some k):=⟨_,h,rfl,rfl,rfl,rfl,fun x _ _ hy=>row_upd2 hy (xr_step M hij hb x)⟩
theorem yb {P:Nat->Prop} {i k:Nat} (h:i=k) (g:let v:=k;P v):P i:=by
 subst h;exact g
theorem ni {i m:Nat} (e:decide (i<m)=true):i<m:=of_decide_eq_true e
theorem ia {i m:Int} (e:decide (i<m)=true):i<m:=of_decide_eq_true e
theorem ib {i m:Int} (e:decide (i<=m)=true):i<=m:=of_decide_eq_true e
theorem wt {tm:Nat->V} {bl:List Blk} {tl:List (Nat × V)} {xs:List Gx} {ks:List (Option Nat)} (hb:srcsG 0 bl ks ks xs) (hl:Vp tl fun p=>gP 0 bl ks (tm p.1) p.2) (hi:injK ks=true:=by rfl) (h0:ks[0]? = some (some 0):=by rfl) (hu:∃ B,bl[0]? = some B/\B.u=0/\B.st<=1:=by exact⟨_,rfl,rfl,Nat.zero_le 1⟩):Weak 1 ⟨tm,bl⟩ (gst tl xs):=Weak.genT ks hi h0 hu hb hl
theorem exch_3 (M:Nat->Nat->Rat) {i j:Nat} (hij:j<i) (hi:i<3):FnT Tryz.prog true 92 1 ((R3 M).map gb) [.c (.gs 0 0),.c (.int .i64 i),.c (.int .i64 j)] (.c .any) ((R3 (xch (sw i j) M)).map gb):=by
 have e:i=1∨i=2:=by omega
 revert hij hi;rcases e with e | e <;> (
  apply yb e;intro i hij hi;have e:j=0∨j=1:=by omega
  revert hij;rcases e with e | e <;> (
   apply yb e;intro j hij;first
   | exact absurd hij (of_decide_eq_false rfl)
   | (
    clear hij hi;refine jX (E:=E1m) wj Tryz.func92 rfl (by kernel_rfl) ?_;refine sq ?_;conv=>whnf
    repeat (refine⟨ib rfl,ia rfl,?_⟩;conv=>whnf)
    refine⟨gst [(0,.c (.gs 0 0)),(1,.c (.int .i64 i)),(2,.c (.int .i64 j))] [gG 3 (sw i j),gq 3 (M 0),gq 3 (M 1),gq 3 (M 2)],wt (ks:=[some 0,some 1,some 2,some 3]) ⟨gp3 rfl,rs rfl,rs rfl,rs rfl,trivial⟩ ⟨⟨_,rfl,rfl,rfl⟩,⟨_,rfl,rfl⟩,⟨_,rfl,rfl⟩,trivial⟩,?_⟩;refine sq ?_;conv=>whnf
    refine⟨(fun k:Nat=>gst [(1,.c (.int .i64 i)),(2,.c (.int .i64 j)),(22,.c (.gs 0 0)),(23,.c (.int .i64 3)),(24,.c (.int .i64 (k:Nat)))] [gG 3 (sw i j),gq 3 (xr M i j k 0),gq 3 (xr M i j k 1),gq 3 (xr M i j k 2)]) 0,wt (ks:=[some 0,some 1,some 2,some 3]) ⟨gp3 rfl,xz rfl,xz rfl,xz rfl,trivial⟩ ⟨⟨_,rfl,rfl⟩,⟨_,rfl,rfl⟩,⟨_,rfl,rfl,rfl⟩,⟨_,rfl,rfl⟩,⟨_,rfl,rfl⟩,trivial⟩,?_⟩;refine qq (qZ (fun k:Nat=>gst [(1,.c (.int .i64 i)),(2,.c (.int .i64 j)),(22,.c (.gs 0 0)),(23,.c (.int .i64 3)),(24,.c (.int .i64 (k:Nat)))] [gG 3 (sw i j),gq 3 (xr M i j k 0),gq 3 (xr M i j k 1),gq 3 (xr M i j k 2)]) (fun k=>3-k) (fun k=>k<=3) 0 (Weak.refl _) (Nat.zero_le _) fun k hk=>?_);rcases Nat.lt_or_ge k 3 with hlt | hge;rotate_left
    ·obtain rfl:k=3:=Nat.le_antisymm hk hge;refine so ?_;conv=>whnf
     exact wt (tl:=[(0,.c .any)]) (xs:=R3 (xch (sw i j) M)) (ks:=[some 0,some (sw i j 0+1),some (sw i j 1+1),some (sw i j 2+1)]) ⟨gp3 rfl,xa rfl,xa rfl,xa rfl,trivial⟩ ⟨⟨rfl,rfl⟩,trivial⟩
    have e:k=0∨k=1∨k=2:=by omega
    clear hk hlt;rcases e with e | e | e <;> (
     apply yb e;intro k;have hk:k<3:=ni rfl;refine so ?_;conv=>whnf
     repeat (refine⟨by first | exact ib rfl | exact ia rfl | exact ixl rfl,?_⟩;conv=>whnf)
     refine⟨qz (by omega) (by omega),?_⟩;conv=>whnf
     exact⟨k+1,by omega,wt (ks:=[some 0,some 1,some 2,some 3]) ⟨gp3 rfl,by first | exact xk rfl | exact xu rfl,by first | exact xk rfl | exact xu rfl,by first | exact xk rfl | exact xu rfl,trivial⟩ ⟨⟨_,rfl,rfl⟩,⟨_,rfl,rfl⟩,⟨_,rfl,rfl,rfl⟩,⟨_,rfl,rfl⟩,⟨_,rfl,rfl⟩,trivial⟩,hk⟩))))
theorem exch_4 (M:Nat->Nat->Rat) {i j:Nat} (hij:j<i) (hi:i<4):FnT Tryz.prog true 92 1 ((R4 M).map gb) [.c (.gs 0 0),.c (.int .i64 i),.c (.int .i64 j)] (.c .any) ((R4 (xch (sw i j) M)).map gb):=by
 have e:i=1∨i=2∨i=3:=by omega
 revert hij hi;rcases e with e | e | e <;> (
  apply yb e;intro i hij hi;have e:j=0∨j=1∨j=2:=by omega
  revert hij;rcases e with e | e | e <;> (
   apply yb e;intro j hij;first
   | exact absurd hij (of_decide_eq_false rfl)
   | (
    clear hij hi;refine jX (E:=E1m) wj Tryz.func92 rfl (by kernel_rfl) ?_;refine sq ?_;conv=>whnf
    repeat (refine⟨ib rfl,ia rfl,?_⟩;conv=>whnf)
    refine⟨gst [(0,.c (.gs 0 0)),(1,.c (.int .i64 i)),(2,.c (.int .i64 j))] [gG 4 (sw i j),gq 4 (M 0),gq 4 (M 1),gq 4 (M 2),gq 4 (M 3)],wt (ks:=[some 0,some 1,some 2,some 3,some 4]) ⟨gp4 rfl,rs rfl,rs rfl,rs rfl,rs rfl,trivial⟩ ⟨⟨_,rfl,rfl,rfl⟩,⟨_,rfl,rfl⟩,⟨_,rfl,rfl⟩,trivial⟩,?_⟩;refine sq ?_;conv=>whnf
    refine⟨(fun k:Nat=>gst [(1,.c (.int .i64 i)),(2,.c (.int .i64 j)),(22,.c (.gs 0 0)),(23,.c (.int .i64 4)),(24,.c (.int .i64 (k:Nat)))] [gG 4 (sw i j),gq 4 (xr M i j k 0),gq 4 (xr M i j k 1),gq 4 (xr M i j k 2),gq 4 (xr M i j k 3)]) 0,wt (ks:=[some 0,some 1,some 2,some 3,some 4]) ⟨gp4 rfl,xz rfl,xz rfl,xz rfl,xz rfl,trivial⟩ ⟨⟨_,rfl,rfl⟩,⟨_,rfl,rfl⟩,⟨_,rfl,rfl,rfl⟩,⟨_,rfl,rfl⟩,⟨_,rfl,rfl⟩,trivial⟩,?_⟩;refine qq (qZ (fun k:Nat=>gst [(1,.c (.int .i64 i)),(2,.c (.int .i64 j)),(22,.c (.gs 0 0)),(23,.c (.int .i64 4)),(24,.c (.int .i64 (k:Nat)))] [gG 4 (sw i j),gq 4 (xr M i j k 0),gq 4 (xr M i j k 1),gq 4 (xr M i j k 2),gq 4 (xr M i j k 3)]) (fun k=>4-k) (fun k=>k<=4) 0 (Weak.refl _) (Nat.zero_le _) fun k hk=>?_);rcases Nat.lt_or_ge k 4 with hlt | hge;rotate_left
    ·obtain rfl:k=4:=Nat.le_antisymm hk hge;refine so ?_;conv=>whnf
     exact wt (tl:=[(0,.c .any)]) (xs:=R4 (xch (sw i j) M)) (ks:=[some 0,some (sw i j 0+1),some (sw i j 1+1),some (sw i j 2+1),some (sw i j 3+1)]) ⟨gp4 rfl,xa rfl,xa rfl,xa rfl,xa rfl,trivial⟩ ⟨⟨rfl,rfl⟩,trivial⟩
    have e:k=0∨k=1∨k=2∨k=3:=by omega
    clear hk hlt;rcases e with e | e | e | e <;> (
     apply yb e;intro k;have hk:k<4:=ni rfl;refine so ?_;conv=>whnf
     repeat (refine⟨by first | exact ib rfl | exact ia rfl | exact ixl rfl,?_⟩;conv=>whnf)
     refine⟨qz (by omega) (by omega),?_⟩;conv=>whnf
     exact⟨k+1,by omega,wt (ks:=[some 0,some 1,some 2,some 3,some 4]) ⟨gp4 rfl,by first | exact xk rfl | exact xu rfl,by first | exact xk rfl | exact xu rfl,by first | exact xk rfl | exact xu rfl,by first | exact xk rfl | exact xu rfl,trivial⟩ ⟨⟨_,rfl,rfl⟩,⟨_,rfl,rfl⟩,⟨_,rfl,rfl,rfl⟩,⟨_,rfl,rfl⟩,⟨_,rfl,rfl⟩,trivial⟩,hk⟩))))
theorem exch_5 (M:Nat->Nat->Rat) {i j:Nat} (hij:j<i) (hi:i<5):FnT Tryz.prog true 92 1 ((R5 M).map gb) [.c (.gs 0 0),.c (.int .i64 i),.c (.int .i64 j)] (.c .any) ((R5 (xch (sw i j) M)).map gb):=by
 have e:i=1∨i=2∨i=3∨i=4:=by omega
 revert hij hi;rcases e with e | e | e | e <;> (
  apply yb e;intro i hij hi;have e:j=0∨j=1∨j=2∨j=3:=by omega
  revert hij;rcases e with e | e | e | e <;> (
   apply yb e;intro j hij;first
   | exact absurd hij (of_decide_eq_false rfl)
   | (
    clear hij hi;refine jX (E:=E1m) wj Tryz.func92 rfl (by kernel_rfl) ?_;refine sq ?_;conv=>whnf
    repeat (refine⟨ib rfl,ia rfl,?_⟩;conv=>whnf)
    refine⟨gst [(0,.c (.gs 0 0)),(1,.c (.int .i64 i)),(2,.c (.int .i64 j))] [gG 5 (sw i j),gq 5 (M 0),gq 5 (M 1),gq 5 (M 2),gq 5 (M 3),gq 5 (M 4)],wt (ks:=[some 0,some 1,some 2,some 3,some 4,some 5]) ⟨gp5 rfl,rs rfl,rs rfl,rs rfl,rs rfl,rs rfl,trivial⟩ ⟨⟨_,rfl,rfl,rfl⟩,⟨_,rfl,rfl⟩,⟨_,rfl,rfl⟩,trivial⟩,?_⟩;refine sq ?_;conv=>whnf
    refine⟨(fun k:Nat=>gst [(1,.c (.int .i64 i)),(2,.c (.int .i64 j)),(22,.c (.gs 0 0)),(23,.c (.int .i64 5)),(24,.c (.int .i64 (k:Nat)))] [gG 5 (sw i j),gq 5 (xr M i j k 0),gq 5 (xr M i j k 1),gq 5 (xr M i j k 2),gq 5 (xr M i j k 3),gq 5 (xr M i j k 4)]) 0,wt (ks:=[some 0,some 1,some 2,some 3,some 4,some 5]) ⟨gp5 rfl,xz rfl,xz rfl,xz rfl,xz rfl,xz rfl,trivial⟩ ⟨⟨_,rfl,rfl⟩,⟨_,rfl,rfl⟩,⟨_,rfl,rfl,rfl⟩,⟨_,rfl,rfl⟩,⟨_,rfl,rfl⟩,trivial⟩,?_⟩;refine qq (qZ (fun k:Nat=>gst [(1,.c (.int .i64 i)),(2,.c (.int .i64 j)),(22,.c (.gs 0 0)),(23,.c (.int .i64 5)),(24,.c (.int .i64 (k:Nat)))] [gG 5 (sw i j),gq 5 (xr M i j k 0),gq 5 (xr M i j k 1),gq 5 (xr M i j k 2),gq 5 (xr M i j k 3),gq 5 (xr M i j k 4)]) (fun k=>5-k) (fun k=>k<=5) 0 (Weak.refl _) (Nat.zero_le _) fun k hk=>?_);rcases Nat.lt_or_ge k 5 with hlt | hge;rotate_left
    ·obtain rfl:k=5:=Nat.le_antisymm hk hge;refine so ?_;conv=>whnf
     exact wt (tl:=[(0,.c .any)]) (xs:=R5 (xch (sw i j) M)) (ks:=[some 0,some (sw i j 0+1),some (sw i j 1+1),some (sw i j 2+1),some (sw i j 3+1),some (sw i j 4+1)]) ⟨gp5 rfl,xa rfl,xa rfl,xa rfl,xa rfl,xa rfl,trivial⟩ ⟨⟨rfl,rfl⟩,trivial⟩
    have e:k=0∨k=1∨k=2∨k=3∨k=4:=by omega
    clear hk hlt;rcases e with e | e | e | e | e <;> (
     apply yb e;intro k;have hk:k<5:=ni rfl;refine so ?_;conv=>whnf
     repeat (refine⟨by first | exact ib rfl | exact ia rfl | exact ixl rfl,?_⟩;conv=>whnf)
     refine⟨qz (by omega) (by omega),?_⟩;conv=>whnf
     exact⟨k+1,by omega,wt (ks:=[some 0,some 1,some 2,some 3,some 4,some 5]) ⟨gp5 rfl,by first | exact xk rfl | exact xu rfl,by first | exact xk rfl | exact xu rfl,by first | exact xk rfl | exact xu rfl,by first | exact xk rfl | exact xu rfl,by first | exact xk rfl | exact xu rfl,trivial⟩ ⟨⟨_,rfl,rfl⟩,⟨_,rfl,rfl⟩,⟨_,rfl,rfl,rfl⟩,⟨_,rfl,rfl⟩,⟨_,rfl,rfl⟩,trivial⟩,hk⟩))))
end Mx
end Go.Proofs.YtkmbnldginonbaaGreat
namespace Go.Proofs.YtkmbnldginonbaaGreat
open Go.RowKit
namespace Mx
open Rf
theorem srm {N:Nat} {c:Code} {σ:St} {R:Exit->St->Prop} (h:awp E0m c σ R) (hc:x9 N c=true:=by kernel_rfl):Swp E0m N c σ R:=qJ E0m_ok mixed hc h
theorem sqm {N:Nat} {x y:Code} {σ:St} {R:Exit->St->Prop} (h:awp E0m x σ (seqR (fun σ'=>∃ σ2,Weak E0m.m0 σ' σ2/\Swp E0m N y σ2 R) R)) (hc:x9 N x=true:=by kernel_rfl):Swp E0m N (.seq x y) σ R:=qy E0m_ok mixed hc h
set_option maxRecDepth 100000 in
set_option maxHeartbeats 64000000 in
theorem rows_t {k m:Nat} {q:Nat->RawR} {G:Nat->Nat->Rat} (l0:List Cell) (h0:l0.all Cell.clos=true) (hk1:1<=k) (hk:k<=6) (hm:m<=64) (hw:∀ a,a<k*m->wq (q a)) (hv:∀ i j,i<k->j<m->(q (i*m+j)).val=G i j):FnT Tryz.prog false 55 1 [gb ⟨24,3,1,qk l0⟩] [.g (qG k m q)] (.c (.gs 1 0)) (gb ⟨24,3,1,qk l0⟩ :: gb ⟨22,1,k,gsF 2⟩ :: (rowsL m G k).map gb):=by
 have hN:∀ i j,i<k->j<m->inR .i64 ((i:Int)*(m:Int))/\inR .i64 ((i:Int)*(m:Int)+(j:Int))/\(0:Int)<=(i:Int)*(m:Int)+(j:Int)/\(i:Int)*(m:Int)+(j:Int)<((k*m:Nat):Int)/\FnOK Tryz.prog false 102 [.g (rr (q ((i:Int)*(m:Int)+(j:Int)).toNat))] (.g (nq (G i j))):=fun i j hi hj=>by
  have e1:(i:Int)*(m:Int)=((i*m:Nat):Int):=(Int.natCast_mul i m).symm;have e2:i*m+j<k*m:=by
   have:=Nat.mul_le_mul_right m (show i+1<=k by omega);rw[Nat.succ_mul]at this;omega
  have e3:i*m<=6*64:=Nat.mul_le_mul (by omega) hm;rw[e1];refine⟨qz (by omega) (by omega),qz (by omega) (by omega),by omega,by omega,?_⟩;rw[show(((i*m:Nat):Int)+(j:Int)).toNat=i*m+j by omega];have:=vq (hw (i*m+j) e2);rwa [hv i j hi hj]at this
 clear hw hv;obtain⟨cb,hcb⟩:∃ cb:Gx,cb=⟨24,3,1,qk l0⟩:=⟨_,rfl⟩;have ck:∀(bl:List Blk) (ks:List (Option Nat)),bl[0]? = some (gb cb)->yZ 0 bl ks cb (some 0):=fun bl ks hb=>by
  subst hcb;exact Rf.boxK hb h0
 have cu:(gb cb).u=0:=rfl;have cs:(gb cb).st<=1:=Nat.zero_le 1;rw[<- hcb];clear hcb h0;refine jX (E:=E0m) E0m_ok Tryz.func55 rfl (by kernel_rfl) ?_;refine sqm ?_;conv=>whnf
 refine⟨gst [(1,.c (.p 1 0 3 0 0))] [cb,⟨24,3,1,qk (qG k m q)⟩],Weak.genT [some 0,some 1] rfl rfl ⟨_,rfl,cu,cs⟩ ⟨ck _ _ rfl,Rf.boxK rfl rfl,trivial⟩ ⟨⟨_,rfl,rfl,rfl⟩,trivial⟩,?_⟩;refine sqm ?_;conv=>whnf
 refine⟨gst [(1,.c (.p 1 0 3 0 0)),(3,.c (.gs 2 0))] [cb,⟨24,3,1,qk (qG k m q)⟩,⟨22,1,0,gsF 3⟩],Weak.genT [some 0,some 1,none] rfl rfl ⟨_,rfl,cu,cs⟩ ⟨ck _ _ rfl,Rf.boxK rfl rfl,rfl,trivial⟩ ⟨⟨_,rfl,rfl,rfl⟩,rfl,trivial⟩,?_⟩;refine qF (fun _:Unit=>gst [(1,.c (.p 1 0 3 0 0)),(3,.c (.gs 2 0))] (cb :: ⟨24,3,1,qk (qG k m q)⟩ :: ⟨22,1,k,gsF 3⟩ :: rowsL m G k)) (fun _=>True) ?_ fun _ _=>?_;rotate_left
 ·have e:k=1∨k=2∨k=3∨k=4∨k=5∨k=6:=by omega
  clear hk1 hk hN;rcases e with e | e | e | e | e | e <;> (
   apply yb e;intro k;refine srm ?_;conv=>whnf
   refine Weak.genT (tl:=[(0,.c (.gs 1 0))]) (xs:=cb :: ⟨22,1,k,gsF 2⟩ :: rowsL m G k) (some 0 :: some 2 :: (List.range k).map fun x=>some (x+3)) rfl rfl ⟨_,rfl,cu,cs⟩ ⟨ck _ _ rfl,⟨_,rfl,rfl,rfl,rfl,rfl,fun x y hx hy=>gs_to (x:=x) (y:=y) rfl rfl hx⟩,?_⟩ ⟨⟨_,rfl,rfl,rfl⟩,trivial⟩;repeat (first | exact trivial | refine⟨rs rfl,?_⟩))
 refine sqm ?_;conv=>whnf
 refine⟨(fun i:Nat=>gst [(1,.c (.p 1 0 3 0 0)),(3,.c (.gs 2 0)),(4,.c (.int .i64 i))] (cb :: ⟨24,3,1,qk (qG k m q)⟩ :: ⟨22,1,i,gsF 3⟩ :: rowsL m G i)) 0,Weak.genT [some 0,some 1,some 2] rfl rfl ⟨_,rfl,cu,cs⟩ ⟨ck _ _ rfl,Rf.boxK rfl rfl,⟨_,rfl,rfl,rfl,rfl,rfl,fun x y hx hy=>absurd (show x<0 from hx) (Nat.not_lt_zero x)⟩,trivial⟩ ⟨⟨_,rfl,rfl,rfl⟩,⟨_,rfl,rfl,rfl⟩,⟨_,rfl,rfl⟩,trivial⟩,?_⟩;refine qq (qZ (fun i:Nat=>gst [(1,.c (.p 1 0 3 0 0)),(3,.c (.gs 2 0)),(4,.c (.int .i64 i))] (cb :: ⟨24,3,1,qk (qG k m q)⟩ :: ⟨22,1,i,gsF 3⟩ :: rowsL m G i)) (fun i=>k-i) (fun i=>i<=k) 0 (Weak.refl _) (Nat.zero_le k) fun i hi=>?_);have hi:i<=k:=hi;rcases Nat.lt_or_ge i k with ilt | ige;rotate_left
 ·obtain rfl:i=k:=Nat.le_antisymm hi ige;have e:i=1∨i=2∨i=3∨i=4∨i=5∨i=6:=by omega
  clear hk1 hk hN hi ige;rcases e with e | e | e | e | e | e <;> (
   apply yb e;intro i;refine qf E0m_ok mixed (by kernel_rfl) ?_;conv=>whnf
   exact⟨(),trivial,Weak.genT (some 0 :: some 1 :: some 2 :: (List.range i).map fun x=>some (x+3)) rfl rfl ⟨_,rfl,cu,cs⟩ ⟨ck _ _ rfl,Rf.boxK rfl rfl,⟨_,rfl,rfl,rfl,rfl,rfl,fun x y hx hy=>vp (x:=x) (y:=y) rfl rfl hx⟩,by repeat (first | exact trivial | refine⟨rs rfl,?_⟩)⟩ ⟨⟨_,rfl,rfl,rfl⟩,⟨_,rfl,rfl,rfl⟩,trivial⟩⟩)
 have e:i=0∨i=1∨i=2∨i=3∨i=4∨i=5:=by omega
 have F:_/\_/\_:=⟨hN i,ilt,(by omega:(i:Int)<(k:Int))⟩;clear hk1 hk hN hi ilt;revert F;rcases e with e | e | e | e | e | e <;> (
  apply yb e;intro i F;obtain⟨hN,ilt,h1⟩:=F;refine qf E0m_ok mixed (by kernel_rfl) ?_;conv=>whnf
  refine xG (decide_eq_true h1) ?_;conv=>whnf
  refine qF (fun _:Unit=>gst [(1,.c (.p 1 0 3 0 0)),(3,.c (.gs 2 0)),(4,.c (.int .i64 i))] (cb :: ⟨24,3,1,qk (qG k m q)⟩ :: ⟨22,1,(i+1),gsF 3⟩ :: rowsL m G (i+1))) (fun _=>True) ?_ fun _ _=>?_;rotate_left
  ·refine srm ?_;conv=>whnf
   refine⟨qz (by omega) (by omega),?_⟩;conv=>whnf
   exact⟨i+1,by omega,Weak.genT (some 0 :: some 1 :: some 2 :: (List.range (i+1)).map fun x=>some (x+3)) rfl rfl ⟨_,rfl,cu,cs⟩ ⟨ck _ _ rfl,Rf.boxK rfl rfl,⟨_,rfl,rfl,rfl,rfl,rfl,fun x y hx hy=>vp (x:=x) (y:=y) rfl rfl hx⟩,by repeat (first | exact trivial | refine⟨rs rfl,?_⟩)⟩ ⟨⟨_,rfl,rfl,rfl⟩,⟨_,rfl,rfl,rfl⟩,⟨_,rfl,rfl⟩,trivial⟩,ilt⟩
  refine qq ?_;refine sqm ?_;conv=>whnf
  refine⟨gst [(1,.c (.p 1 0 3 0 0)),(3,.c (.gs 2 0)),(4,.c (.int .i64 i)),(5,.c (.gs (i+3) 0))] (cb :: ⟨24,3,1,qk (qG k m q)⟩ :: ⟨22,1,i,gsF 3⟩ :: (rowsL m G i++[gq 0 (G i)])),Weak.genT (some 0 :: some 1 :: some 2 :: ((List.range i).map (fun x=>some (x+3))++[none])) rfl rfl ⟨_,rfl,cu,cs⟩ ⟨ck _ _ rfl,Rf.boxK rfl rfl,⟨_,rfl,rfl,rfl,rfl,rfl,fun x y hx hy=>vp (x:=x) (y:=y) rfl rfl hx⟩,by repeat (first | exact trivial | refine⟨rs rfl,?_⟩ | refine⟨rfl,?_⟩)⟩ ⟨⟨_,rfl,rfl,rfl⟩,⟨_,rfl,rfl,rfl⟩,⟨_,rfl,rfl⟩,gs_nil rfl,trivial⟩,?_⟩;refine qF (fun _:Unit=>gst [(1,.c (.p 1 0 3 0 0)),(3,.c (.gs 2 0)),(4,.c (.int .i64 i)),(5,.c (.gs (i+3) 0))] (cb :: ⟨24,3,1,qk (qG k m q)⟩ :: ⟨22,1,i,gsF 3⟩ :: (rowsL m G i++[gq m (G i)]))) (fun _=>True) ?_ fun _ _=>?_;rotate_left
  ·refine srm ?_;conv=>whnf
   refine⟨Nat.le_of_ble_eq_true rfl,fun a b ha hb=>?_,?_⟩
   ·match a,b,ha,hb with
    | 0,0,_,_=>exact⟨rfl,fun h=>by cases h⟩
   conv=>whnf
   exact⟨(),trivial,Weak.genT (some 0 :: some 1 :: some 2 :: (List.range (i+1)).map fun x=>some (x+3)) rfl rfl ⟨_,rfl,cu,cs⟩ ⟨ck _ _ rfl,Rf.boxK rfl rfl,⟨_,rfl,rfl,rfl,rfl,rfl,fun x y hx hy=>app_gs (i:=i) (x:=x) (y:=y) rfl rfl hx hy⟩,by repeat (first | exact trivial | refine⟨rs rfl,?_⟩)⟩ ⟨⟨_,rfl,rfl,rfl⟩,⟨_,rfl,rfl,rfl⟩,⟨_,rfl,rfl⟩,trivial⟩⟩
  refine sqm ?_;conv=>whnf
  refine⟨(fun j:Nat=>gst [(1,.c (.p 1 0 3 0 0)),(3,.c (.gs 2 0)),(4,.c (.int .i64 i)),(5,.c (.gs (i+3) 0)),(6,.c (.int .i64 j))] (cb :: ⟨24,3,1,qk (qG k m q)⟩ :: ⟨22,1,i,gsF 3⟩ :: (rowsL m G i++[gq j (G i)]))) 0,Weak.genT (some 0 :: some 1 :: some 2 :: (List.range (i+1)).map fun x=>some (x+3)) rfl rfl ⟨_,rfl,cu,cs⟩ ⟨ck _ _ rfl,Rf.boxK rfl rfl,⟨_,rfl,rfl,rfl,rfl,rfl,fun x y hx hy=>vp (x:=x) (y:=y) rfl rfl hx⟩,by repeat (first | exact trivial | refine⟨rs rfl,?_⟩)⟩ ⟨⟨_,rfl,rfl,rfl⟩,⟨_,rfl,rfl,rfl⟩,⟨_,rfl,rfl⟩,gs_at (j:=i+3) (k:=i+3) rfl rfl rfl rfl,⟨_,rfl,rfl⟩,trivial⟩,?_⟩;refine qq (qZ (fun j:Nat=>gst [(1,.c (.p 1 0 3 0 0)),(3,.c (.gs 2 0)),(4,.c (.int .i64 i)),(5,.c (.gs (i+3) 0)),(6,.c (.int .i64 j))] (cb :: ⟨24,3,1,qk (qG k m q)⟩ :: ⟨22,1,i,gsF 3⟩ :: (rowsL m G i++[gq j (G i)]))) (fun j=>m-j) (fun j=>j<=m) 0 (Weak.refl _) (Nat.zero_le m) fun j hj=>?_);have hj:j<=m:=hj;have hN:=hN j ilt;refine srm ?_;conv=>whnf
  refine qg (fun(h:decide ((j:Int)<(m:Int))=true)=>?_) fun(h:decide ((j:Int)<(m:Int))=false)=>?_
  ·have h:=of_decide_eq_true h;have hjm:j<m:=by omega
   obtain⟨r1,r2,r3,r4,kN⟩:=hN hjm;have r5:inR .i64 ((j:Int)+1):=qz (by omega) (by omega);conv=>whnf
   refine⟨r1,?_⟩;conv=>whnf
   refine⟨r2,?_⟩;conv=>whnf
   refine⟨r3,r4,?_⟩;conv=>whnf
   refine⟨_,kN,?_⟩;conv=>whnf
   refine⟨by show j+1<=16777216;omega,fun a b ha hb=>Rf.one_nq (G i j) _ a b ha hb,?_⟩;conv=>whnf
   refine⟨r5,?_⟩;conv=>whnf
   exact⟨j+1,by omega,Weak.genT (some 0 :: some 1 :: some 2 :: (List.range (i+1)).map fun x=>some (x+3)) rfl rfl ⟨_,rfl,cu,cs⟩ ⟨ck _ _ rfl,Rf.boxK rfl rfl,⟨_,rfl,rfl,rfl,rfl,rfl,fun x y hx hy=>vp (x:=x) (y:=y) rfl rfl hx⟩,by repeat (first | exact trivial | refine⟨rs rfl,?_⟩ | refine⟨⟨_,rfl,rfl,rfl,rfl,rfl,fun a b ha hb=>qY (appG (sz:=4) (g:=fun k=>nq (G i k)) (g':=fun k=>nq (G i k)) (l:=nq (G i j)) (Rf.app_sameq (G i) j a) (Nat.le_refl (j+1)) ha) (qW (c:=fun k=>ofR (G i k)) a b)⟩,?_⟩)⟩ ⟨⟨_,rfl,rfl,rfl⟩,⟨_,rfl,rfl,rfl⟩,⟨_,rfl,rfl⟩,gs_at (j:=i+3) (k:=i+3) rfl rfl rfl rfl,⟨_,rfl,rfl⟩,trivial⟩,hjm⟩
  ·have h:=of_decide_eq_false h;have e:j=m:=Nat.le_antisymm hj (by omega);clear hN;subst e;conv=>whnf
   exact⟨(),trivial,Weak.genT (some 0 :: some 1 :: some 2 :: (List.range (i+1)).map fun x=>some (x+3)) rfl rfl ⟨_,rfl,cu,cs⟩ ⟨ck _ _ rfl,Rf.boxK rfl rfl,⟨_,rfl,rfl,rfl,rfl,rfl,fun x y hx hy=>vp (x:=x) (y:=y) rfl rfl hx⟩,by repeat (first | exact trivial | refine⟨rs rfl,?_⟩)⟩ ⟨⟨_,rfl,rfl,rfl⟩,⟨_,rfl,rfl,rfl⟩,⟨_,rfl,rfl⟩,gs_at (j:=i+3) (k:=i+3) rfl rfl rfl rfl,trivial⟩⟩)
end Mx
end Go.Proofs.YtkmbnldginonbaaGreat
namespace Go.Proofs.YtkmbnldginonbaaGreat
open Crg Pol
namespace Mx
section
variable {K:Type} [Fld K]
structure Frl (m : Nat) (T : Nat → Rw K) (g : Pol K) : Prop where
 mon:Monic g
 zero:∀ j,j<m->sm (fun t=>g.f t*T t j) g.len=0
 low:∀ h:Pol K,(∀ j,j<m->sm (fun t=>h.f t*T t j) h.len=0)->Dvs g h
variable {m k:Nat} {T:Nat->Rw K} {g:Pol K}
theorem Frl.lin (h:Frl m T g) (hk:k<g.len):Lin m k T:=fun e he i hi=>by
 have hf:∀ j,k<=j->(if j<k then e j else 0)=0:=fun j hj=>if_neg (by omega);let p:Pol K:=⟨fun i=>if i<k then e i else 0,k,hf⟩;have hl:p.len<=k:=Uq hf;have hz:∀ j,j<m->sm (fun t=>p.f t*T t j) p.len=0:=fun j hj=>by
  rw[(Vw (f:=fun t=>p.f t*T t j) (fun t ht=>by rw[len_out p t ht,zero_mul]) hl).symm,<- he j hj];exact sm_congr fun i hi=>by rw[show p.f i=e i from if_pos hi]
 have hp:p=0:=Classical.byContradiction fun hne=>by
  have:=(h.low p hz).len hne;omega
 rw[show e i=p.f i from(if_pos hi).symm,hp];rfl
theorem Frl.top (h:Frl m T g):g.f (g.len-1)=1:=h.mon.2
theorem Frl.no (h:Frl m T g) (hk:k+1<g.len):¬ ∀ j,j<m->jP m k T (T k) j=0:=fun hz=>by
 have e:=gsol_of hz;have L:=h.lin hk fun i=>if i<k then jP m k T (T k) (m+i)else 1
 refine Fld.one_ne (K:=K) ((if_neg (Nat.lt_irrefl k)).symm.trans (L (fun j hj=>?_) k (Nat.lt_succ_self k)));show sm _ k+(if k<k then jP m k T (T k) (m+k)else 1)*T k j=0;rw[if_neg (Nat.lt_irrefl k),one_mul];conv=>lhs;rhs;rw[e j hj]
 rw[<- sm_add];exact z8 fun i hi=>by
  rw[if_pos hi];exact RE.eq [jP m k T (T k) (m+i),T i j] (t0*t1 + -t0*t1) 0 rfl
theorem Frl.yes (h:Frl m T g) (hk:k+1=g.len):(∀ j,j<m->jP m k T (T k) j=0)/\∀ i,i<k->jP m k T (T k) (m+i)=g.f i:=by
 have hb:∀ j,j<m->T k j=sm (fun i => -(g.f i)*T i j) k:=fun j hj=>by
  have z:=h.zero j hj;rw[<- hk]at z;have z:sm (fun t=>g.f t*T t j) k+g.f k*T k j=0:=z;rw[show g.f k=1 by have:=h.top;rwa [<- hk,Nat.add_sub_cancel]at this,one_mul]at z;rw[show(fun i => -(g.f i)*T i j)=fun i => -(g.f i*T i j)from funext fun i=>RE.eq [g.f i,T i j] (-t0*t1) (-(t0*t1)) rfl,sm_neg];exact VY z
 obtain⟨h1,h2⟩:=gsol_eq (h.lin (by omega)) hb;exact⟨h1,fun i hi=>by rw[h2 i hi];exact RE.eq [g.f i] (-(-t0)) t0 rfl⟩
theorem Mn.fr {n : Nat} {A : Nat → Nat → K} (h : Mn n A n g) : Frl (n * n) (fun t j => mpw n A t (j / n) (j % n)) g where
 mon:=h.mon
 zero j hj:=by
  have hn:0<n:=Nat.pos_of_ne_zero fun e=>by rw[e,Nat.zero_mul]at hj;omega
  exact h.zero (j / n) (j%n) (Nat.div_lt_of_lt_mul hj) (Nat.mod_lt _ hn)
 low p hp:=h.low p fun i j hi hj=>by
  have e1:i*n+j<n*n:=by
   have:=Nat.mul_le_mul_right n (show i+1<=n by omega);rw[Nat.succ_mul]at this;omega
  have e2:(i*n+j) / n=i:=by rw[Nat.mul_comm,Nat.mul_add_div (by omega),Nat.div_eq_of_lt hj,Nat.add_zero]
  have e3:(i*n+j)%n=j:=by rw[Nat.mul_comm,Nat.mul_add_mod,Nat.mod_eq_of_lt hj]
  have:=hp (i*n+j) e1;rwa [e2,e3]at this
theorem Ann.fr {n : Nat} {A : Nat → Nat → K} {v : Nat → K} (h : Ann n A v g) : Frl n (av n A v) g where
 mon:=h.mon
 zero:=h.zero
 low:=h.low
end
end Mx
end Go.Proofs.YtkmbnldginonbaaGreat
set_option maxHeartbeats 8000000
namespace Go.Proofs.YtkmbnldginonbaaGreat
open Go.RowKit
namespace Rf
theorem qsub_any {x y:RawR} {lx ly:List Cell} {L:Nat} {z:Rat} (h1:1<=L) (hx:x.Fit L) (hy:y.Fit L) (sx:Sub (.g lx) (.g (rr x))) (sy:Sub (.g ly) (.g (rr y))) (hL:L+L+4<=LIM) (hz:x.val-y.val=z):FnOK Tryz.prog true 50 [.g lx,.g ly] (.g (nq z)):=by
 have h:=qsub_ok hx hy h1 hL;rw[hz]at h;refine arg_ok h fun D w vs h=>?_;match vs,h with
 | [v0,v1],⟨h0,h1,_⟩=>exact⟨sx D w v0 h0,sy D w v1 h1,trivial⟩
theorem qpsub_ok {n m:Nat} {q p:Nat->RawR} {L:Nat} {v:Nat->Rat} (hv:∀ i,i<max n m->Q.qx n (fun i=>(q i).val) i-Q.qx m (fun i=>(p i).val) i=v i) (hn:n<=1048576) (hm:m<=1048576) (hq:∀ i,i<n->(q i).Fit L) (hp:∀ i,i<m->(p i).Fit L) (h1L:1<=L) (hL:L+L+4<=LIM):FnOK Tryz.prog true 94 [.c (ql n q),.c (ql m p),.c (.fn 50)] (.c (nql (Q.tq v (max n m)) v)):=by
 obtain⟨M,hM⟩:∃ M,M=max n m:=⟨_,rfl⟩;rw[<- hM]at hv ⊢
 have a1:∀ i,i<M->i<n->i<m->FnOK Tryz.prog true 50 [.g (rr (q i)),.g (rr (p i))] (.g (nq (v i))):=fun i h h1 h2=>qsub_any h1L (hq i h1) (hp i h2) (Sub.refl _) (Sub.refl _) hL (by rw[<- hv i h,Q.qx_lt h1,Q.qx_lt h2]);have a2:∀ i,i<M->i<n->¬ i<m->FnOK Tryz.prog true 50 [.g (rr (q i)),.g Uj] (.g (nq (v i))):=fun i h h1 h2=>qsub_any h1L (hq i h1) (zraw_fit L) (Sub.refl _) zsub hL (by rw[<- hv i h,Q.qx_lt h1,zraw_val];unfold Q.qx;rw[if_neg h2]);have a3:∀ i,i<M->¬ i<n->i<m->FnOK Tryz.prog true 50 [.g Uj,.g (rr (p i))] (.g (nq (v i))):=fun i h h1 h2=>qsub_any h1L (zraw_fit L) (hp i h2) zsub (Sub.refl _) hL (by rw[<- hv i h,Q.qx_lt h2,zraw_val];unfold Q.qx;rw[if_neg h1]);have hMn:M<=1048576:=by omega
 have h2:=W9 (v:=v) hMn;have eM:(if((m:Nat):Int) > ((n:Nat):Int)then((m:Nat):Int)else((n:Nat):Int))=(M:Nat):=by split <;> omega
 have eM2:(if((m:Nat):Int) > ((n:Nat):Int)then((m:Nat):Int)else((n:Nat):Int)).toNat=M:=by rw[eM];omega
 clear hv hq hp;generalize Q.tq v M=N at *;have hT:∀ i,i=M->FnOK Tryz.prog true 100 [.c (.row 4 M fun k j=>(qpF v i k).getD j .any)] (.c (nql N v)):=fun i e=>arg_ok h2 fun D w vs h=>by
  match vs,h with
  | [v1],⟨h1,_⟩=>exact⟨zg rfl (fun k j hk hj=>by rw[e];exact V5 hk j) D w v1 h1,trivial⟩
 refine qV (E:=E1) qQ Tryz.func94 rfl mixed (by kernel_rfl) (by kernel_rfl) ?_;conv=>whnf
 refine⟨by rw[eM];omega,Int.le_refl _,by rw[eM];omega,by show(64:Int)*(if((m:Nat):Int) > ((n:Nat):Int)then((m:Nat):Int)else((n:Nat):Int))<=281474976710656;rw[eM];omega,?_⟩;conv=>whnf
 refine qK (fun i:Nat=>gst [(0,.c (ql n q)),(1,.c (ql m p)),(2,.c (.fn 50)),(7,.c (.gs 0 0)),(18,.c (.int .i64 M)),(19,.c (.int .i64 i))] [gqp M v i]) (fun i=>M-i) (fun i=>i<=M) 0 rfl (Weak.gen [some 0] rfl ⟨⟨_,rfl,rfl,rfl,eM2,rfl,fun k j hk hj=>?_⟩,trivial⟩ ⟨rO rfl,rO rfl,⟨rfl,rfl⟩,⟨_,rfl,rfl,rfl⟩,⟨_,rfl,by show((if((m:Nat):Int) > ((n:Nat):Int)then((m:Nat):Int)else((n:Nat):Int)).toNat:Int)=_;rw[eM2]⟩,⟨_,rfl,rfl⟩,trivial⟩) (Nat.zero_le _) fun i hi=>?_
 ·exact qY (congrArg (fun l=>l.getD j .any) (gV v k).symm) (z5 k j)
 have b1:=a1 i;have b2:=a2 i;have b3:=a3 i;conv=>whnf
 refine qg (fun(h:decide ((i:Int)<M)=true)=>?_) fun(h:decide ((i:Int)<M)=false)=>?_
 ·have h:=of_decide_eq_true h;have b1:=b1 (by omega);have b2:=b2 (by omega);have b3:=b3 (by omega);conv=>whnf
  refine qg (fun(c1:decide ((i:Int)<n)=true)=>?_) fun(c1:decide ((i:Int)<n)=false)=>?_
  ·have c1:=of_decide_eq_true c1;have b1:=b1 (by omega);have b2:=b2 (by omega);conv=>whnf
   refine⟨by omega,by omega,?_⟩;conv=>whnf
   refine qg (fun(c2:decide ((i:Int)<m)=true)=>?_) fun(c2:decide ((i:Int)<m)=false)=>?_
   ·have c2:=of_decide_eq_true c2;have b1:=b1 (by omega);conv=>whnf
    refine⟨by omega,by omega,?_⟩;conv=>whnf
    refine⟨_,b1,?_⟩;conv=>whnf
    refine⟨by omega,by show(i:Int)<(M:Int);omega,?_⟩;conv=>whnf
    refine⟨i64 (by omega) (by omega),?_⟩;conv=>whnf
    refine⟨i+1,by omega,Weak.gen [some 0] rfl ⟨⟨_,rfl,rfl,rfl,rfl,rfl,fun j k hj hk=>qY ?_ (z5 j k)⟩,trivial⟩ ⟨rO rfl,rO rfl,⟨rfl,rfl⟩,⟨_,rfl,rfl,rfl⟩,⟨_,rfl,rfl⟩,⟨_,rfl,rfl⟩,trivial⟩,by omega⟩;exact WZ (sz:=4) (g:=qpF v i) (g':=qpF v (i+1)) (l:=nq (v i)) rfl hk (y6 v i j)
   ·have c2:=of_decide_eq_false c2;have b2:=b2 (by omega);conv=>whnf
    refine⟨_,b2,?_⟩;conv=>whnf
    refine⟨by omega,by show(i:Int)<(M:Int);omega,?_⟩;conv=>whnf
    refine⟨i64 (by omega) (by omega),?_⟩;conv=>whnf
    refine⟨i+1,by omega,Weak.gen [some 0] rfl ⟨⟨_,rfl,rfl,rfl,rfl,rfl,fun j k hj hk=>qY ?_ (z5 j k)⟩,trivial⟩ ⟨rO rfl,rO rfl,⟨rfl,rfl⟩,⟨_,rfl,rfl,rfl⟩,⟨_,rfl,rfl⟩,⟨_,rfl,rfl⟩,trivial⟩,by omega⟩;exact WZ (sz:=4) (g:=qpF v i) (g':=qpF v (i+1)) (l:=nq (v i)) rfl hk (y6 v i j)
  ·have c1:=of_decide_eq_false c1;have c2:i<m:=by omega
   have b3:=b3 (by omega) c2;conv=>whnf
   refine xG (show decide ((i:Int)<m)=true from decide_eq_true (by omega)) ?_;conv=>whnf
   refine⟨by omega,by omega,?_⟩;conv=>whnf
   refine⟨_,b3,?_⟩;conv=>whnf
   refine⟨by omega,by show(i:Int)<(M:Int);omega,?_⟩;conv=>whnf
   refine⟨i64 (by omega) (by omega),?_⟩;conv=>whnf
   refine⟨i+1,by omega,Weak.gen [some 0] rfl ⟨⟨_,rfl,rfl,rfl,rfl,rfl,fun j k hj hk=>qY ?_ (z5 j k)⟩,trivial⟩ ⟨rO rfl,rO rfl,⟨rfl,rfl⟩,⟨_,rfl,rfl,rfl⟩,⟨_,rfl,rfl⟩,⟨_,rfl,rfl⟩,trivial⟩,by omega⟩;exact WZ (sz:=4) (g:=qpF v i) (g':=qpF v (i+1)) (l:=nq (v i)) rfl hk (y6 v i j)
 ·have h:=of_decide_eq_false h;have g:=hT i (by omega);conv=>whnf
  refine .inr ⟨fun k j _ _=>z5 k j,?_⟩;conv=>whnf
  refine⟨_,g,?_⟩;conv=>whnf
  exact⟨rfl,Sub.refl _⟩
theorem qpSub_ok {n m:Nat} {q p:Nat->RawR} {L:Nat} {v:Nat->Rat} (hv:∀ i,i<max n m->Q.qx n (fun i=>(q i).val) i-Q.qx m (fun i=>(p i).val) i=v i) (hn:n<=1048576) (hm:m<=1048576) (hq:∀ i,i<n->(q i).Fit L) (hp:∀ i,i<m->(p i).Fit L) (h1L:1<=L) (hL:L+L+4<=LIM):FnOK Tryz.prog true 42 [.c (ql n q),.c (ql m p)] (.c (nql (Q.tq v (max n m)) v)):=by
 have h:=qpsub_ok hv hn hm hq hp h1L hL;refine qV (E:=E1) qQ Tryz.func42 rfl mixed (by kernel_rfl) (by kernel_rfl) ?_;conv=>whnf
 refine⟨_,h,?_⟩;conv=>whnf
 exact⟨rfl,Sub.refl _⟩
theorem merge_scale {n:Nat} {q:Nat->RawR} {z:Nat->Rat} {u:Nat->Cell} (hn:n<=1048576) (call:∀ a,a<n->FnOK Tryz.prog true 95 [.g (rr (q a)),.g Uj,.c (.xp 4 u)] (.g (nq (z a)))):FnOK Tryz.prog true 94 [.c (ql n q),.c .nil,.c (.cl 95 1 fun _ => .xp 4 u)] (.c (nql (Q.tq z n) z)):=by
 have h2:=W9 (v:=z) hn;have eM:(if((0:Nat):Int) > ((n:Nat):Int)then((0:Nat):Int)else((n:Nat):Int))=(n:Nat):=by split <;> omega
 have eM2:(if((0:Nat):Int) > ((n:Nat):Int)then((0:Nat):Int)else((n:Nat):Int)).toNat=n:=by rw[eM];omega
 generalize Q.tq z n=N at *;have hT:∀ i,i=n->FnOK Tryz.prog true 100 [.c (.row 4 n fun k j=>(qpF z i k).getD j .any)] (.c (nql N z)):=fun i e=>arg_ok h2 fun D w vs h=>by
  match vs,h with
  | [v1],⟨h1,_⟩=>exact⟨zg rfl (fun k j hk hj=>by rw[e];exact V5 hk j) D w v1 h1,trivial⟩
 refine qV (E:=E1) qQ Tryz.func94 rfl mixed (by kernel_rfl) (by kernel_rfl) ?_;conv=>whnf
 refine⟨by rw[eM];omega,Int.le_refl _,by rw[eM];omega,by show(64:Int)*(if((0:Nat):Int) > ((n:Nat):Int)then((0:Nat):Int)else((n:Nat):Int))<=281474976710656;rw[eM];omega,?_⟩;conv=>whnf
 refine qK (fun i:Nat=>gst [(0,.c (ql n q)),(1,.c .nil),(2,.c (.cl 95 1 fun _ => .xp 4 u)),(7,.c (.gs 0 0)),(18,.c (.int .i64 n)),(19,.c (.int .i64 i))] [gqp n z i]) (fun i=>n-i) (fun i=>i<=n) 0 rfl (Weak.gen [some 0] rfl ⟨⟨_,rfl,rfl,rfl,eM2,rfl,fun k j hk hj=>?_⟩,trivial⟩ ⟨rO rfl,⟨rfl,rfl⟩,⟨_,rfl,fun _ _=>⟨rfl,rfl⟩⟩,⟨_,rfl,rfl,rfl⟩,⟨_,rfl,by show((if((0:Nat):Int) > ((n:Nat):Int)then((0:Nat):Int)else((n:Nat):Int)).toNat:Int)=_;omega⟩,⟨_,rfl,rfl⟩,trivial⟩) (Nat.zero_le _) fun i hi=>?_
 ·exact qY (congrArg (fun l=>l.getD j .any) (gV z k).symm) (z5 k j)
 have call:=call i;conv=>whnf
 refine qg (fun(h:decide ((i:Int)<n)=true)=>?_) fun(h:decide ((i:Int)<n)=false)=>?_
 ·have h:=of_decide_eq_true h;have call:=call (by omega);conv=>whnf
  refine xG (show decide ((i:Int)<n)=true from decide_eq_true (by omega)) ?_;conv=>whnf
  refine⟨by omega,by omega,?_⟩;conv=>whnf
  refine⟨_,call,?_⟩;conv=>whnf
  refine⟨by omega,by show(i:Int)<(n:Int);omega,?_⟩;conv=>whnf
  refine⟨i64 (by omega) (by omega),?_⟩;conv=>whnf
  refine⟨i+1,by omega,Weak.gen [some 0] rfl ⟨⟨_,rfl,rfl,rfl,rfl,rfl,fun j k hj hk=>qY ?_ (z5 j k)⟩,trivial⟩ ⟨rO rfl,⟨rfl,rfl⟩,⟨_,rfl,fun _ _=>⟨rfl,rfl⟩⟩,⟨_,rfl,rfl,rfl⟩,⟨_,rfl,rfl⟩,⟨_,rfl,rfl⟩,trivial⟩,by omega⟩;exact WZ (sz:=4) (g:=qpF z i) (g':=qpF z (i+1)) (l:=nq (z i)) rfl hk (y6 z i j)
 ·have h:=of_decide_eq_false h;have g:=hT i (by omega);conv=>whnf
  refine .inr ⟨fun k j _ _=>z5 k j,?_⟩;conv=>whnf
  refine⟨_,g,?_⟩;conv=>whnf
  exact⟨rfl,Sub.refl _⟩
end Rf
end Go.Proofs.YtkmbnldginonbaaGreat
namespace Go.Proofs.YtkmbnldginonbaaGreat
open Go.RowKit
namespace Mx
set_option maxHeartbeats 4000000 in
theorem nz_ok {x:Rat} {L:Nat} (h:qlen x<=L) (hL:L+3<=LIM):FnOK Tryz.prog true 47 [.g (nq x)] (.c (.bool (decide (x≠0)))):=by
 have k:=qsign_ok (q:=ofR x) (zX h) hL;rw[qP]at k;refine qV (E:=E1) qQ Tryz.func47 rfl mixed (by kernel_rfl) (by kernel_rfl) ?_;conv=>whnf
 refine⟨_,k,?_⟩;conv=>whnf
 refine⟨rfl,Sub.bool ?_⟩;show(!decide (x.num.sign=0))=decide (x≠0);by_cases e:x=0
 ·simp[e]
 ·have:¬ x.num.sign=0:=fun h=>e ((jf _).1 h);simp[e]
def KB (n L:Nat):Nat:=16^be n (n-1)*L
theorem be_mono (n:Nat) {a b:Nat} (h:a<=b):be n a<=be n b:=by
 induction b with
 | zero=>rw[Nat.le_zero.1 h];exact Nat.le_refl _
 | succ b ih =>
  rcases Nat.lt_or_ge a (b+1)with h1 | h1
  ·refine Nat.le_trans (ih (by omega)) ?_;show be n b<=if b=0 then 0 else be n b+(n-1-b)
   split
   ·next e=>rw[e];exact Nat.le_refl 0
   ·omega
  ·rw[show a=b+1 by omega];exact Nat.le_refl _
theorem KB_le {n L e:Nat} (h:e<=be n (n-1)):16^e*L<=KB n L:=Nat.mul_le_mul_right L (Nat.pow_le_pow_right (by omega) h)
theorem KB_pos {n L:Nat} (h:1<=L):1<=KB n L:=Nat.mul_le_mul (Nat.pow_pos (by omega)) h
theorem hs_kb {n L:Nat} {A:Nat->Nat->Rat} (h:Bq n L A) (h1:1<=L) {m:Nat} (hm:m+1<=n):Bq n (KB n L) (hs n A m):=fun a b ha hb=>Nat.le_trans (hs_bq h h1 m hm a b ha hb) (KB_le (be_mono n (by omega)))
theorem el_kb {n L:Nat} {A:Nat->Nat->Rat} (h:Bq n L A) (h1:1<=L) {m:Nat} (h0:1<=m) (hm:m+1<n) (hp:pv n (hs n A m) m<n) {t:Nat} (ht:m+t<n):Bq n (KB n L) (el m (xch (sw (pv n (hs n A m) m) m) (hs n A m)) t):=fun a b ha hb=>by
 have h2:=hs_bq h h1 m (by omega);have h3:=xch_bq (s:=sw (pv n (hs n A m) m) m) h2 fun a ha=>sw_lt hp (by omega) ha;have h4:1<=16^be n m*L:=Nat.mul_le_mul (Nat.pow_pos (by omega)) h1;have h5:=el_bq (m:=m) h3 h4 t ht a b ha hb;refine Nat.le_trans h5 ?_;rw[<- Nat.mul_assoc,<- Nat.pow_add];refine KB_le ?_;have h6:be n (m+1)<=be n (n-1):=be_mono n (by omega);have h7:be n (m+1)=be n m+(n-1-m):=if_neg (by omega);omega
theorem el_piv {n:Nat} {A:Nat->Nat->Rat} {m:Nat} (h0:1<=m) (hm:m+1<n) (hp:pv n A m<n) (t:Nat):el m (xch (sw (pv n A m) m) A) t m (m-1)≠0:=by
 obtain⟨p1,p2,p3,p4⟩:=WG n A (show m<=n by omega);have e:∀(B:Nat->Nat->Rat) (i:Nat),i≠m->el1 m i B m (m-1)=B m (m-1):=fun B i hi=>by
  unfold el1;split
  ·rfl
  ·show ca _ i m (ra _ i m B) m (m-1)=_;unfold ca;rw[if_neg (by omega)];unfold ra;rw[if_neg fun e=>hi e.symm]
 have key:∀ t,el m (xch (sw (pv n A m) m) A) t m (m-1)=xch (sw (pv n A m) m) A m (m-1):=by
  intro t;induction t with
  | zero=>rfl
  | succ t ih =>
   show el1 m (m+1+t) (el m _ t) m (m-1)=_;rw[e _ _ (by omega),ih]
 rw[key t];show A (sw (pv n A m) m m) (sw (pv n A m) m (m-1))≠0;have e1:sw (pv n A m) m m=pv n A m:=by
  unfold sw;split
  ·omega
  ·rw[if_pos rfl]
 have e2:sw (pv n A m) m (m-1)=m-1:=by
  unfold sw;rw[if_neg (by omega),if_neg (by omega)]
 rw[e1,e2];exact p4 hp
theorem stp_none {n m:Nat} {A:Nat->Nat->Rat} (h:pv n A m=n) (a b:Nat):stp n m A a b=A a b:=by
 unfold stp;rw[if_pos h]
theorem stp_some {n m P:Nat} {A:Nat->Nat->Rat} (h:pv n A m=P) (hP:P<n) (a b:Nat):stp n m A a b=el m (xch (sw P m) A) (n-1-m) a b:=by
 unfold stp;rw[if_neg (by omega),h]
theorem xch_self {m:Nat} (A:Nat->Nat->Rat) (a b:Nat):xch (sw m m) A a b=A a b:=by
 have e:∀ x,sw m m x=x:=fun x=>by
  unfold sw;by_cases h:x=m
  ·rw[if_pos h,h]
  ·rw[if_neg h,if_neg h]
 show A (sw m m a) (sw m m b)=_;rw[e,e]
theorem el1_zero {m i:Nat} {A:Nat->Nat->Rat} (h:A i (m-1)=0) (a b:Nat):el1 m i A a b=A a b:=by
 unfold el1;rw[if_pos h]
theorem el1_some {m i:Nat} {A:Nat->Nat->Rat} {u:Rat} (h:¬ A i (m-1)=0) (hu:A i (m-1) / A m (m-1)=u) (a b:Nat):el1 m i A a b=ca u i m (ra u i m A) a b:=by
 unfold el1;rw[if_neg h,hu]
def md1 (u:Rat) (i m:Nat) (A:Nat->Nat->Rat) (j a x:Nat):Rat:=if a=i/\x<j then A a x-u*A m x else A a x
theorem md1_zero (u:Rat) (i m:Nat) (A:Nat->Nat->Rat) (a x:Nat):md1 u i m A 0 a x=A a x:=if_neg (by omega)
theorem md1_all (u:Rat) (i m:Nat) (A:Nat->Nat->Rat) {n x:Nat} (hx:x<n) (a:Nat):ra u i m A a x=md1 u i m A n a x:=by
 unfold ra md1;by_cases h:a=i
 ·rw[if_pos h,if_pos ⟨h,hx⟩]
 ·rw[if_neg h,if_neg fun e=>h e.1]
theorem Xj (u:Rat) (i m:Nat) (A:Nat->Nat->Rat) (j:Nat):md1 u i m A j i j=A i j:=if_neg (by omega)
theorem md1_m (u:Rat) {i m:Nat} (h:m≠i) (A:Nat->Nat->Rat) (j x:Nat):md1 u i m A j m x=A m x:=if_neg fun e=>h e.1
theorem md1_step (u:Rat) (i m:Nat) (A:Nat->Nat->Rat) (j x:Nat):(if x=j then A i j-u*A m j else md1 u i m A j i x)=md1 u i m A (j+1) i x:=by
 unfold md1;by_cases h:x=j
 ·rw[if_pos h,if_pos ⟨rfl,by omega⟩,h]
 ·rw[if_neg h];by_cases h2:x<j
  ·rw[if_pos ⟨rfl,h2⟩,if_pos ⟨rfl,by omega⟩]
  ·rw[if_neg fun e=>h2 e.2,if_neg fun e=>h (by omega)]
theorem md1_keep (u:Rat) {i m a:Nat} (h:a≠i) (A:Nat->Nat->Rat) (j x:Nat):md1 u i m A (j+1) a x=md1 u i m A j a x:=by
 unfold md1;rw[if_neg fun e=>h e.1,if_neg fun e=>h e.1]
def md2 (u:Rat) (i m:Nat) (B:Nat->Nat->Rat) (j a x:Nat):Rat:=if a<j then ca u i m B a x else B a x
theorem md2_zero (u:Rat) (i m:Nat) (B:Nat->Nat->Rat) (a x:Nat):md2 u i m B 0 a x=B a x:=if_neg (by omega)
theorem md2_all (u:Rat) (i m:Nat) (B:Nat->Nat->Rat) {n a:Nat} (ha:a<n) (x:Nat):ca u i m B a x=md2 u i m B n a x:=(if_pos ha).symm
theorem kP (u:Rat) (i m:Nat) (B:Nat->Nat->Rat) (j x:Nat):md2 u i m B j j x=B j x:=if_neg (by omega)
theorem md2_step (u:Rat) (i m:Nat) (B:Nat->Nat->Rat) (j x:Nat):(if x=m then B j m+u*B j i else md2 u i m B j j x)=md2 u i m B (j+1) j x:=by
 rw[kP];have e:md2 u i m B (j+1) j x=ca u i m B j x:=if_pos (by omega);rw[e];unfold ca;by_cases h:x=m
 ·rw[if_pos h,if_pos h,h]
 ·rw[if_neg h,if_neg h]
theorem md2_keep (u:Rat) {i m j a:Nat} (h:a≠j) (B:Nat->Nat->Rat) (x:Nat):md2 u i m B (j+1) a x=md2 u i m B j a x:=by
 unfold md2;by_cases h1:a<j
 ·rw[if_pos h1,if_pos (by omega)]
 ·rw[if_neg h1,if_neg (by omega)]
theorem hs_succ (n:Nat) (M:Nat->Nat->Rat) {m:Nat} (h:1<=m):hs n M (m+1)=stp n m (hs n M m):=if_neg (by omega)
theorem mk1 {q k n i m t b:Nat} {u:Rat} {bl:List Blk} {ks:List (Option Nat)} {A:Nat->Nat->Rat} (h:bl[k]? = some ⟨38,4,n,0,0,qlF fun x=>ofR (md1 u i m A t b x)⟩) (hb:b≠i:=by exact of_decide_eq_true rfl):yZ q bl ks (gq n (md1 u i m A (t+1) b)) (some k):=rk h fun x _=>md1_keep u hb A t x
theorem mu1 {q k n i m t:Nat} {u:Rat} {bl:List Blk} {ks:List (Option Nat)} {A:Nat->Nat->Rat} (h:bl[k]? = some ⟨38,4,n,0,0,zY (qlF fun x=>ofR (md1 u i m A t i x)) t 0 (nq (A i t-u*A m t))⟩):yZ q bl ks (gq n (md1 u i m A (t+1) i)) (some k):=ru h fun x=>md1_step u i m A t x
theorem mk2 {q k n i m t b:Nat} {u:Rat} {bl:List Blk} {ks:List (Option Nat)} {A:Nat->Nat->Rat} (h:bl[k]? = some ⟨38,4,n,0,0,qlF fun x=>ofR (md2 u i m A t b x)⟩) (hb:b≠t:=by exact of_decide_eq_true rfl):yZ q bl ks (gq n (md2 u i m A (t+1) b)) (some k):=rk h fun x _=>md2_keep u hb A x
theorem mu2 {q k n i m t:Nat} {u:Rat} {bl:List Blk} {ks:List (Option Nat)} {A:Nat->Nat->Rat} (h:bl[k]? = some ⟨38,4,n,0,0,zY (qlF fun x=>ofR (md2 u i m A t t x)) m 0 (nq (A t m+u*A t i))⟩):yZ q bl ks (gq n (md2 u i m A (t+1) t)) (some k):=ru h fun x=>md2_step u i m A t x
theorem ra_kb {n K:Nat} {A:Nat->Nat->Rat} {u:Rat} {i m:Nat} (h:Bq n K A) (hu:qlen u<=2*K) (hm:m<n) (h1:1<=K):Bq n (5*K) (ra u i m A):=fun a b ha hb=>Nat.le_trans (ra_bq (i:=i) h hu hm h1 a b ha hb) (by omega)
/-! Places that a call below does not see. -/
theorem Vg {m:Nat} {tl:List (Nat × V)} (h:Vp tl fun p=>p.2.lt m=true) (t:Nat):(asg tl t).lt m=true:=by
 rcases asg_mem tl t with e | e
 ·rw[e];rfl
 ·exact U4 h _ e
theorem jp {m:Nat} {σ:St} {d:Option Nat} {v:V} (h:∀ t,(σ.tm t).lt m=true) (hv:v.lt m=true) (t:Nat):((σ.put d v).tm t).lt m=true:=by
 cases d with
 | none=>exact h t
 | some d =>
  show(if t=d then v else σ.tm t).lt m=true;split
  ·exact hv
  ·exact h t
theorem U3 {xs:List Gx}:∀ B∈xs.map gb,B.st=0∨2<=B.st:=fun B hB=>by
 obtain⟨x,_,rfl⟩:=List.mem_map.1 hB;exact .inl rfl
end Mx
end Go.Proofs.YtkmbnldginonbaaGreat
set_option maxHeartbeats 4000000
namespace Go.Proofs.YtkmbnldginonbaaGreat
open Go.RowKit
namespace Rf
theorem qscale1_ok {q x:RawR} {L L':Nat} (hq:q.Fit L) (hx:x.Fit L') (hL:L+L'+3<=LIM):FnOK Tryz.prog true 95 [.g (rr q),.g Uj,.c (.xp 4 fun j=>qk (rr x) 0 (0+j))] (.g (nq (q.val*x.val))):=by
 have h:=qmul_ok hq hx hL;refine qV (E:=E1) qQ Tryz.func95 rfl mixed (by kernel_rfl) (by kernel_rfl) ?_;conv=>whnf
 refine⟨_,h,?_⟩;conv=>whnf
 exact⟨rfl,Sub.refl _⟩
theorem qpScale_ok {n:Nat} {q:Nat->RawR} {x:RawR} {z:Nat->Rat} {L L':Nat} (hn:n<=1048576) (hq:∀ a,a<n->(q a).Fit L) (hx:x.Fit L') (hL:L+L'+3<=LIM) (hz:∀ a,a<n->(q a).val*x.val=z a):FnOK Tryz.prog true 44 [.c (ql n q),.g (rr x)] (.c (nql (Q.tq z n) z)):=by
 have h0:=merge_scale (q:=q) (z:=z) (u:=fun j=>qk (rr x) 0 (0+j)) hn fun a ha=>by
  rw[<- hz a ha];exact qscale1_ok (hq a ha) hx hL
 have h:=fun(g:Nat->Cell) (hg:g 0 = .xp 4 fun j=>qk (rr x) 0 (0+j))=>cap_weak (g:=g) h0 hg;clear hq hz hx;refine qV (E:=E1) qQ Tryz.func44 rfl mixed (by kernel_rfl) (by kernel_rfl) ?_;conv=>whnf
 refine⟨fun i j hi hj=>box_clos (l:=rr x) (i:=i) (j:=j) rfl,?_⟩;conv=>whnf
 refine⟨_,h _ rfl,?_⟩;conv=>whnf
 exact⟨rfl,Sub.refl _⟩
end Rf
namespace Mx
open Rf
theorem row1_clos {x:Rat} {i j:Nat} (hi:i<1) (hj:j<4):(xJ 4 (nq x) i j).clos=true:=by
 obtain rfl:i=0:=by omega
 match j,hj with
 | 0,_=>rfl
 | 1,_=>rfl
 | 2,_=>rfl
 | 3,_=>rfl
theorem row1_eq {x:Rat} {v:Nat->Rat} {i j:Nat} (hi:i<1) (h:v 0=x):xJ 4 (nq x) i j=qlF (fun j=>ofR (v j)) i j:=by
 obtain rfl:i=0:=by omega
 unfold xJ;rw[Nat.zero_mul,Nat.zero_add,<- h]
theorem xs_app (v:Nat->Rat) (i j:Nat):zB 1 (xJ 4 (nq 0)) (qlF fun j=>ofR (v j)) i j=qlF (fun j=>ofR (if 1<=j then v (j-1)else 0)) i j:=by
 unfold zB;by_cases h:i<1
 ·rw[if_pos h];exact row1_eq h (if_neg (by omega))
 ·rw[if_neg h];show(rr (ofR (v (i-1)))).getD j .any=(rr (ofR (if 1<=i then v (i-1)else 0))).getD j .any;rw[if_pos (by omega)]
theorem q1_ok:FnOK Tryz.prog true 45 [.c (.int .i64 1)] (.g (nq 1)):=by
 have:=qof_ok (n:=1) (by omega) (by omega);exact this
theorem one_ok:FnOK Tryz.prog true 41 [] (.c (nql 1 fun _=>1)):=by
 have k:=q1_ok;refine qV (E:=E1) qQ Tryz.func41 rfl mixed (by kernel_rfl) (by kernel_rfl) ?_;conv=>whnf
 refine⟨_,k,?_⟩;conv=>whnf
 refine⟨fun i j hi hj=>row1_clos (x:=1) hi hj,?_⟩;conv=>whnf
 exact⟨rfl,zg rfl fun i j hi _=>row1_eq hi rfl⟩
def xs (v:Nat->Rat) (j:Nat):Rat:=if 1<=j then v (j-1)else 0
theorem shift_ok {n:Nat} {v:Nat->Rat} {L:Nat} (hn:n<=1000) (h:∀ i,i<n->qlen (v i)<=L) (h1:1<=L) (hL:L+3<=LIM):FnOK Tryz.prog true 43 [.c (nql n v)] (.c (nql (Q.tq (xs v) (n+1)) (xs v))):=by
 have k0:FnOK Tryz.prog true 45 [.c (.int .i64 0)] (.g (nq 0)):=qof0;have k:=Rf.arg_ok (qnorm_ok (n:=n+1) (q:=fun i=>ofR (xs v i)) (L:=L) (v:=xs v) (funext fun i=>qP _) (by omega) (fun i hi=>zX (by
  unfold xs;split
  ·exact h _ (by omega)
  ·exact Nat.le_trans Uy h1)) hL) (args':=[.c (.row 4 (1+n) (zB 1 (xJ 4 (nq 0)) (qlF fun j=>ofR (v j))))]) fun D w vs h=>by
   match vs,h with
   | [v1],⟨h1,_⟩=>exact⟨zg (by omega) (fun a b _ _=>xs_app v a b) D w v1 h1,trivial⟩
 refine qV (E:=E1) qQ Tryz.func43 rfl mixed (by kernel_rfl) (by kernel_rfl) ?_;conv=>whnf
 refine⟨_,k0,?_⟩;conv=>whnf
 refine⟨by show 1+n<=16777216;omega,fun a b _ hb=>one_ql (c:=fun i=>ofR (v i)) true a b hb,?_⟩;conv=>whnf
 refine .inr ⟨fun a b ha hb=>?_,?_⟩
 ·exact(congrArg Cell.clos (xs_app v a b)).trans (Uw _ a b)
 conv=>whnf
 refine⟨_,k,?_⟩;conv=>whnf
 exact⟨rfl,Sub.refl _⟩
theorem gj {m:Nat} {F:Nat->Rat} {w:Rat} {L L':Nat} (hm:m<=1000) (hF:∀ i,i<m->qlen (F i)<=L) (hw:qlen w<=L') (hL:L+L'+3<=LIM):FnOK Tryz.prog true 44 [.c (nql m F),.g (nq w)] (.c (nql (Q.tq (fun i=>F i*w) m) fun i=>F i*w)) :=
 qpScale_ok (x:=ofR w) (z:=fun i=>F i*w) (by omega) (fun i hi=>zX (hF i hi)) (zX hw) hL fun i _=>by rw[qP,qP]
theorem sub_step {m N:Nat} {F Z v:Nat->Rat} {L:Nat} (hm:m<=N) (hN:1<=N) (hN2:N<=1000) (hF:∀ i,i<N->qlen (F i)<=L) (hZ:∀ i,i<m->qlen (Z i)<=L) (h1:1<=L) (hL:L+L+4<=LIM) (h0:∀ i,m<=i->Z i=0) (hv:∀ i,i<N->F i-Z i=v i) (ht:v (N-1)≠0):FnOK Tryz.prog true 42 [.c (nql N F),.c (nql (Q.tq Z m) Z)] (.c (nql N v)):=by
 have hT:=Q.tq_le Z m;have h:=qpSub_ok (n:=N) (m:=Q.tq Z m) (q:=fun i=>ofR (F i)) (p:=fun i=>ofR (Z i)) (L:=L) (v:=v) (fun i hi=>by
  have e1:Q.qx N (fun i=>(ofR (F i)).val) i=F i:=by rw[Q.qx_lt (by omega),qP]
  have e2:Q.qx (Q.tq Z m) (fun i=>(ofR (Z i)).val) i=Z i:=by
   unfold Q.qx;split
   ·exact qP _
   ·next hlt =>
    rcases Nat.lt_or_ge i m with h3 | h3
    ·exact(Q.tq_behind (Nat.le_of_not_lt hlt) h3).symm
    ·exact(h0 i h3).symm
  rw[e1,e2];exact hv i (by omega)) (by omega) (by omega) (fun i hi=>zX (hF i hi)) (fun i hi=>zX (hZ i (by omega))) h1 hL
 rw[show max N (Q.tq Z m)=N by omega,Q.tq_self (v:=v) (n:=N) (fun k hk=>by rw[show k=N-1 by omega];exact ht)]at h;exact h
theorem shift_step {n:Nat} {v:Nat->Rat} {L:Nat} (hn:n<=999) (h:∀ i,i<n+1->qlen (v i)<=L) (h1:1<=L) (hL:L+3<=LIM) (ht:v n≠0):FnOK Tryz.prog true 43 [.c (nql (n+1) v)] (.c (nql (n+2) (xs v))):=by
 have k:=shift_ok (n:=n+1) (by omega) h h1 hL;rwa [Q.tq_self (v:=xs v) (n:=n+1+1) (fun k hk=>by
  obtain rfl:k=n+1:=by omega
  show(if 1<=n+1 then v (n+1-1)else 0)≠0;rw[if_pos (by omega),Nat.add_sub_cancel];exact ht)]at k
end Mx
end Go.Proofs.YtkmbnldginonbaaGreat
