/- Abstract states through code: what a function hands back. -/
import Derived.Test.YtibaocbpeaejkaaGreatUk3
import Derived.Deep.LoopGhost
import Derived.Test.YtibaocbpeaejkaaGreatProg
import Derived.KernelRfl
namespace Go.Proofs.YtibaocbpeaejkaaGreat
open Go.RowKit
def dstB (N:Nat) (o:Oper):Bool:=match o.dst with
 | some d=>decide (d<N)
 | none=>true
def codeB (N : Nat) : Code → Bool
 | .region _ ops draw=>ops.toList.all (dstB N)&&(!draw||drawB ops)
 | .seq a b=>codeB N a&&codeB N b
 | .cond _ a b=>codeB N a&&codeB N b
 | .block _ c=>codeB N c
 | .loop c=>codeB N c
 | .skip | .exit _ | .ret | .label _=>true
 | _=>false
def adraw (E:Env) (ops:Array Oper) (σ:St) (K:St->Prop):Prop :=
 ahead E ops σ.bl.length ops.toList 0 { σ with bl:=σ.bl++List.replicate (freshN ops.toList) phB } K
def Weak (m0:Nat) (σ σ':St):Prop:=∀ C a w,C.ρ0.length≤m0->Rel C σ a w->Rel C σ' a w
theorem Weak.refl {m0:Nat} (σ:St):Weak m0 σ σ:=fun _ _ _ _ h=>h
def seqR (K:St->Prop) (R:Exit->St->Prop) (e:Exit) (σ:St):Prop:=match e with
 | .normal=>K σ
 | e=>R e σ
def blockR (id:Nat) (R:Exit->St->Prop) (e:Exit) (σ:St):Prop:=match e with
 | .exit i=>if i=id then R .normal σ else R (.exit i) σ
 | e=>R e σ
def awp (E : Env) : Code → St → (Exit → St → Prop) → Prop
 | .skip,σ,R=>R .normal σ
 | .region _ ops draw,σ,R=>if draw then adraw E ops σ (R .normal)else aops E ops ops.toList σ (R .normal)
 | .seq a b,σ,R=>awp E a σ (seqR (fun σ'=>awp E b σ' R) R)
 | .cond c x y,σ,R=>match σ.ev c with
  | .c (.bool b)=>cs b (awp E x σ R) (awp E y σ R)
  | _=>False
 | .block id c,σ,R=>awp E c σ (blockR id R)
 | .exit id,σ,R=>R (.exit id) σ
 | .ret,σ,R=>R .ret σ
 | .label _,σ,R=>R .normal σ
 | .loop c,σ,R=>∃(I:Nat->St->Prop) (n0:Nat),(∃ σ0,Weak E.m0 σ σ0/\I n0 σ0)/\∀ n σ',I n σ'->∃ K,awp E c σ' (seqR K R)/\∀ σ2,K σ2->∃ n',n'<n/\∃ σ3,Weak E.m0 σ2 σ3/\I n' σ3
 | _,_,_=>False
theorem Rel.ext {C:Ctx} {σ:St} {a:Act} {w w':World} (h:Rel C σ a w) (hb:Below w.heap.size w w'):Rel C σ a w':=by
 obtain⟨ρ,hs,hN,hdf,hf⟩:=h
 exact⟨ρ,hs.ext hb,hN,hdf,frame_step (Ext.of_below hb) (fun _ _ x=>x) (LocsLe.refl _) hf⟩
theorem Rel.ph {C : Ctx} {σ : St} {a : Act} {w : World} (h : Rel C σ a w) : ∀ n, ∃ ρ, Sat C.D0 C.w0 C.r ρ (σ.bl ++ List.replicate n phB) w ∧ (∀ t, VRel (Dof C.D0 ρ (σ.bl ++ List.replicate n phB)) w ρ (σ.tm t) (a.tmps.getD t undef)) ∧ LocsLe C.ρ0 ρ ∧ ∀ j, j < n → ρ[σ.bl.length + j]? = some phL
 | 0=>by
  obtain⟨ρ,hs,hN,_,hf⟩:=h
  exact⟨ρ,by simpa using hs,by simpa using hf,hN.2,fun j hj=>by omega⟩
 | n+1=>by
  obtain⟨ρ,hs,hf,hle,hp⟩:=Rel.ph h n
  obtain⟨h1,h2⟩:=hs.ph
  have he:σ.bl++List.replicate (n+1) phB=(σ.bl++List.replicate n phB)++[phB]:=by
   rw[List.replicate_succ',List.append_assoc]
  rw[he]
  have hl:ρ.length=σ.bl.length+n:=by have:=hs.len;simpa using this
  refine⟨ρ++[phL],h1,fun t=>(hf t).step (Ext.refl _ _) (fun b _ hb=>(h2 b).1 hb) (LocsLe.append _ _),hle.trans (LocsLe.append _ _),fun j hj=>?_⟩
  rcases Nat.lt_or_ge j n with h3 | h3
  ·rw[List.getElem?_append_left (by omega)];exact hp j h3
  ·rw[List.getElem?_append_right (by omega),show σ.bl.length+j-ρ.length=0 by omega];rfl
theorem adraw_sound {E:Env} (hE:EnvOK E) {C:Ctx} (hC:C.r=E.r) {ops:Array Oper} {id:Nat} {Q:Exit->Act->World->Prop} {K:St->Prop} (hm:E.P.follows .mixedOrders=true) (hQ:∀ σ a w,K σ->Rel C σ a w->Q .normal a w) {σ:St} {a:Act} {w:World} (hd:ops.toList.all (dstB C.N)=true) (hb:drawB ops=true) (h:adraw E ops σ K) (hr:Rel C σ a w):(Code.region id ops true).wp E.P Q a w:=by
 have hdst:∀ o∈ops.toList,dstOK C.N o.dst:=by
  intro o ho d hd'
  have:=List.all_eq_true.1 hd o ho
  unfold dstB at this
  rw[hd']at this
  simpa using this
 refine wp_region_any hm ?_
 have hr':Rel C σ a { w with drawn:=w.drawn+1 }:=hr.ext ⟨rfl,rfl,rfl,Nat.le_refl _,fun _ _=>rfl⟩
 obtain⟨ρ,hs,hf,hle,hp⟩:=Rel.ph hr' (freshN ops.toList)
 obtain⟨_,_,hN,hdf,_⟩:=hr'
 obtain⟨sts,vs,ub,h0,hK,hc⟩:=ahead_chain hE _ _ _ h
 rw[← hC]at hc
 have hl0:∀ j,j<ops.size->(Array.replicate ops.size false).getD j false=false:=fun j hj=>by simp[Array.getD,hj]
 have hln:∀ j,(Array.replicate ops.size false).getD j false≠true:=fun j h=>by simp[Array.getD]at h
 have hph:∀ j,j<freshN ops.toList->(σ.bl++List.replicate (freshN ops.toList) phB)[σ.bl.length+j]? = some phB:=fun j hj=>by
  rw[List.getElem?_append_right (by omega),show σ.bl.length+j-σ.bl.length=j by omega,List.getElem?_replicate,if_pos hj]
 refine any_sound (drawB_ok hb) hc (m:=freshN ops.toList) (fun j hj=>by rw[h0];exact hph j hj) (fun i o ho hfo=>freshN_lt _ i o (by simpa using ho) hfo) hdst (fun a w hrel=>hQ _ a w (by simpa using hK) hrel) ops.size (Array.replicate ops.size false) ρ _ a _ (left_none _ (Nat.le_refl _)).symm (by simp) ⟨hs,⟨hN.1,hle⟩,hdf,by rw[h0],fun i o _ hl=>absurd hl (hln i),fun t _=>by rw[h0];exact hf t,fun j oj hl=>absurd hl (hln j),fun j hj _ _=>⟨phL,phB,hp j hj,rfl,hph j hj,rfl,rfl⟩,fun j f B hl=>absurd hl (hln j),fun M k hM hcond=>?_⟩
 have:(sts M).bl[k]? = (sts 0).bl[k]? := hc.still M 0 (Nat.zero_le _) hM fun j B _ hjM hu=>hln j ((hcond j B (by omega) hu).2 hjM)
 rw[this,h0]
theorem awp_sound {E : Env} (hE : EnvOK E) {C : Ctx} (hC : C.r = E.r) (hC0 : C.ρ0.length ≤ E.m0) (hm : E.P.follows .mixedOrders = true) : ∀ (c : Code) {R : Exit → St → Prop} {σ : St} {a : Act} {w : World}, codeB C.N c = true → awp E c σ R → Rel C σ a w → c.wp E.P (QR C R) a w
 | .skip,R,σ,a,w,_,h,hr=>wp_skip ⟨σ,hr,h⟩
 | .region id ops draw,R,σ,a,w,hc,h,hr=>by
  simp only[codeB,Bool.and_eq_true]at hc
  simp only[awp]at h
  cases draw with
  | true =>
   simp only[if_true]at h
   exact adraw_sound hE hC hm (fun σ a w hk hrel=>⟨σ,hrel,hk⟩) hc.1 (by simpa using hc.2) h hr
  | false =>
   simp only[Bool.false_eq_true,if_false]at h
   refine wp_region_list (aops_sound hE hC (fun σ a w hk hrel=>⟨σ,hrel,hk⟩) ops.toList σ a w (fun o ho d hd'=>?_) h hr)
   have:=List.all_eq_true.1 hc.1 o ho
   unfold dstB at this
   rw[hd']at this
   simpa using this
 | .seq x y,R,σ,a,w,hc,h,hr=>by
  simp only[codeB,Bool.and_eq_true]at hc
  simp only[awp]at h
  refine wp_seq (wp_mono (awp_sound hE hC hC0 hm x hc.1 h hr) ?_)
  rintro e a' w' ⟨σ',hrel,hk⟩
  cases e with
  | normal=>exact awp_sound hE hC hC0 hm y hc.2 hk hrel
  | _=>exact⟨σ',hrel,hk⟩
 | .cond c x y,R,σ,a,w,hc,h,hr=>by
  simp only[codeB,Bool.and_eq_true]at hc
  simp only[awp]at h
  split at h
  ·rename_i b hb
   have h:=cs_iff.1 h
   have he:a.eval c = .bool b:=by
    obtain⟨ρ,hs,hN,hdf,hf⟩:=hr
    have:=ev_rel hf c
    rw[hb]at this
    exact this
   refine wp_cond_split he (fun e=>awp_sound hE hC hC0 hm x hc.1 (h.1 e) hr) (fun e=>awp_sound hE hC hC0 hm y hc.2 (h.2 e) hr)
  ·exact h.elim
 | .block id c,R,σ,a,w,hc,h,hr=>by
  simp only[codeB]at hc
  simp only[awp]at h
  refine wp_block (wp_mono (awp_sound hE hC hC0 hm c hc h hr) ?_)
  rintro e a' w' ⟨σ',hrel,hk⟩
  cases e with
  | exit i =>
   simp only[blockR]at hk
   simp only[Exit.inBlock]
   split
   ·rename_i e;rw[if_pos e]at hk;exact⟨σ',hrel,hk⟩
   ·rename_i e;rw[if_neg e]at hk;exact⟨σ',hrel,hk⟩
  | _=>exact⟨σ',hrel,hk⟩
 | .exit id,R,σ,a,w,_,h,hr=>wp_exit ⟨σ,hr,h⟩
 | .ret,R,σ,a,w,_,h,hr=>wp_ret ⟨σ,hr,h⟩
 | .label l,R,σ,a,w,_,h,hr=>wp_label ⟨σ,hr,h⟩
 | .loop c,R,σ,a,w,hc,h,hr=>by
  simp only[codeB]at hc
  simp only[awp]at h
  obtain⟨I,n0,⟨σ0,hw,h0⟩,hround⟩:=h
  refine wp_loop_ghost (fun n a w=>∃ σ,Rel C σ a w/\I n σ) n0 ⟨σ0,hw _ _ _ hC0 hr,h0⟩ ?_
  rintro n a w ⟨σ',hrel,hI⟩
  obtain⟨K,hrd,hK⟩:=hround n σ' hI
  refine wp_mono (awp_sound hE hC hC0 hm c hc hrd hrel) ?_
  rintro e a' w' ⟨σ2,hrel2,hk⟩
  cases e with
  | normal =>
   obtain⟨n',hlt,σ3,hw3,hI3⟩:=hK σ2 hk
   exact⟨n',hlt,σ3,hw3 _ _ _ hC0 hrel2,hI3⟩
  | _=>exact⟨σ2,hrel2,hk⟩
 | .rangeFunc ..,_,_,_,_,_,h,_=>h.elim
 | .scope _,_,_,_,_,_,h,_=>h.elim
 | .goto _,_,_,_,_,_,h,_=>h.elim
 | .refuse _,_,_,_,_,_,h,_=>h.elim
theorem loop_inv {E:Env} {c:Code} {σ:St} {R:Exit->St->Prop} (I:Nat->St->Prop) (n0:Nat) (h0:∃ σ0,Weak E.m0 σ σ0/\I n0 σ0) (hr:∀ n σ',I n σ'->awp E c σ' (seqR (fun σ2=>∃ n',n'<n/\∃ σ3,Weak E.m0 σ2 σ3/\I n' σ3) R)):awp E (.loop c) σ R :=
 ⟨I,n0,h0,fun n σ' h=>⟨_,hr n σ' h,fun _ h=>h⟩⟩
def rn (E : Env) (c : Code) (R : Exit → St → Prop) : Nat → St → Prop
 | 0,_=>False
 | n+1,σ=>awp E c σ (seqR (rn E c R n) R)
theorem loop_unroll {E:Env} {c:Code} {σ:St} {R:Exit->St->Prop} (n:Nat) (h:rn E c R n σ):awp E (.loop c) σ R :=
 ⟨rn E c R,n,⟨σ,Weak.refl σ,h⟩,fun n _ h=>match n,h with
  | n+1,h=>⟨rn E c R n,h,fun σ2 h2=>⟨n,Nat.lt_succ_self n,σ2,Weak.refl σ2,h2⟩⟩⟩
def asg : List (Nat × V) → Nat → V
 | [],_ => .c .any
 | (k,v) :: l,t=>if t=k then v else asg l t
theorem asg_mem : ∀ (l : List (Nat × V)) (t : Nat), asg l t = .c .any ∨ (t, asg l t) ∈ l
 | [],_ => .inl rfl
 | (k,v) :: l,t=>by
  simp only[asg]
  split
  ·rename_i e;subst e;exact .inr (by simp)
  ·rcases asg_mem l t with h | h
   ·exact .inl h
   ·exact .inr (by simp[h])
def allP {α : Type} : List α → (α → Prop) → Prop
 | [],_=>True
 | x :: l,p=>p x/\allP l p
theorem allP_mem {α : Type} {p : α → Prop} : ∀ {l : List α}, allP l p → ∀ x ∈ l, p x
 | [],_,x,hx=>by simp at hx
 | y :: l,h,x,hx=>by
  rcases List.mem_cons.1 hx with e | e
  ·subst e;exact h.1
  ·exact allP_mem h.2 x e
def V.lt (m : Nat) : V → Bool
 | .c x=>x.lt m
 | .g l=>l.all (Cell.lt m)
 | .t2 a b=>a.lt m&&b.lt m
 | .t3 a b d=>a.lt m&&(b.lt m&&d.lt m)
 | .t4 a b d e=>a.lt m&&(b.lt m&&(d.lt m&&e.lt m))
 | .un=>true
theorem CRels.cut {D : Nat → Prop} {w : World} {ρ : List Loc} {m : Nat} : ∀ {l : List Cell} {vs : List Value}, CRels D w ρ l vs → l.all (Cell.lt m) = true → CRels D w (ρ.take m) l vs
 | [],[],_,_=>trivial
 | _ :: _,_ :: _,h,hc=>by
  simp only[List.all_cons,Bool.and_eq_true]at hc
  exact⟨CRel.take h.1 hc.1,CRels.cut h.2 hc.2⟩
 | [],_ :: _,h,_=>h.elim
 | _ :: _,[],h,_=>h.elim
theorem VRel.take {D : Nat → Prop} {w : World} {ρ : List Loc} {m : Nat} : ∀ {x : V} {v : Value}, VRel D w ρ x v → x.lt m = true → VRel D w (ρ.take m) x v
 | .c _,_,h,hc=>CRel.take h hc
 | .g _,_,h,hc=>by obtain⟨vs,h1,h2⟩:=h;exact⟨vs,h1,CRels.cut h2 hc⟩
 | .t2 _ _,_,h,hc=>by
  simp only[V.lt,Bool.and_eq_true]at hc
  obtain⟨x,y,h1,h2,h3⟩:=h;exact⟨x,y,h1,h2.take hc.1,h3.take hc.2⟩
 | .t3 _ _ _,_,h,hc=>by
  simp only[V.lt,Bool.and_eq_true]at hc
  obtain⟨x,y,z,h1,h2,h3,h4⟩:=h;exact⟨x,y,z,h1,h2.take hc.1,h3.take hc.2.1,h4.take hc.2.2⟩
 | .t4 _ _ _ _,_,h,hc=>by
  simp only[V.lt,Bool.and_eq_true]at hc
  obtain⟨x,y,z,u,h1,h2,h3,h4,h5⟩:=h;exact⟨x,y,z,u,h1,h2.take hc.1,h3.take hc.2.1,h4.take hc.2.2.1,h5.take hc.2.2.2⟩
 | .un,_,h,_=>h
theorem Weak.cut {m0:Nat} {σ:St} {tl:List (Nat × V)} {bl':List Blk} (hb:σ.bl.take bl'.length=bl') (hl:allP tl fun p=>σ.tm p.1=p.2) (hlt:(tl.all fun p=>p.2.lt bl'.length)=true) (hcl:allP bl' fun B=>B.st=0->∀ i j,i<B.n->j<B.sz->(B.f i j).lt bl'.length=true) (hm:m0.ble bl'.length=true):Weak m0 σ ⟨asg tl,bl'⟩:=by
 rintro C a w hm0 ⟨ρ,hs,hN,hdf,hf⟩
 have hm:=Nat.le_of_ble_eq_true hm
 obtain⟨h1,h2⟩:=hs.take bl'.length fun k B hk hB=>allP_mem hcl B (by
  have:bl'[k]? = some B:=by rw[← hb,List.getElem?_take_of_lt hk];exact hB
  exact List.mem_of_getElem? this)
 rw[hb]at h1 h2
 refine⟨_,h1,⟨hN.1,hN.2.take (Nat.le_trans hm0 hm)⟩,hdf,fun t=>?_⟩
 rcases asg_mem tl t with e | e
 ·show VRel _ _ _ (asg tl t) _
  rw[e];trivial
 ·have e1:=allP_mem hl _ e
  have e2:=List.all_eq_true.1 hlt _ e
  have:=hf t
  rw[e1]at this
  exact(this.take e2).step (Ext.refl _ _) (fun x _ hx=>h2 x hx) (LocsLe.refl _)
theorem Weak.trans {m0:Nat} {a b c:St} (h:Weak m0 a b) (k:Weak m0 b c):Weak m0 a c:=fun C x w h0 hr=>k C x w h0 (h C x w h0 hr)
def Blk.alike (B B':Blk):Prop:=B'={ B with f:=B'.f }/\∀ i j,i<B.n->j<B.sz->B.f i j=B'.f i j
def alikes : List Blk → List Blk → Prop
 | [],[]=>True
 | B :: l,B' :: l'=>B.alike B'/\alikes l l'
 | _,_=>False
theorem Blk.alike.refl (B:Blk):B.alike B:=⟨rfl,fun _ _ _ _=>rfl⟩
theorem alikes_get : ∀ {l l' : List Blk}, alikes l l' → l'.length = l.length ∧ ∀ (k : Nat) (B' : Blk), l'[k]? = some B' → ∃ B, l[k]? = some B ∧ B.alike B'
 | [],[],_=>⟨rfl,fun k B' h=>by simp at h⟩
 | B :: l,B' :: l',h=>by
  obtain⟨h1,h2⟩:=alikes_get h.2
  refine⟨by simp[h1],fun k B1 hB=>?_⟩
  cases k with
  | zero=>simp at hB;subst hB;exact⟨B,rfl,h.1⟩
  | succ k=>exact h2 k B1 (by simpa using hB)
 | [],_ :: _,h=>h.elim
 | _ :: _,[],h=>h.elim
theorem Weak.alike {m0:Nat} {tm:Nat->V} {bl bl':List Blk} (h:alikes bl bl'):Weak m0 ⟨tm,bl⟩ ⟨tm,bl'⟩:=by
 rintro C a w _ ⟨ρ,hs,hN,hdf,hf⟩
 obtain⟨hl,hg⟩:=alikes_get h
 have hD:∀ b,Dof C.D0 ρ bl' b->Dof C.D0 ρ bl b:=by
  rintro b (hx | ⟨k,l,B',e1,e2,e3,e4⟩)
  ·exact .inl hx
  ·obtain⟨B,q1,q2,_⟩:=hg k B' e2
   exact .inr ⟨k,l,B,e1,q1,by rw[q2]at e3;exact e3,e4⟩
 refine⟨ρ,⟨hs.below,hs.d0,by rw[hl];exact hs.len,fun k l B' e1 e2 hst=>?_,fun i j li lj Bi Bj b e1 e2 e3 e4 e5 e6 e7 e8=>?_,fun hr b o d hb=>hs.noU hr b o d (hD b hb)⟩,hN,hdf,fun t=>(hf t).step (Ext.refl _ _) (fun b _ hb=>hD b hb) (LocsLe.refl _)⟩
 ·obtain⟨B,q1,q2,q3⟩:=hg k B' e2
  have h1:B'.st=B.st:=by rw[q2]
  have h2:B'.u=B.u:=by rw[q2]
  have h3:B'.n=B.n:=by rw[q2]
  have h4:B'.sz=B.sz:=by rw[q2]
  have h5:B'.t=B.t:=by rw[q2]
  obtain⟨g0,g1⟩:=(hs.at_ k l B e1 q1).step (Ext.refl _ _) (fun b _ hb=>hD b hb) (LocsLe.refl _) (fun _ _=>rfl) (by omega)
  rw[h1,h2,h3,h4,h5]
  refine⟨g0,?_⟩
  rcases g1 with g1 | ⟨b,cap,cs,g2,g3,g4,g5,g6,g7,g8,g9⟩
  ·exact .inl g1
  ·refine .inr ⟨b,cap,cs,g2,g3,g4,g5,g6,g7,g8,fun i j hi hj=>?_⟩
   rw[← q3 i j hi hj]
   exact g9 i j hi hj
 ·obtain⟨B1,q1,q2,_⟩:=hg i Bi e3
  obtain⟨B2,q3,q4,_⟩:=hg j Bj e4
  exact hs.dist i j li lj B1 B2 b e1 e2 q1 q3 (by rw[q2]at e5;exact e5) (by rw[q4]at e6;exact e6) e7 e8
def resetC (k u : Nat) : Cell → Cell
 | .p i v sz a o=>if i=k then(if v=u then .p k 0 sz a o else .any)else .p i v sz a o
 | .gs i v=>if i=k then(if v=u then .gs k 0 else .any)else .gs i v
 | .sl i v sz o m=>if i=k then(if v=u then .sl k 0 sz o m else .any)else .sl i v sz o m
 | .cl F m f=>if(Cell.cl F m f).clos then .cl F m f else .any
 | c=>c
def resetV (k u : Nat) : V → V
 | .c x => .c (resetC k u x)
 | .g l => .g (l.map (resetC k u))
 | .t2 a b => .t2 (resetV k u a) (resetV k u b)
 | .t3 a b d => .t3 (resetV k u a) (resetV k u b) (resetV k u d)
 | .t4 a b d e => .t4 (resetV k u a) (resetV k u b) (resetV k u d) (resetV k u e)
 | .un => .un
def resetB (k u:Nat) (B:Blk):Blk:=match B.st with
 | 0=>{ B with f:=fun i j=>resetC k u (B.f i j) }
 | _=>B
theorem resetB_eq (k u:Nat) (B:Blk):resetB k u B={ B with f:=(resetB k u B).f }:=by unfold resetB;split <;> rfl
theorem reset_rel {D:Nat->Prop} {w:World} {ρ:List Loc} {k u:Nat} {l:Loc} (hk:ρ[k]? = some l) (hu:l.u=u) {c:Cell} {v:Value} (h:CRel D w ρ c v):CRel D w (ρ.set k { l with u:=0 }) (resetC k u c) v:=by
 have hlt:k<ρ.length:=(List.getElem?_eq_some_iff.1 hk).1
 cases c with
 | p i x sz a o =>
  simp only[resetC]
  split
  ·rename_i e;subst e
   split
   ·rename_i e;subst e
    obtain⟨l1,h1,h2,h3⟩:=h
    rw[hk]at h1;cases h1
    exact⟨_,List.getElem?_set_self hlt,Nat.zero_le _,fun _=>h3 hu⟩
   ·trivial
  ·rename_i e
   obtain⟨l1,h1,h2⟩:=h
   exact⟨l1,by rw[List.getElem?_set_ne (fun h=>e h.symm)];exact h1,h2⟩
 | gs i x =>
  simp only[resetC]
  split
  ·rename_i e;subst e
   split
   ·rename_i e;subst e
    obtain⟨l1,h1,h2,h3⟩:=h
    rw[hk]at h1;cases h1
    exact⟨_,List.getElem?_set_self hlt,Nat.zero_le _,fun _=>h3 hu⟩
   ·trivial
  ·rename_i e
   obtain⟨l1,h1,h2⟩:=h
   exact⟨l1,by rw[List.getElem?_set_ne (fun h=>e h.symm)];exact h1,h2⟩
 | sl i x sz o m =>
  simp only[resetC]
  split
  ·rename_i e;subst e
   split
   ·rename_i e;subst e
    obtain⟨l1,h1,h2,h3⟩:=h
    rw[hk]at h1;cases h1
    exact⟨_,List.getElem?_set_self hlt,Nat.zero_le _,fun _=>h3 hu⟩
   ·trivial
  ·rename_i e
   obtain⟨l1,h1,h2⟩:=h
   exact⟨l1,by rw[List.getElem?_set_ne (fun h=>e h.symm)];exact h1,h2⟩
 | cl F m f =>
  simp only[resetC]
  split
  ·rename_i hc;exact CRel.clos h hc
  ·trivial
 | _=>exact h
theorem resets_rel {D : Nat → Prop} {w : World} {ρ : List Loc} {k u : Nat} {l : Loc} (hk : ρ[k]? = some l) (hu : l.u = u) : ∀ {cs : List Cell} {vs : List Value}, CRels D w ρ cs vs → CRels D w (ρ.set k { l with u := 0 }) (cs.map (resetC k u)) vs
 | [],[],_=>trivial
 | _ :: _,_ :: _,h=>⟨reset_rel hk hu h.1,resets_rel hk hu h.2⟩
 | [],_ :: _,h=>h.elim
 | _ :: _,[],h=>h.elim
theorem resetV_rel {D : Nat → Prop} {w : World} {ρ : List Loc} {k u : Nat} {l : Loc} (hk : ρ[k]? = some l) (hu : l.u = u) : ∀ {x : V} {v : Value}, VRel D w ρ x v → VRel D w (ρ.set k { l with u := 0 }) (resetV k u x) v
 | .c _,_,h=>reset_rel hk hu h
 | .g _,_,h=>by obtain⟨vs,h1,h2⟩:=h;exact⟨vs,h1,resets_rel hk hu h2⟩
 | .t2 _ _,_,h=>by obtain⟨x,y,h1,h2,h3⟩:=h;exact⟨x,y,h1,resetV_rel hk hu h2,resetV_rel hk hu h3⟩
 | .t3 _ _ _,_,h=>by obtain⟨x,y,z,h1,h2,h3,h4⟩:=h;exact⟨x,y,z,h1,resetV_rel hk hu h2,resetV_rel hk hu h3,resetV_rel hk hu h4⟩
 | .t4 _ _ _ _,_,h=>by obtain⟨x,y,z,u',h1,h2,h3,h4,h5⟩:=h;exact⟨x,y,z,u',h1,resetV_rel hk hu h2,resetV_rel hk hu h3,resetV_rel hk hu h4,resetV_rel hk hu h5⟩
 | .un,_,h=>h
theorem Weak.reset {m0:Nat} {tm:Nat->V} {bl:List Blk} (k:Nat) {B:Blk} (hB:bl[k]? = some B) (hst:B.st≤1) (hm:m0.ble k=true):Weak m0 ⟨tm,bl⟩ ⟨fun t=>resetV k B.u (tm t),(bl.map (resetB k B.u)).set k { resetB k B.u B with u:=0 }⟩:=by
 rintro C a w h0 ⟨ρ,hs,hN,hdf,hf⟩
 have hm:=Nat.le_of_ble_eq_true hm
 have hkb:k<bl.length:=(List.getElem?_eq_some_iff.1 hB).1
 obtain⟨l,hk⟩:∃ l,ρ[k]? = some l:=⟨_,List.getElem?_eq_getElem (by rw[hs.len];exact hkb)⟩
 have hlt:k<ρ.length:=(List.getElem?_eq_some_iff.1 hk).1
 have hu:=(hs.at_ k l B hk hB hst).1
 have get:∀(j:Nat) (lj:Loc) (Bj:Blk),(ρ.set k { l with u:=0 })[j]? = some lj->((bl.map (resetB k B.u)).set k { resetB k B.u B with u:=0 })[j]? = some Bj->∃(l1:Loc) (B1:Blk),ρ[j]? = some l1/\bl[j]? = some B1/\lj.b=l1.b/\lj.v=l1.v/\(l1.u=B1.u->lj.u=Bj.u)/\Bj={ B1 with u:=Bj.u,f:=(resetB k B.u B1).f }:=by
  intro j lj Bj e1 e2
  by_cases e:j=k
  ·subst e
   rw[List.getElem?_set_self hlt]at e1
   rw[List.getElem?_set_self (by simpa using hkb)]at e2
   cases e1;cases e2
   refine⟨l,B,hk,hB,rfl,rfl,fun _=>rfl,?_⟩
   rw[resetB_eq]
  ·rw[List.getElem?_set_ne (fun h=>e h.symm)]at e1 e2
   rw[List.getElem?_map]at e2
   cases hb:bl[j]? with
   | none=>rw[hb]at e2;cases e2
   | some B1 =>
    rw[hb]at e2;cases e2
    refine⟨lj,B1,e1,rfl,rfl,rfl,fun h=>by rw[resetB_eq];exact h,?_⟩
    rw[resetB_eq]
 have hD:∀ b,Dof C.D0 (ρ.set k { l with u:=0 }) ((bl.map (resetB k B.u)).set k { resetB k B.u B with u:=0 }) b->Dof C.D0 ρ bl b:=by
  rintro b (hx | ⟨j,lj,Bj,e1,e2,e3,e4⟩)
  ·exact .inl hx
  ·obtain⟨l1,B1,q1,q2,q3,q4,q5,q6⟩:=get j lj Bj e1 e2
   exact .inr ⟨j,l1,B1,q1,q2,by rw[q6]at e3;exact e3,by rw[← q3];exact e4⟩
 refine⟨ρ.set k { l with u:=0 },⟨hs.below,hs.d0,by simp[hs.len],fun j lj Bj e1 e2 hst'=>?_,fun i j li lj Bi Bj b e1 e2 e3 e4 e5 e6 e7 e8=>?_,fun hr b o d hb=>hs.noU hr b o d (hD b hb)⟩,⟨hN.1,fun j lj hj=>?_⟩,hdf,fun t=>(resetV_rel hk hu (hf t)).step (Ext.refl _ _) (fun b _ hb=>hD b hb) (LocsLe.refl _)⟩
 ·obtain⟨l1,B1,q1,q2,q3,q4,q5,q6⟩:=get j lj Bj e1 e2
  have h1:Bj.st=B1.st:=by rw[q6]
  have h3:Bj.n=B1.n:=by rw[q6]
  have h4:Bj.sz=B1.sz:=by rw[q6]
  have h5:Bj.t=B1.t:=by rw[q6]
  have h6:Bj.f=(resetB k B.u B1).f:=by rw[q6]
  obtain⟨g0,g1⟩:=hs.at_ j l1 B1 q1 q2 (by omega)
  refine⟨q5 g0,?_⟩
  rw[h1,h3,h4,h5,h6,q3,q4]
  rcases g1 with g1 | ⟨b,cap,cs,g2,g3,g4,g5,g6,g7,g8,g9⟩
  ·exact .inl g1
  ·refine .inr ⟨b,cap,cs,g2,g3,g4,g5,g6,g7,g8,fun x y hx hy=>?_⟩
   obtain⟨v,hv,hvr⟩:=g9 x y hx hy
   refine⟨v,hv,?_⟩
   have fin:CRel (Dof C.D0 ρ bl) w (if B1.st=0 then ρ.set k { l with u:=0 } else []) ((resetB k B.u B1).f x y) v:=by
    by_cases hz:B1.st=0
    ·rw[if_pos hz]at hvr ⊢
     have:(resetB k B.u B1).f x y=resetC k B.u (B1.f x y):=by
      unfold resetB
      split
      ·rfl
      ·rename_i e;exact absurd hz e
     rw[this];exact reset_rel hk hu hvr
    ·rw[if_neg hz]at hvr ⊢
     have:(resetB k B.u B1).f=B1.f:=by
      unfold resetB
      split
      ·rename_i e;exact absurd e hz
      ·rfl
     rw[this];exact hvr
   exact fin.step (Ext.refl _ _) (fun b _ hb=>hD b hb) (LocsLe.refl _)
 ·obtain⟨l1,B1,q1,q2,q3,_,_,q6⟩:=get i li Bi e1 e3
  obtain⟨l2,B2,q7,q8,q9,_,_,q12⟩:=get j lj Bj e2 e4
  exact hs.dist i j l1 l2 B1 B2 b q1 q7 q2 q8 (by rw[q6]at e5;exact e5) (by rw[q12]at e6;exact e6) (by rw[← q3];exact e7) (by rw[← q9];exact e8)
 ·obtain⟨l1,q1,q2⟩:=hN.2 j lj hj
  have hjl:=(List.getElem?_eq_some_iff.1 hj).1
  exact⟨l1,by rw[List.getElem?_set_ne (by omega)];exact q1,q2⟩
theorem Weak.freeze {m0:Nat} {tm:Nat->V} {bl:List Blk} (k:Nat) {B:Blk} (hB:bl[k]? = some B) (h0:B.st=0) (hcl:∀ i j,i<B.n->j<B.sz->(B.f i j).clos=true):Weak m0 ⟨tm,bl⟩ ⟨tm,bl.set k { B with st:=1 }⟩:=by
 rintro C a w _ ⟨ρ,hs,hN,hdf,hf⟩
 obtain⟨s1,s2⟩:=Sat.freeze hs hB h0 hcl
 exact⟨ρ,s1,hN,hdf,fun t=>(hf t).step (Ext.refl _ _) (fun b _ hb=>s2 b hb) (LocsLe.refl _)⟩
def Blk.closed (bl:List Blk) (B B':Blk):Prop:=B'={ B with f:=B'.f }/\(B.st≠0->B'.f=B.f)/\∀ i j,i<B.n->j<B.sz->B'.f i j=B.f i j∨B'.f i j=St.closeC bl (B.f i j)
def closeds (b0 : List Blk) : List Blk → List Blk → Prop
 | [],[]=>True
 | B :: l,B' :: l'=>B.closed b0 B'/\closeds b0 l l'
 | _,_=>False
theorem Blk.closed.refl (bl:List Blk) (B:Blk):B.closed bl B:=⟨rfl,fun _=>rfl,fun _ _ _ _ => .inl rfl⟩
theorem closeds_get {b0 : List Blk} : ∀ {l l' : List Blk}, closeds b0 l l' → l'.length = l.length ∧ ∀ (k : Nat) (B' : Blk), l'[k]? = some B' → ∃ B, l[k]? = some B ∧ B.closed b0 B'
 | [],[],_=>⟨rfl,fun k B' h=>by simp at h⟩
 | B :: l,B' :: l',h=>by
  obtain⟨h1,h2⟩:=closeds_get h.2
  refine⟨by simp[h1],fun k B1 hB=>?_⟩
  cases k with
  | zero=>simp at hB;subst hB;exact⟨B,rfl,h.1⟩
  | succ k=>exact h2 k B1 (by simpa using hB)
 | [],_ :: _,h=>h.elim
 | _ :: _,[],h=>h.elim
theorem Weak.close {m0:Nat} {tm tm':Nat->V} {bl bl':List Blk} (h:closeds bl bl bl') (ht:∀ t,tm' t=tm t∨tm' t=St.close bl (tm t)):Weak m0 ⟨tm,bl⟩ ⟨tm',bl'⟩:=by
 rintro C a w _ ⟨ρ,hs,hN,hdf,hf⟩
 obtain⟨hl,hg⟩:=closeds_get h
 have hD:∀ b,Dof C.D0 ρ bl' b->Dof C.D0 ρ bl b:=by
  rintro b (hx | ⟨k,l,B',e1,e2,e3,e4⟩)
  ·exact .inl hx
  ·obtain⟨B,q1,q2,_⟩:=hg k B' e2
   exact .inr ⟨k,l,B,e1,q1,by rw[q2]at e3;exact e3,e4⟩
 refine⟨ρ,⟨hs.below,hs.d0,by rw[hl];exact hs.len,fun k l B' e1 e2 hst=>?_,fun i j li lj Bi Bj b e1 e2 e3 e4 e5 e6 e7 e8=>?_,fun hr b o d hb=>hs.noU hr b o d (hD b hb)⟩,hN,hdf,fun t=>?_⟩
 ·obtain⟨B,q1,q2,q3,q4⟩:=hg k B' e2
  have h1:B'.st=B.st:=by rw[q2]
  have h2:B'.u=B.u:=by rw[q2]
  have h3:B'.n=B.n:=by rw[q2]
  have h4:B'.sz=B.sz:=by rw[q2]
  have h5:B'.t=B.t:=by rw[q2]
  obtain⟨g0,g1⟩:=hs.at_ k l B e1 q1 (by omega)
  rw[h1,h2,h3,h4,h5]
  refine⟨g0,?_⟩
  rcases g1 with g1 | ⟨b,cap,cs,g2,g3,g4,g5,g6,g7,g8,g9⟩
  ·exact .inl g1
  ·refine .inr ⟨b,cap,cs,g2,g3,g4,g5,g6,g7,g8,fun i j hi hj=>?_⟩
   obtain⟨u,hu,hur⟩:=g9 i j hi hj
   refine⟨u,hu,?_⟩
   have fin:CRel (Dof C.D0 ρ bl) w (if B.st=0 then ρ else []) (B'.f i j) u:=by
    by_cases hz:B.st=0
    ·rw[if_pos hz]at hur ⊢
     rcases q4 i j hi hj with e | e
     ·rw[e];exact hur
     ·rw[e];exact closeC_rel hs hur
    ·rw[if_neg hz]at hur ⊢
     rw[q3 hz];exact hur
   exact fin.step (Ext.refl _ _) (fun b _ hb=>hD b hb) (LocsLe.refl _)
 ·obtain⟨B1,q1,q2,_⟩:=hg i Bi e3
  obtain⟨B2,q3,q4,_⟩:=hg j Bj e4
  exact hs.dist i j li lj B1 B2 b e1 e2 q1 q3 (by rw[q2]at e5;exact e5) (by rw[q4]at e6;exact e6) e7 e8
 ·have:VRel (Dof C.D0 ρ bl) w ρ (tm' t) (a.tmps.getD t undef):=by
   rcases ht t with e | e
   ·rw[e];exact hf t
   ·rw[e];exact close_rel hs (hf t)
  exact this.step (Ext.refl _ _) (fun b _ hb=>hD b hb) (LocsLe.refl _)
end Go.Proofs.YtibaocbpeaejkaaGreat
/- A function's contract, off its code through abstract states. -/
namespace Go.Proofs.YtibaocbpeaejkaaGreat
open Go.RowKit
def resOf (E : Env) (σ : St) : ResultVar → Option V
 | .tmp t=>some (σ.tm t)
 | .cell a T=>match E.ty T with
  | some ti=>match σ.tm a with
   | .c (.p k u sz i o)=>match σ.bl[k]? with
    | some B=>if(ti.agg||ti.size == 1)&&(B.u == u&&(B.sz == sz&&(B.st.ble 1&&(o+ti.size).ble sz)))then some (ofCells ti.agg ((List.range ti.size).map fun j=>B.f i (o+j)))else none
    | none=>none
   | _=>none
  | none=>none
def retV (E : Env) (σ : St) : List ResultVar → Option V
 | []=>some (.c .any)
 | [a]=>resOf E σ a
 | [a,b]=>match resOf E σ a,resOf E σ b with
  | some x,some y=>some (.t2 x y)
  | _,_=>none
 | [a,b,c]=>match resOf E σ a,resOf E σ b,resOf E σ c with
  | some x,some y,some z=>some (.t3 x y z)
  | _,_,_=>none
 | [a,b,c,d]=>match resOf E σ a,resOf E σ b,resOf E σ c,resOf E σ d with
  | some x,some y,some z,some u=>some (.t4 x y z u)
  | _,_,_,_=>none
 | _=>none
def closeT (bl : List Blk) : V → V
 | .t2 a b => .t2 (closeT bl a) (closeT bl b)
 | .t3 a b d => .t3 (closeT bl a) (closeT bl b) (closeT bl d)
 | .t4 a b d e => .t4 (closeT bl a) (closeT bl b) (closeT bl d) (closeT bl e)
 | x=>St.close bl x
def closT : V → Bool
 | .t2 a b=>closT a&&closT b
 | .t3 a b d=>closT a&&(closT b&&closT d)
 | .t4 a b d e=>closT a&&(closT b&&(closT d&&closT e))
 | x=>x.clos
def Sub (x y:V):Prop:=∀ D w v,VRel D w [] x v->VRel D w [] y v
theorem Sub.refl (x:V):Sub x x:=fun _ _ _ h=>h
theorem closeT_rel {D0 : Nat → Prop} {w0 : Base} {w : World} {r : Bool} {ρ : List Loc} {bl : List Blk} (h : Sat D0 w0 r ρ bl w) : ∀ {x : V} {v : Value}, VRel (Dof D0 ρ bl) w ρ x v → VRel (Dof D0 ρ bl) w ρ (closeT bl x) v
 | .c _,_,hx=>close_rel h hx
 | .g _,_,hx=>close_rel h hx
 | .t2 _ _,_,hx=>by obtain⟨x,y,h1,h2,h3⟩:=hx;exact⟨x,y,h1,closeT_rel h h2,closeT_rel h h3⟩
 | .t3 _ _ _,_,hx=>by obtain⟨x,y,z,h1,h2,h3,h4⟩:=hx;exact⟨x,y,z,h1,closeT_rel h h2,closeT_rel h h3,closeT_rel h h4⟩
 | .t4 _ _ _ _,_,hx=>by obtain⟨x,y,z,u,h1,h2,h3,h4,h5⟩:=hx;exact⟨x,y,z,u,h1,closeT_rel h h2,closeT_rel h h3,closeT_rel h h4,closeT_rel h h5⟩
 | .un,_,hx=>hx
theorem closT_rel {D : Nat → Prop} {w : World} {ρ ρ' : List Loc} : ∀ {x : V} {v : Value}, VRel D w ρ x v → closT x = true → VRel D w ρ' x v
 | .c _,_,hx,hc=>VRel.clos hx hc
 | .g _,_,hx,hc=>VRel.clos hx hc
 | .t2 _ _,_,hx,hc=>by
  simp only[closT,Bool.and_eq_true]at hc
  obtain⟨x,y,h1,h2,h3⟩:=hx;exact⟨x,y,h1,closT_rel h2 hc.1,closT_rel h3 hc.2⟩
 | .t3 _ _ _,_,hx,hc=>by
  simp only[closT,Bool.and_eq_true]at hc
  obtain⟨x,y,z,h1,h2,h3,h4⟩:=hx;exact⟨x,y,z,h1,closT_rel h2 hc.1,closT_rel h3 hc.2.1,closT_rel h4 hc.2.2⟩
 | .t4 _ _ _ _,_,hx,hc=>by
  simp only[closT,Bool.and_eq_true]at hc
  obtain⟨x,y,z,u,h1,h2,h3,h4,h5⟩:=hx;exact⟨x,y,z,u,h1,closT_rel h2 hc.1,closT_rel h3 hc.2.1,closT_rel h4 hc.2.2.1,closT_rel h5 hc.2.2.2⟩
 | .un,_,hx,_=>hx
def retOK (E:Env) (rs:List ResultVar) (X:V) (e:Exit) (σ:St):Prop :=
 match e with
 | .normal | .ret=>match retV E σ rs with
  | some v=>frzA (partsV v) σ fun σ'=>closT (closeT σ'.bl v)=true/\Sub (closeT σ'.bl v) X
  | none=>False
 | _=>False
theorem frz1_tm {σ:St} {tm:Nat->V} {x:V} {K K':St->Prop} (hK:∀ bl,K ⟨σ.tm,bl⟩->K' ⟨tm,bl⟩) (h:frz1 σ x K):frz1 ⟨tm,σ.bl⟩ x K':=by
 have key:∀ k,(match σ.bl[k]? with
  | some B=>(B.st=0->(∀ i j,i<B.n->j<B.sz->(B.f i j).clos=true)/\K { σ with bl:=σ.bl.set k { B with st:=1 } })/\(B.st≠0->K σ)
  | none=>K σ)->(match σ.bl[k]? with
  | some B=>(B.st=0->(∀ i j,i<B.n->j<B.sz->(B.f i j).clos=true)/\K' { tm:=tm,bl:=σ.bl.set k { B with st:=1 } })/\(B.st≠0->K' ⟨tm,σ.bl⟩)
  | none=>K' ⟨tm,σ.bl⟩):=by
  intro k h
  split at h
  ·exact⟨fun hz=>⟨(h.1 hz).1,hK _ (h.1 hz).2⟩,fun hz=>hK _ (h.2 hz)⟩
  ·exact hK _ h
 unfold Go.Proofs.YtibaocbpeaejkaaGreat.frz1 at h ⊢
 split at h
 ·exact Eq.mpr (frz1_eq ⟨tm,σ.bl⟩ _ K') (key _ (Eq.mp (frz1_eq σ _ K) h))
 ·exact Eq.mpr (frz1_eq ⟨tm,σ.bl⟩ _ K') (key _ (Eq.mp (frz1_eq σ _ K) h))
 ·exact Eq.mpr (frz1_eq ⟨tm,σ.bl⟩ _ K') (key _ (Eq.mp (frz1_eq σ _ K) h))
 ·exact hK _ h
theorem frzA_tm {tm : Nat → V} : ∀ (l : List V) {σ : St} {K K' : St → Prop}, (∀ bl, K ⟨σ.tm, bl⟩ → K' ⟨tm, bl⟩) → frzA l σ K → frzA l ⟨tm, σ.bl⟩ K'
 | [],_,_,_,hK,h=>hK _ h
 | _ :: l,σ,_,_,hK,h=>frz1_tm (fun bl h'=>frzA_tm l (σ:=⟨σ.tm,bl⟩) hK h') h
def resRun (a : Act) : ResultVar → Sem Value
 | .tmp t=>pure (a.tmps.getD t undef)
 | .cell b t=>do loadVar t (← asAddr (a.tmps.getD b undef))
theorem results_eq (fn:Func) (a:Act):results fn a.tmps=(do let vs ← fn.results.mapM (resRun a);pure (if h:vs.size=1 then vs[0]else .tuple vs)):=rfl
theorem res_run {E : Env} (hE : EnvOK E) {D0 : Nat → Prop} {w0 : Base} {w : World} {r : Bool} {ρ : List Loc} {σ : St} {a : Act} (hs : Sat D0 w0 r ρ σ.bl w) (hf : ∀ t, VRel (Dof D0 ρ σ.bl) w ρ (σ.tm t) (a.tmps.getD t undef)) {rv : ResultVar} {v : V} (h : resOf E σ rv = some v) :
  ∃ x,(resRun a rv).run E.P w = .ok x w/\VRel (Dof D0 ρ σ.bl) w ρ v x:=by
 cases rv with
 | tmp t=>simp only[resOf]at h;cases h;exact⟨_,rfl,hf t⟩
 | cell b T =>
  simp only[resOf]at h
  split at h
  ·rename_i ti ht
   split at h
   ·rename_i k u sz i o hv
    split at h
    ·rename_i B hB
     split at h
     ·rename_i hc
      simp only[Bool.and_eq_true,Bool.or_eq_true,beq_iff_eq,Nat.ble_eq]at hc
      cases h
      have ht:=hE.ty _ _ ht
      obtain⟨h1,h2,h3,h4,h6⟩:=hc
      have e1:=hf b
      rw[hv]at e1
      obtain⟨x,hx,hxr⟩:=load_p hs ht h1 hB h2 h3 h4 h6 e1
      obtain⟨l,hl,hu,hp⟩:=e1
      obtain⟨_,b',e2,e3⟩:=hp (by have:=loc_u hs hl hB (by omega);omega)
      refine⟨x,?_,hxr⟩
      rw[e3]at hx
      show(do loadVar T (← asAddr (a.tmps.getD b undef)):Sem Value).run E.P w = .ok x w
      rw[e3]
      simpa [Instr.loadAt,Instr.sureAddr,asAddr] using hx
     ·cases h
    ·cases h
   ·cases h
  ·cases h
theorem ret_run {E : Env} (hE : EnvOK E) {fn : Func} {D0 : Nat → Prop} {w0 : Base} {w : World} {r : Bool} {ρ : List Loc} {σ : St} {a : Act} (hs : Sat D0 w0 r ρ σ.bl w) (hf : ∀ t, VRel (Dof D0 ρ σ.bl) w ρ (σ.tm t) (a.tmps.getD t undef)) {v : V} (h : retV E σ fn.results.toList = some v) :
  ∃ x,(results fn a.tmps).run E.P w = .ok x w/\VRel (Dof D0 ρ σ.bl) w ρ v x:=by
 have key:∀ rs:List ResultVar,fn.results.toList=rs->∃ x,(results fn a.tmps).run E.P w = .ok x w/\VRel (Dof D0 ρ σ.bl) w ρ v x:=by
  intro rs hrs
  rw[hrs]at h
  have hr:fn.results=rs.toArray:=by rw[← hrs]
  have hm:results fn a.tmps=(do let vs ← Functor.map List.toArray (rs.mapM (resRun a));pure (if h:vs.size=1 then vs[0]else .tuple vs)):=by
   rw[results_eq,hr,Array.mapM_eq_mapM_toList]
  match rs,h,hm with
  | [],h,hm=>simp only[retV]at h;cases h;exact⟨.tuple #[],by rw[hm];simp,trivial⟩
  | [p],h,hm =>
   simp only[retV]at h
   obtain⟨x,h1,h2⟩:=res_run hE hs hf h
   exact⟨x,by rw[hm];simp[List.mapM_cons,h1],h2⟩
  | [p,q],h,hm =>
   simp only[retV]at h
   split at h
   ·rename_i v1 v2 hv1 hv2
    cases h
    obtain⟨x,h1,h2⟩:=res_run hE hs hf hv1
    obtain⟨y,h3,h4⟩:=res_run hE hs hf hv2
    exact⟨.tuple #[x,y],by rw[hm];simp[List.mapM_cons,h1,h3,Result.andThen],x,y,rfl,h2,h4⟩
   ·cases h
  | [p,q,s],h,hm =>
   simp only[retV]at h
   split at h
   ·rename_i v1 v2 v3 hv1 hv2 hv3
    cases h
    obtain⟨x,h1,h2⟩:=res_run hE hs hf hv1
    obtain⟨y,h3,h4⟩:=res_run hE hs hf hv2
    obtain⟨z,h5,h6⟩:=res_run hE hs hf hv3
    exact⟨.tuple #[x,y,z],by rw[hm];simp[List.mapM_cons,h1,h3,h5,Result.andThen],x,y,z,rfl,h2,h4,h6⟩
   ·cases h
  | [p,q,s,t],h,hm =>
   simp only[retV]at h
   split at h
   ·rename_i v1 v2 v3 v4 hv1 hv2 hv3 hv4
    cases h
    obtain⟨x,h1,h2⟩:=res_run hE hs hf hv1
    obtain⟨y,h3,h4⟩:=res_run hE hs hf hv2
    obtain⟨z,h5,h6⟩:=res_run hE hs hf hv3
    obtain⟨u,h7,h8⟩:=res_run hE hs hf hv4
    exact⟨.tuple #[x,y,z,u],by rw[hm];simp[List.mapM_cons,h1,h3,h5,h7,Result.andThen],x,y,z,u,rfl,h2,h4,h6,h8⟩
   ·cases h
  | _ :: _ :: _ :: _ :: _ :: _,h,_=>simp[retV]at h
 exact key _ rfl
theorem VRels.get {D : Nat → Prop} {w : World} {ρ : List Loc} : ∀ {l : List V} {vs : List Value}, VRels D w ρ l vs → ∀ t : Nat, VRel D w ρ (l.getD t (.c .any)) (vs.getD t undef)
 | [],[],_,t=>by simp[VRel,CRel]
 | _ :: _,_ :: _,h,0=>h.1
 | _ :: _,_ :: _,h,t+1=>by simpa using VRels.get h.2 t
 | [],_ :: _,h,_=>h.elim
 | _ :: _,[],h,_=>h.elim
theorem VRels.length {D : Nat → Prop} {w : World} {ρ : List Loc} : ∀ {l : List V} {vs : List Value}, VRels D w ρ l vs → l.length = vs.length
 | [],[],_=>rfl
 | _ :: _,_ :: _,h=>by simp[VRels.length h.2]
 | [],_ :: _,h=>h.elim
 | _ :: _,[],h=>h.elim
def frame0 (args:List V) (t:Nat):V:=args.getD t (.c .any)
theorem fn_ok {E : Env} (hE : EnvOK E) {f : FuncId} {fn : Func} {c : Code} {args : List V} {X : V} (hf : E.P.funcs[f]? = some fn) (hb : fn.body = some c) (hm : E.P.follows .mixedOrders = true) (hc : codeB fn.ntmps c = true) (hbd : hasBody E.P f = true)
  (h:awp E c ⟨frame0 args,[]⟩ (retOK E fn.results.toList X)):FnOK E.P E.r f args X:=by
 refine⟨hbd,?_⟩
 intro D w vs hD hU hargs
 refine calls_of_wp hf hb ?_
 let C:Ctx:=⟨D,⟨w,fun _=>False⟩,E.r,fn.ntmps,[]⟩
 have hlen:=hargs.length
 have hrel:Rel C ⟨frame0 args,[]⟩ { tmps:=vs.toArray++Array.replicate (fn.ntmps-vs.toArray.size) undef,defers:=[] } w:=by
  have hDof:∀ b,Dof D [] [] b->D b:=by
   rintro b (h | ⟨k,l,B,h1,_⟩)
   ·exact h
   ·simp at h1
  refine⟨[],⟨⟨rfl,rfl,rfl,Nat.le_refl _,fun _ _ _=>rfl⟩,fun b hb=>⟨hD b hb,id⟩,rfl,fun k l B h1 _=>by simp at h1,fun i j li lj Bi Bj b h1=>by simp at h1,fun hr b o d hb=>hU hr b o d (hDof b hb)⟩,⟨by simp[C];omega,LocsLe.refl _⟩,rfl,fun t=>?_⟩
  have h1:=hargs.get t
  have h2:VRel (Dof D [] []) w [] (args.getD t (.c .any)) (vs.getD t undef):=h1.step (Ext.refl _ _) (fun b _ hb=>hDof b hb) (LocsLe.refl _)
  show VRel (Dof D [] []) w [] (args.getD t (.c .any)) _
  rcases Nat.lt_or_ge t vs.length with hlt | hge
  ·have:(vs.toArray++Array.replicate (fn.ntmps-vs.toArray.size) undef).getD t undef=vs.getD t undef:=by
    rw[Array.getD_eq_getD_getElem?,Array.getElem?_append_left (by simpa using hlt)]
    simp[List.getD]
   rw[this];exact h2
  ·rw[show args.getD t (V.c .any) = .c .any by rw[List.getD,List.getElem?_eq_none (by omega)];rfl]
   trivial
 refine wp_mono (awp_sound (C:=C) hE rfl (Nat.zero_le _) hm c hc h hrel) ?_
 rintro e a w' ⟨σ,hr,hk⟩
 have fin:retOK E fn.results.toList X .ret σ->a.defers=[]/\∃ v,(results fn a.tmps).run E.P w' = .ok v w'/\∃ u,Ending.returned v = .returned u/\VRel D w' [] X u/\Below w.heap.size w w':=by
  intro hk
  obtain⟨ρ,hs,hN,hdf,hfr⟩:=hr
  refine⟨hdf,?_⟩
  simp only[retOK]at hk
  split at hk
  ·rename_i v hv
   obtain⟨x,hx,hxr⟩:=ret_run hE hs hfr hv
   -- the result in a slot of its own
   let tm':Nat->V:=fun t=>if t=a.tmps.size then v else σ.tm t
   let a':Act:={ a with tmps:=a.tmps.push x }
   have hrel':Rel C ⟨tm',σ.bl⟩ a' w':=by
    refine⟨ρ,hs,⟨by show _≤(a.tmps.push x).size;have:=hN.1;simp;omega,hN.2⟩,hdf,fun t=>?_⟩
    show VRel _ _ _ (if t=a.tmps.size then v else σ.tm t) ((a.tmps.push x).getD t undef)
    by_cases e:t=a.tmps.size
    ·rw[if_pos e,e];simpa [Array.getD] using hxr
    ·rw[if_neg e]
     have:(a.tmps.push x).getD t undef=a.tmps.getD t undef:=by
      rw[Array.getD_eq_getD_getElem?,Array.getD_eq_getD_getElem?,Array.getElem?_push]
      rw[if_neg e]
     rw[this];exact hfr t
   have hk':=frzA_tm (tm:=tm') (K':=fun σ'=>closT (closeT σ'.bl v)=true/\Sub (closeT σ'.bl v) X) (partsV v) (fun bl h=>h) hk
   obtain⟨σ',⟨h1,h2⟩,⟨ρ',hs',_,_,hfr'⟩,htm⟩:=Rel.frzA hk' hrel'
   have h3:=hfr' a.tmps.size
   rw[htm]at h3
   have h4:VRel (Dof D ρ' σ'.bl) w' ρ' v x:=by
    have e1:tm' a.tmps.size=v:=by show(if a.tmps.size=a.tmps.size then v else _)=v;rw[if_pos rfl]
    have e2:a'.tmps.getD a.tmps.size undef=x:=by show(a.tmps.push x).getD a.tmps.size undef=x;simp[Array.getD]
    rw[← e1,← e2]
    exact h3
   have h5:=closT_rel (ρ':=[]) (closeT_rel hs' h4) h1
   exact⟨x,hx,x,rfl,h2 D w' x (h5.step (Ext.refl _ _) (fun b _ hb => .inl hb) (LocsLe.refl _)),⟨hs'.below.os,hs'.below.tape,hs'.below.output,hs'.below.size,fun k hk=>hs'.below.block k hk id⟩⟩
  ·exact hk.elim
 cases e with
 | normal=>exact fin hk
 | ret=>exact fin hk
 | exit i=>exact hk.elim
 | goto l=>exact hk.elim
 | panic ch=>exact hk.elim
 | outgrown=>exact hk.elim
def retM (E:Env) (rs:List ResultVar) (X:V) (post:List Blk) (e:Exit) (σ:St):Prop :=
 match e with
 | .normal | .ret=>match retV E σ rs with
  | some v=>Weak 1 ⟨asg [(0,v)],σ.bl⟩ ⟨asg [(0,X)],post⟩
  | none=>False
 | _=>False
theorem fnm_ok {E : Env} (hE : EnvOK E) {f : FuncId} {fn : Func} {c : Code} {args : List V} {X : V} {B B' : Blk} {fresh : List Blk} (hf : E.P.funcs[f]? = some fn) (hb : fn.body = some c) (hm : E.P.follows .mixedOrders = true) (hc : codeB fn.ntmps c = true) (hbd : hasBody E.P f = true) (hm0 : E.m0 = 1)
  (h:awp E c ⟨frame0 args,[B]⟩ (retM E fn.results.toList X (B' :: fresh))):FnM E.P E.r f B args X B' fresh:=by
 refine⟨hbd,?_⟩
 intro D w0 l w vs hs0 hargs
 refine calls_of_wp hf hb ?_
 let C:Ctx:=⟨D,w0,E.r,fn.ntmps,[l]⟩
 have hlen:=hargs.length
 have hrel:Rel C ⟨frame0 args,[B]⟩ { tmps:=vs.toArray++Array.replicate (fn.ntmps-vs.toArray.size) undef,defers:=[] } w:=by
  refine⟨[l],hs0,⟨by simp[C];omega,LocsLe.refl _⟩,rfl,fun t=>?_⟩
  have h2:=hargs.get t
  show VRel (Dof D [l] [B]) w [l] (args.getD t (.c .any)) _
  rcases Nat.lt_or_ge t vs.length with hlt | hge
  ·have:(vs.toArray++Array.replicate (fn.ntmps-vs.toArray.size) undef).getD t undef=vs.getD t undef:=by
    rw[Array.getD_eq_getD_getElem?,Array.getElem?_append_left (by simpa using hlt)]
    simp[List.getD]
   rw[this];exact h2
  ·rw[show args.getD t (V.c .any) = .c .any by rw[List.getD,List.getElem?_eq_none (by omega)];rfl]
   trivial
 refine wp_mono (awp_sound (C:=C) hE rfl (by rw[hm0];exact Nat.le_refl 1) hm c hc h hrel) ?_
 rintro e a w' ⟨σ,hr,hk⟩
 have fin:retM E fn.results.toList X (B' :: fresh) .ret σ->a.defers=[]/\∃ v,(results fn a.tmps).run E.P w' = .ok v w'/\∃ u l' ρ',Ending.returned v = .returned u/\Sat D w0 E.r (l' :: ρ') (B' :: fresh) w'/\LocsLe [l] [l']/\VRel (Dof D (l' :: ρ') (B' :: fresh)) w' (l' :: ρ') X u:=by
  intro hk
  obtain⟨ρ,hs,hN,hdf,hfr⟩:=hr
  refine⟨hdf,?_⟩
  simp only[retM]at hk
  split at hk
  ·rename_i v hv
   obtain⟨x,hx,hxr⟩:=ret_run hE hs hfr hv
   have hrel':Rel ⟨D,w0,E.r,0,[l]⟩ ⟨asg [(0,v)],σ.bl⟩ ⟨#[x],[]⟩ w':=by
    refine⟨ρ,hs,⟨Nat.zero_le _,hN.2⟩,rfl,fun t=>?_⟩
    show VRel _ _ _ (if t=0 then v else .c .any) _
    split
    ·rename_i e;subst e;exact hxr
    ·trivial
   obtain⟨ρ2,hs2,hN2,_,hf2⟩:=hk ⟨D,w0,E.r,0,[l]⟩ _ _ (Nat.le_refl 1) hrel'
   have h3:VRel (Dof D ρ2 (B' :: fresh)) w' ρ2 X x:=hf2 0
   match ρ2,hs2,hN2,h3 with
   | [],hs2,_,_=>have:=hs2.len;simp at this
   | l' :: ρ',hs2,hN2,h3 =>
    refine⟨x,hx,x,l',ρ',rfl,hs2,fun i li hi=>?_,h3⟩
    cases i with
    | zero =>
     obtain⟨l2,e1,e2⟩:=hN2.2 0 li hi
     exact⟨l2,by simpa using e1,e2⟩
    | succ i=>simp at hi
  ·exact hk.elim
 cases e with
 | normal=>exact fin hk
 | ret=>exact fin hk
 | exit i=>exact hk.elim
 | goto l=>exact hk.elim
 | panic ch=>exact hk.elim
 | outgrown=>exact hk.elim
end Go.Proofs.YtibaocbpeaejkaaGreat
/- Lists of machine integers: what is remembered of a state at a loop's head. -/
namespace Go.Proofs.YtibaocbpeaejkaaGreat
open Go.RowKit
abbrev il (n:Nat) (a:Nat->Int):Cell := .row 1 n fun i _ => .int .i64 (a i)
abbrev ib (x:Nat × Nat × (Nat->Int)):Blk:=⟨x.1,1,x.2.1,0,0,fun i _ => .int .i64 (x.2.2 i)⟩
abbrev ist (tl:List (Nat × V)) (xs:List (Nat × Nat × (Nat->Int))):St:=⟨asg tl,xs.map ib⟩
def srcB (bl : List Blk) (x : Nat × Nat × (Nat → Int)) : Option Nat → Prop
 | some k=>∃ B,bl[k]? = some B/\B.t=x.1/\B.sz=1/\B.n=x.2.1/\B.st=0/\∀ i,i<x.2.1->B.f i 0 = .int .i64 (x.2.2 i)
 | none=>x.2.1=0
def srcs (bl : List Blk) : List (Option Nat) → List (Nat × Nat × (Nat → Int)) → Prop
 | [],[]=>True
 | k :: ks,x :: xs=>srcB bl x k/\srcs bl ks xs
 | _,_=>False
theorem srcs_get {bl : List Blk} : ∀ {ks : List (Option Nat)} {xs : List (Nat × Nat × (Nat → Int))}, srcs bl ks xs → ks.length = xs.length ∧ ∀ (j : Nat) x, xs[j]? = some x → ∃ k, ks[j]? = some k ∧ srcB bl x k
 | [],[],_=>⟨rfl,fun j x h=>by simp at h⟩
 | k :: ks,x :: xs,h=>by
  obtain⟨h1,h2⟩:=srcs_get h.2
  refine⟨by simp[h1],fun j y hj=>?_⟩
  cases j with
  | zero=>simp at hj;subst hj;exact⟨k,rfl,h.1⟩
  | succ j=>exact h2 j y (by simpa using hj)
 | [],_ :: _,h=>h.elim
 | _ :: _,[],h=>h.elim
def injK : List (Option Nat) → Bool
 | []=>true
 | none :: l=>injK l
 | some k :: l=>!(l.any fun x=>x == some k)&&injK l
theorem injK_eq : ∀ {ks : List (Option Nat)} (_ : injK ks = true) {i j k : Nat}, ks[i]? = some (some k) → ks[j]? = some (some k) → i = j
 | [],_,i,j,k,h1,_=>by simp at h1
 | none :: l,h,i,j,k,h1,h2=>by
  cases i with
  | zero=>simp at h1
  | succ i =>
   cases j with
   | zero=>simp at h2
   | succ j=>exact congrArg Nat.succ (injK_eq (ks:=l) (k:=k) h (by simpa using h1) (by simpa using h2))
 | some m :: l,h,i,j,k,h1,h2=>by
  simp only[injK,Bool.and_eq_true,Bool.not_eq_true']at h
  cases i with
  | zero =>
   cases j with
   | zero=>rfl
   | succ j =>
    simp at h1 h2;subst h1
    have:=List.any_eq_false.1 h.1 (some m) (List.mem_of_getElem? h2)
    simp at this
  | succ i =>
   cases j with
   | zero =>
    simp at h1 h2;subst h2
    have:=List.any_eq_false.1 h.1 (some m) (List.mem_of_getElem? h1)
    simp at this
   | succ j=>exact congrArg Nat.succ (injK_eq (ks:=l) (k:=k) h.2 (by simpa using h1) (by simpa using h2))
def regB (q : Nat) (bl : List Blk) (ks : List (Option Nat)) (v : V) : V → Prop
 | .c (.gs j 0)=>match q.ble j,ks[j-q]? with
  | true,some (some k)=>∃ B,bl[k]? = some B/\v = .c (.gs k B.u)/\B.st=0
  | true,some none=>v = .c .nil
  | _,_=>False
 | .c (.sl j 0 sz o n)=>match q.ble j,ks[j-q]? with
  | true,some (some k)=>∃ B n',bl[k]? = some B/\v = .c (.sl k B.u sz o n')/\B.st=0/\n'=n
  | _,_=>False
 | .c (.int K m)=>∃ n,v = .c (.int K n)/\n=m
 | .c (.row sz n f)=>∃ n' f',v = .c (.row sz n' f')/\n'=n/\∀ i j,i<n->j<sz->f' i j=f i j
 | y=>v=y/\y.clos=true
def locK (ρ : List Loc) : Option Nat → Loc
 | some k=>{ ρ.getD k ⟨0,none,0,0⟩with u:=0 }
 | none=>⟨0,none,0,0⟩
theorem Weak.intsG {tm:Nat->V} {bl:List Blk} {tl:List (Nat × V)} {xs:List (Nat × Nat × (Nat->Int))} (pre:List Blk) (hpre:bl.take pre.length=pre) (hst2:pre.all (fun B=>Nat.ble 2 B.st)=true) (ks:List (Option Nat)) (hi:injK ks=true) (hb:srcs bl ks xs) (hl:allP tl fun p=>regB pre.length bl ks (tm p.1) p.2):Weak pre.length ⟨tm,bl⟩ ⟨asg tl,pre++xs.map ib⟩:=by
 rintro C a w hm0 ⟨ρ,hs,hN,hdf,hf⟩
 obtain⟨hlen,hget⟩:=srcs_get hb
 have hlb:bl.length=ρ.length:=hs.len.symm
 have hq:pre.length≤ρ.length:=by
  have:=congrArg List.length hpre
  rw[List.length_take]at this
  omega
 have hql:(ρ.take pre.length).length=pre.length:=by rw[List.length_take];omega
 -- where each block comes from
 have get:∀(j:Nat) (l:Loc) (B:Blk),(ρ.take pre.length++ks.map (locK ρ))[j]? = some l->(pre++xs.map ib)[j]? = some B->2≤B.st∨pre.length≤j/\((∃(k:Nat) (lk:Loc) (Bk:Blk),ks[j-pre.length]? = some (some k)/\ρ[k]? = some lk/\bl[k]? = some Bk/\l={ lk with u:=0 }/\B.t=Bk.t/\B.sz=1/\Bk.sz=1/\B.n=Bk.n/\Bk.st=0/\B.u=0/\∀ i,i<B.n->Bk.f i 0=B.f i 0/\∃ n,B.f i 0 = .int .i64 n)∨(l=⟨0,none,0,0⟩/\B.n=0/\B.u=0)):=by
  intro j l B e1 e2
  rcases Nat.lt_or_ge j pre.length with hj | hj
  ·left
   rw[List.getElem?_append_left hj]at e2
   exact Nat.le_of_ble_eq_true (List.all_eq_true.1 hst2 B (List.mem_of_getElem? e2))
  right
  refine⟨hj,?_⟩
  rw[List.getElem?_append_right (by omega),hql,List.getElem?_map]at e1
  rw[List.getElem?_append_right hj,List.getElem?_map]at e2
  cases hx:xs[j-pre.length]? with
  | none=>rw[hx]at e2;cases e2
  | some x =>
   rw[hx]at e2
   simp at e2
   obtain⟨k,hk,hsrc⟩:=hget _ x hx
   rw[hk]at e1
   simp at e1
   subst e1 e2
   cases k with
   | none=>exact .inr ⟨rfl,hsrc,rfl⟩
   | some k =>
    obtain⟨Bk,q1,q2,q3,q4,q5,q6⟩:=hsrc
    have hkl:k<ρ.length:=by rw[hs.len];exact(List.getElem?_eq_some_iff.1 q1).1
    refine .inl ⟨k,ρ[k],Bk,hk,List.getElem?_eq_getElem hkl,q1,?_,q2.symm,rfl,q3,q4.symm,q5,rfl,fun i hi=>⟨q6 i hi,_,rfl⟩⟩
    simp[locK,List.getD,List.getElem?_eq_getElem hkl]
 have hD:∀ b,Dof C.D0 (ρ.take pre.length++ks.map (locK ρ)) (pre++xs.map ib) b->Dof C.D0 ρ bl b:=by
  rintro b (hx | ⟨j,l,B,e1,e2,e3,e4⟩)
  ·exact .inl hx
  ·rcases get j l B e1 e2 with q0 | ⟨_,⟨k,lk,Bk,q1,q2,q3,q4,q5,q6,q7,q8,q9,q10⟩ | ⟨q1,q2⟩⟩
   ·omega
   ·subst q4
    exact .inr ⟨k,lk,Bk,q2,q3,q9,e4⟩
   ·subst q1;cases e4
 refine⟨ρ.take pre.length++ks.map (locK ρ),⟨hs.below,hs.d0,by rw[List.length_append,hql];simp[hlen],fun j l B e1 e2 hst=>?_,fun i j li lj Bi Bj b e1 e2 e3 e4 e5 e6 e7 e8=>?_,fun hr b o d hb=>hs.noU hr b o d (hD b hb)⟩,⟨hN.1,fun k l h=>?_⟩,hdf,fun t=>?_⟩
 ·rcases get j l B e1 e2 with q0 | ⟨_,⟨k,lk,Bk,q1,q2,q3,q4,q5,q6,q7,q8,q9,q10,q11⟩ | ⟨q1,q2,q3⟩⟩
  ·omega
  ·subst q4
   refine⟨q10.symm,?_⟩
   rcases(hs.at_ k lk Bk q2 q3 (by omega)).2 with⟨g1,g2,g3⟩ | ⟨b,cap,cs,g2,g3,g4,g5,g6,g7,g8,g9⟩
   ·exact .inl ⟨q8.trans g1,g2,g3⟩
   ·refine .inr ⟨b,cap,cs,g2,g3,by rw[q8];exact g4,by rw[q5];exact g5,by rw[q6,← q7];exact g6,by rw[q8];exact g7,g8,fun x y hx hy=>?_⟩
    obtain rfl:y=0:=by omega
    obtain⟨u,hu,hur⟩:=g9 x 0 (by omega) (by omega)
    refine⟨u,by rw[q6,← q7];exact hu,?_⟩
    obtain⟨h1,n,hn⟩:=q11 x hx
    rw[h1,hn]at hur
    rw[hn]
    have hur:u = .int .i64 n:=hur
    subst hur
    split <;> rfl
  ·subst q1
   exact⟨q3.symm,.inl ⟨q2,rfl,rfl⟩⟩
 ·rcases get i li Bi e1 e3 with q0 | ⟨hi1,⟨k,lk,Bk,q1,q2,q3,q4,q5,q6,q7,q8,q9,q10⟩ | ⟨q1,q2⟩⟩
  ·omega
  ·rcases get j lj Bj e2 e4 with p0 | ⟨hj1,⟨k',lk',Bk',p1,p2,p3,p4,p5,p6,p7,p8,p9,p10⟩ | ⟨p1,p2⟩⟩
   ·omega
   ·subst q4 p4
    have:=hs.dist k k' lk lk' Bk Bk' b q2 p2 q3 p3 (by omega) (by omega) e7 e8
    subst this
    have:=injK_eq hi q1 p1
    omega
   ·subst p1;cases e8
  ·subst q1;cases e7
 ·obtain⟨l',h1,h2⟩:=hN.2 k l h
  have hk:k<pre.length:=Nat.lt_of_lt_of_le (List.getElem?_eq_some_iff.1 h).1 hm0
  exact⟨l',by rw[List.getElem?_append_left (by omega),List.getElem?_take_of_lt hk];exact h1,h2⟩
 ·rcases asg_mem tl t with e | e
  ·show VRel _ _ _ (asg tl t) _
   rw[e];trivial
  ·have e1:=allP_mem hl _ e
   have e2:VRel (Dof C.D0 ρ bl) w ρ (tm t) (a.tmps.getD t undef):=hf t
   show VRel _ _ _ (asg tl t) _
   generalize asg tl t=y at e1 ⊢
   have e1:regB pre.length bl ks (tm t) y:=e1
   have fin:∀ y:V,tm t=y/\y.clos=true->VRel (Dof C.D0 (ρ.take pre.length++ks.map (locK ρ)) (pre++xs.map ib)) w (ρ.take pre.length++ks.map (locK ρ)) y (a.tmps.getD t undef):=fun y h=>by
    rw[h.1]at e2
    exact(e2.clos h.2).step (Ext.refl _ _) (fun b _ hb=>hD b hb) (LocsLe.refl _)
   have at_j:∀ j k,pre.length.ble j=true->ks[j-pre.length]? = some k->(ρ.take pre.length++ks.map (locK ρ))[j]? = some (locK ρ k):=fun j k h1 h2=>by
    have:=Nat.le_of_ble_eq_true h1
    rw[List.getElem?_append_right (by omega),hql,List.getElem?_map,h2];rfl
   match y,e1 with
   | .c (.gs j 0),e1 =>
    simp only[regB]at e1
    split at e1
    ·rename_i k hb hk
     obtain⟨B,g1,g2,g3⟩:=e1
     rw[g2]at e2
     obtain⟨l,l1,l2,l3⟩:=e2
     refine⟨{ l with u:=0 },?_,Nat.zero_le _,fun _=>l3 (hs.at_ k l B l1 g1 (by omega)).1⟩
     rw[at_j _ _ hb hk]
     simp[locK,List.getD,l1]
    ·rename_i hb hk
     rw[e1]at e2
     have e2:a.tmps.getD t undef = .slice none 0 0:=e2
     exact⟨⟨0,none,0,0⟩,by rw[at_j _ _ hb hk];rfl,Nat.zero_le _,fun _=>e2⟩
    ·exact e1.elim
   | .c (.sl j 0 sz o n),e1 =>
    simp only[regB]at e1
    split at e1
    ·rename_i k hb hk
     obtain⟨B,n',g1,g2,g3,rfl⟩:=e1
     rw[g2]at e2
     obtain⟨l,l1,l2,l3⟩:=e2
     refine⟨{ l with u:=0 },?_,Nat.zero_le _,fun _=>l3 (hs.at_ k l B l1 g1 (by omega)).1⟩
     rw[at_j _ _ hb hk]
     simp[locK,List.getD,l1]
    ·exact e1.elim
   | .c (.int K m),e1 =>
    obtain⟨n,g1,g2⟩:=e1
    subst g2
    exact fin _ ⟨g1,rfl⟩
   | .c (.row sz n f),e1 =>
    obtain⟨n',f',g1,rfl,g2⟩:=e1
    have e3:=fin _ ⟨g1,rfl⟩
    obtain⟨A,c,s1,s2,s3⟩:=e3
    refine⟨A,c,s1,s2,fun hn=>?_⟩
    obtain⟨b,o,r1,r2,r3,r4⟩:=s3 hn
    exact⟨b,o,r1,r2,r3,fun i j hi hj=>by rw[← g2 i j hi hj];exact r4 i j hi hj⟩
   | .c .any,e1=>exact fin _ e1
   | .c (.bool _),e1=>exact fin _ e1
   | .c .nil,e1=>exact fin _ e1
   | .c (.p ..),e1=>exact fin _ e1
   | .c (.gs _ (_+1)),e1=>exact fin _ e1
   | .c (.sl _ (_+1) ..),e1=>exact fin _ e1
   | .c (.xp ..),e1=>exact fin _ e1
   | .c (.fn _),e1=>exact fin _ e1
   | .c (.str _),e1=>exact fin _ e1
   | .c (.cl ..),e1=>exact fin _ e1
   | .g _,e1=>exact fin _ e1
   | .t2 ..,e1=>exact fin _ e1
   | .t3 ..,e1=>exact fin _ e1
   | .t4 ..,e1=>exact fin _ e1
   | .un,e1=>exact fin _ e1
theorem Weak.ints {tm:Nat->V} {bl:List Blk} {tl:List (Nat × V)} {xs:List (Nat × Nat × (Nat->Int))} (ks:List (Option Nat)) (hi:injK ks=true) (hb:srcs bl ks xs) (hl:allP tl fun p=>regB 0 bl ks (tm p.1) p.2):Weak 0 ⟨tm,bl⟩ (ist tl xs) :=
 Weak.intsG [] rfl rfl ks hi hb hl
theorem updI {f g:Nat->Int} {k j:Nat} {v:Int} (h:(if j=k then v else f j)=g j):updF (fun i _ => .int .i64 (f i)) k 0 [.int .i64 v] j 0 = .int .i64 (g j):=by
 rw[← h]
 unfold updF
 by_cases e:j=k
 ·rw[if_pos ⟨e,Nat.le_refl _,by simp⟩,if_pos e];rfl
 ·rw[if_neg (fun h=>e h.1),if_neg e]
theorem appI {f g:Nat->Int} {k j m:Nat} {v:Int} (h:(if j=k then v else f j)=g j) (hm:m≤k+1) (hj:j<m):appF k (fun i _ => .int .i64 (f i)) (rowF 1 [.int .i64 v]) j 0 = .int .i64 (g j):=by
 rw[← h]
 unfold appF
 by_cases e:j=k
 ·subst e;rw[if_neg (Nat.lt_irrefl _),if_pos rfl,Nat.sub_self];rfl
 ·rw[if_pos (by omega),if_neg e]
theorem subRowG {sz n m:Nat} {f g:Nat->Nat->Cell} (h:n=m) (h2:∀ i j,i<m->j<sz->f i j=g i j):Sub (.c (.row sz n f)) (.c (.row sz m g)):=by
 subst h
 rintro D w v ⟨A,c,rfl,h1,h3⟩
 refine⟨A,c,rfl,h1,fun hn=>?_⟩
 obtain⟨b',o,hA,hb,hD,hc⟩:=h3 hn
 refine⟨b',o,hA,hb,hD,fun i j hi hj=>?_⟩
 rw[← h2 i j hi hj]
 exact hc i j hi hj
theorem subRow {n m:Nat} {a b:Nat->Int} (h:n=m) (h2:∀ i,i<m->a i=b i):Sub (.c (il n a)) (.c (il m b)) :=
 subRowG h fun i _ hi _=>congrArg (Cell.int .i64) (h2 i hi)
theorem subT2 {a b a' b':V} (h1:Sub a a') (h2:Sub b b'):Sub (.t2 a b) (.t2 a' b'):=by
 rintro D w v ⟨x,y,rfl,hx,hy⟩
 exact⟨x,y,rfl,h1 D w x hx,h2 D w y hy⟩
theorem subT3 {a b c a' b' c':V} (h1:Sub a a') (h2:Sub b b') (h3:Sub c c'):Sub (.t3 a b c) (.t3 a' b' c'):=by
 rintro D w v ⟨x,y,z,rfl,hx,hy,hz⟩
 exact⟨x,y,z,rfl,h1 D w x hx,h2 D w y hy,h3 D w z hz⟩
theorem loop_ints {E:Env} {c:Code} {σ:St} {R:Exit->St->Prop} {α:Type} (S:α->St) (m:α->Nat) (I:α->Prop) (x0:α) (hm:E.m0=0) (h0:Weak 0 σ (S x0)) (hI:I x0) (hr:∀ x,I x->awp E c (S x) (seqR (fun σ2=>∃ x',m x'<m x/\Weak 0 σ2 (S x')/\I x') R)):awp E (.loop c) σ R:=by
 refine loop_inv (fun k σ=>∃ x,k=m x/\I x/\σ=S x) (m x0) ⟨S x0,by rw[hm];exact h0,x0,rfl,hI,rfl⟩ ?_
 rintro k σ' ⟨x,rfl,hx,rfl⟩
 have h:=hr x hx
 have e:(fun σ2=>∃ x',m x'<m x/\Weak 0 σ2 (S x')/\I x')=(fun σ2=>∃ n',n'<m x/\∃ σ3,Weak E.m0 σ2 σ3/\∃ x,n'=m x/\I x/\σ3=S x):=by
  funext σ2
  refine propext ⟨?_,?_⟩
  ·rintro ⟨x',h1,h2,h3⟩
   exact⟨m x',h1,S x',by rw[hm];exact h2,x',rfl,h3,rfl⟩
  ·rintro ⟨n',h1,σ3,h2,x',rfl,h3,rfl⟩
   exact⟨x',h1,by rw[hm]at h2;exact h2,h3⟩
 rw[e]at h
 exact h
theorem loop_ints1 {E:Env} {c:Code} {σ:St} {R:Exit->St->Prop} {α:Type} (S:α->St) (m:α->Nat) (I:α->Prop) (x0:α) (hm:E.m0=1) (h0:Weak 1 σ (S x0)) (hI:I x0) (hr:∀ x,I x->awp E c (S x) (seqR (fun σ2=>∃ x',m x'<m x/\Weak 1 σ2 (S x')/\I x') R)):awp E (.loop c) σ R:=by
 refine loop_inv (fun k σ=>∃ x,k=m x/\I x/\σ=S x) (m x0) ⟨S x0,by rw[hm];exact h0,x0,rfl,hI,rfl⟩ ?_
 rintro k σ' ⟨x,rfl,hx,rfl⟩
 have h:=hr x hx
 have e:(fun σ2=>∃ x',m x'<m x/\Weak 1 σ2 (S x')/\I x')=(fun σ2=>∃ n',n'<m x/\∃ σ3,Weak E.m0 σ2 σ3/\∃ x,n'=m x/\I x/\σ3=S x):=by
  funext σ2
  refine propext ⟨?_,?_⟩
  ·rintro ⟨x',h1,h2,h3⟩
   exact⟨m x',h1,S x',by rw[hm];exact h2,x',rfl,h3,rfl⟩
  ·rintro ⟨n',h1,σ3,h2,x',rfl,h3,rfl⟩
   exact⟨x',h1,by rw[hm]at h2;exact h2,h3⟩
 rw[e]at h
 exact h
end Go.Proofs.YtibaocbpeaejkaaGreat
/- Lists of any closed cells: what is remembered of a state at a loop's head. -/
namespace Go.Proofs.YtibaocbpeaejkaaGreat
open Go.RowKit
structure Gx where
 t:Nat
 sz:Nat
 n:Nat
 f:Nat->Nat->Cell
abbrev gb (x:Gx):Blk:=⟨x.t,x.sz,x.n,0,0,x.f⟩
abbrev gst (tl:List (Nat × V)) (xs:List Gx):St:=⟨asg tl,xs.map gb⟩
abbrev gst1 (tl:List (Nat × V)) (xs:List Gx):St:=⟨asg tl,phB :: xs.map gb⟩
def regC (q : Nat) (bl : List Blk) (ks : List (Option Nat)) : Cell → (Cell → Prop) → Prop
 | .gs j 0,e=>match q.ble j,ks[j-q]? with
  | true,some (some k)=>∃ B,bl[k]? = some B/\e (.gs k B.u)/\B.st=0
  | true,some none=>e .nil
  | _,_=>False
 | .sl j 0 sz o n,e=>match q.ble j,ks[j-q]? with
  | true,some (some k)=>∃ B n',bl[k]? = some B/\e (.sl k B.u sz o n')/\B.st=0/\n'=n
  | _,_=>False
 | .p j 0 sz i o,e=>match q.ble j,ks[j-q]? with
  | true,some (some k)=>∃ B,bl[k]? = some B/\e (.p k B.u sz i o)/\B.st=0
  | _,_=>False
 | .int K m,e=>∃ n,e (.int K n)/\n=m
 | .bool b,e=>∃ c,e (.bool c)/\c=b
 | .row sz n f,e=>(∃ n' f',e (.row sz n' f')/\n'=n/\∀ i j,i<n->j<sz->f' i j=f i j)∨(n=0/\e .nil)∨∃ k B,bl[k]? = some B/\e (.gs k B.u)/\q.ble k=true/\(ks.any fun x=>x == some k)=false/\B.st≤1/\B.sz=sz/\B.n=n/\∀ i j,i<n->j<sz->B.f i j=f i j/\(f i j).clos=true
 | .cl F m f,e=>∃ f',e (.cl F m f')/\∀ j,j<m->regC q bl ks (f j) fun x=>f' j=x
 | y,e=>e y/\y.clos=true
def regL (q : Nat) (bl : List Blk) (ks : List (Option Nat)) : List Cell → List Cell → Prop
 | [],[]=>True
 | y :: l,x :: l'=>regC q bl ks y (fun z=>x=z)/\regL q bl ks l l'
 | _,_=>False
def regV (q : Nat) (bl : List Blk) (ks : List (Option Nat)) (v : V) : V → Prop
 | .c y=>regC q bl ks y fun x=>v = .c x
 | .g l=>(v = .g l/\(l.all Cell.clos)=true)∨∃ l',v = .g l'/\regL q bl ks l l'
 | y=>v=y/\y.clos=true
theorem regE {q : Nat} {bl : List Blk} {ks : List (Option Nat)} : ∀ {y : Cell} {e : Cell → Prop}, e y → y.clos = true → regC q bl ks y e
 | .any,_,h,hc=>⟨h,hc⟩
 | .nil,_,h,hc=>⟨h,hc⟩
 | .fn _,_,h,hc=>⟨h,hc⟩
 | .str _,_,h,hc=>⟨h,hc⟩
 | .xp _ _,_,h,hc=>⟨h,hc⟩
 | .int _ _,_,h,_=>⟨_,h,rfl⟩
 | .bool _,_,h,_=>⟨_,h,rfl⟩
 | .row _ _ _,_,h,_ => .inl ⟨_,_,h,rfl,fun _ _ _ _=>rfl⟩
 | .cl F m f,_,h,hc=>⟨f,h,fun j hj=>regE rfl (by simp only[Cell.clos,List.all_eq_true,List.mem_range]at hc;exact hc j hj)⟩
 | .p ..,_,_,hc=>by simp[Cell.clos]at hc
 | .gs ..,_,_,hc=>by simp[Cell.clos]at hc
 | .sl ..,_,_,hc=>by simp[Cell.clos]at hc
def srcG (q : Nat) (bl : List Blk) (ks : List (Option Nat)) (x : Gx) : Option Nat → Prop
 | some k=>∃ B,bl[k]? = some B/\B.t=x.t/\B.sz=x.sz/\B.n=x.n/\B.st=0/\∀ i j,i<x.n->j<x.sz->regC q bl ks (x.f i j) fun y=>B.f i j=y
 | none=>x.n=0
def srcsG (q : Nat) (bl : List Blk) (ks0 : List (Option Nat)) : List (Option Nat) → List Gx → Prop
 | [],[]=>True
 | k :: ks,x :: xs=>srcG q bl ks0 x k/\srcsG q bl ks0 ks xs
 | _,_=>False
theorem srcsG_get {q : Nat} {bl : List Blk} {ks0 : List (Option Nat)} : ∀ {ks : List (Option Nat)} {xs : List Gx}, srcsG q bl ks0 ks xs → ks.length = xs.length ∧ ∀ (j : Nat) x, xs[j]? = some x → ∃ k, ks[j]? = some k ∧ srcG q bl ks0 x k
 | [],[],_=>⟨rfl,fun j x h=>by simp at h⟩
 | k :: ks,x :: xs,h=>by
  obtain⟨h1,h2⟩:=srcsG_get h.2
  refine⟨by simp[h1],fun j y hj=>?_⟩
  cases j with
  | zero=>simp at hj;subst hj;exact⟨k,rfl,h.1⟩
  | succ j=>exact h2 j y (by simpa using hj)
 | [],_ :: _,h=>h.elim
 | _ :: _,[],h=>h.elim
theorem regC_rel {q : Nat} {bl : List Blk} {ks : List (Option Nat)} {D0 : Nat → Prop} {w0 : Base} {r : Bool} {ρ ρ' : List Loc} {w : World} (hs : Sat D0 w0 r ρ bl w) {D' : Nat → Prop} (hD : ∀ b, D' b → Dof D0 ρ bl b)
  (at_j:∀ j k,q.ble j=true->ks[j-q]? = some k->ρ'[j]? = some (locK ρ k))
  (out:∀(k:Nat) (l:Loc) (B:Blk) (b:Nat),ρ[k]? = some l->bl[k]? = some B->B.st≤1->l.b=some b->q.ble k=true->(ks.any fun x=>x == some k)=false->¬ D' b) :
  ∀ {y:Cell} {e:Cell->Prop} {v:Value},regC q bl ks y e->(∀ x,e x->CRel (Dof D0 ρ bl) w ρ x v)->CRel D' w ρ' y v
 | .gs j 0,e,v,h,hv=>by
  simp only[regC]at h
  split at h
  ·rename_i k hb hk
   obtain⟨B,g1,g2,g3⟩:=h
   obtain⟨l,l1,l2,l3⟩:=hv _ g2
   refine⟨{ l with u:=0 },?_,Nat.zero_le _,fun _=>l3 (hs.at_ k l B l1 g1 (by omega)).1⟩
   rw[at_j _ _ hb hk]
   simp[locK,List.getD,l1]
  ·rename_i hb hk
   have e2:v = .slice none 0 0:=hv _ h
   exact⟨⟨0,none,0,0⟩,by rw[at_j _ _ hb hk];rfl,Nat.zero_le _,fun _=>e2⟩
  ·exact h.elim
 | .sl j 0 sz o n,e,v,h,hv=>by
  simp only[regC]at h
  split at h
  ·rename_i k hb hk
   obtain⟨B,n',g1,g2,g3,rfl⟩:=h
   obtain⟨l,l1,l2,l3⟩:=hv _ g2
   refine⟨{ l with u:=0 },?_,Nat.zero_le _,fun _=>l3 (hs.at_ k l B l1 g1 (by omega)).1⟩
   rw[at_j _ _ hb hk]
   simp[locK,List.getD,l1]
  ·exact h.elim
 | .p j 0 sz i o,e,v,h,hv=>by
  simp only[regC]at h
  split at h
  ·rename_i k hb hk
   obtain⟨B,g1,g2,g3⟩:=h
   obtain⟨l,l1,l2,l3⟩:=hv _ g2
   refine⟨{ l with u:=0 },?_,Nat.zero_le _,fun _=>l3 (hs.at_ k l B l1 g1 (by omega)).1⟩
   rw[at_j _ _ hb hk]
   simp[locK,List.getD,l1]
  ·exact h.elim
 | .int K m,e,v,h,hv=>by
  obtain⟨n,g1,rfl⟩:=h
  exact hv _ g1
 | .bool K,e,v,h,hv=>by
  obtain⟨n,g1,rfl⟩:=h
  exact hv _ g1
 | .row sz n f,e,v,h,hv=>by
  rcases h with⟨n',f',g1,rfl,g2⟩ | ⟨rfl,g1⟩ | ⟨k,B,g1,g2,g3,g4,g5,rfl,rfl,g8⟩
  ·have e3:=((hv _ g1).clos (ρ':=ρ') rfl).step (D':=D') (Ext.refl _ _) (fun b _ hb=>hD b hb) (LocsLe.refl ρ')
   obtain⟨A,c,s1,s2,s3⟩:=e3
   refine⟨A,c,s1,s2,fun hn=>?_⟩
   obtain⟨b,o,r1,r2,r3,r4⟩:=s3 hn
   exact⟨b,o,r1,r2,r3,fun i j hi hj=>by rw[← g2 i j hi hj];exact r4 i j hi hj⟩
  ·exact⟨none,0,hv _ g1,Nat.le_refl _,fun h=>absurd h (Nat.lt_irrefl _)⟩
  ·obtain⟨l,l1,l2,l3⟩:=hv _ g2
   have hat:=hs.at_ k l B l1 g1 g5
   have ev:=l3 hat.1
   rcases hat.2 with⟨p1,p2,p3⟩ | ⟨b,cap,cs,p2,p3,p4,p5,p6,p7,p8,p9⟩
   ·exact⟨none,0,by rw[ev,p3,p1],by omega,fun h=>by omega⟩
   ·refine⟨some ⟨b,0,none⟩,cap,by rw[ev,p4],p7,fun hn=>⟨b,0,rfl,heap_lt p5,out k l B b l1 g1 g5 p2 g3 g4,fun i j hi hj=>?_⟩⟩
    obtain⟨u,hu,hr⟩:=p9 i j hi hj
    obtain⟨c1,c2⟩:=g8 i j hi hj
    refine⟨u,?_,?_⟩
    ·have:=idx_lt hi hj p7
     simp only[World.cell?,p5]
     simp[hu]
    ·rw[c1]at hr
     exact(hr.clos c2).step (Ext.refl _ _) (fun b _ hb=>hD b hb) (LocsLe.refl _)
 | .cl F m f,e,v,h,hv=>by
  obtain⟨f',g1,g2⟩:=h
  obtain⟨caps,rfl,c1,c2⟩:=hv _ g1
  refine⟨caps,rfl,c1,fun j hj=>?_⟩
  obtain⟨u,hu,hr⟩:=c2 j hj
  refine⟨u,hu,regC_rel hs hD at_j out (g2 j hj) fun x hx=>?_⟩
  subst hx
  exact hr
 | .any,e,v,h,hv=>trivial
 | .nil,e,v,h,hv=>hv _ h.1
 | .fn _,e,v,h,hv=>hv _ h.1
 | .str _,e,v,h,hv=>hv _ h.1
 | .xp m f,e,v,h,hv=>((hv _ h.1).clos rfl).step (Ext.refl _ _) (fun b _ hb=>hD b hb) (LocsLe.refl _)
 | .gs _ (_+1),_,_,h,_=>by simp[regC,Cell.clos]at h
 | .sl _ (_+1) ..,_,_,h,_=>by simp[regC,Cell.clos]at h
 | .p _ (_+1) ..,_,_,h,_=>by simp[regC,Cell.clos]at h
theorem regL_rel {q : Nat} {bl : List Blk} {ks : List (Option Nat)} {D0 : Nat → Prop} {w0 : Base} {r : Bool} {ρ ρ' : List Loc} {w : World} (hs : Sat D0 w0 r ρ bl w) {D' : Nat → Prop} (hD : ∀ b, D' b → Dof D0 ρ bl b)
  (at_j:∀ j k,q.ble j=true->ks[j-q]? = some k->ρ'[j]? = some (locK ρ k))
  (out:∀(k:Nat) (l:Loc) (B:Blk) (b:Nat),ρ[k]? = some l->bl[k]? = some B->B.st≤1->l.b=some b->q.ble k=true->(ks.any fun x=>x == some k)=false->¬ D' b) :
  ∀ {l l':List Cell} {vs:List Value},regL q bl ks l l'->CRels (Dof D0 ρ bl) w ρ l' vs->CRels D' w ρ' l vs
 | [],[],[],_,_=>trivial
 | _ :: _,_ :: _,_ :: _,h,hv=>⟨regC_rel hs hD at_j out h.1 fun x hx=>by subst hx;exact hv.1,regL_rel hs hD at_j out h.2 hv.2⟩
 | [],[],_ :: _,_,hv=>hv.elim
 | [],_ :: _,_,h,_=>h.elim
 | _ :: _,[],_,h,_=>h.elim
 | _ :: _,_ :: _,[],_,hv=>hv.elim
theorem Weak.genG {tm:Nat->V} {bl:List Blk} {tl:List (Nat × V)} {xs:List Gx} (pre:List Blk) (hpre:bl.take pre.length=pre) (hst2:pre.all (fun B=>Nat.ble 2 B.st)=true) (ks:List (Option Nat)) (hi:injK ks=true) (hb:srcsG pre.length bl ks ks xs) (hl:allP tl fun p=>regV pre.length bl ks (tm p.1) p.2):Weak pre.length ⟨tm,bl⟩ ⟨asg tl,pre++xs.map gb⟩:=by
 rintro C a w hm0 ⟨ρ,hs,hN,hdf,hf⟩
 obtain⟨hlen,hget⟩:=srcsG_get hb
 have hlb:bl.length=ρ.length:=hs.len.symm
 have hq:pre.length≤ρ.length:=by
  have:=congrArg List.length hpre
  rw[List.length_take]at this
  omega
 have hql:(ρ.take pre.length).length=pre.length:=by rw[List.length_take];omega
 have get:∀(j:Nat) (l:Loc) (B:Blk),(ρ.take pre.length++ks.map (locK ρ))[j]? = some l->(pre++xs.map gb)[j]? = some B->2≤B.st∨pre.length≤j/\((∃(k:Nat) (lk:Loc) (Bk:Blk),ks[j-pre.length]? = some (some k)/\ρ[k]? = some lk/\bl[k]? = some Bk/\l={ lk with u:=0 }/\B.t=Bk.t/\B.sz=Bk.sz/\B.n=Bk.n/\Bk.st=0/\B.st=0/\B.u=0/\∀ i j,i<B.n->j<B.sz->regC pre.length bl ks (B.f i j) fun y=>Bk.f i j=y)∨(l=⟨0,none,0,0⟩/\B.n=0/\B.u=0)):=by
  intro j l B e1 e2
  rcases Nat.lt_or_ge j pre.length with hj | hj
  ·left
   rw[List.getElem?_append_left hj]at e2
   exact Nat.le_of_ble_eq_true (List.all_eq_true.1 hst2 B (List.mem_of_getElem? e2))
  right
  refine⟨hj,?_⟩
  rw[List.getElem?_append_right (by omega),hql,List.getElem?_map]at e1
  rw[List.getElem?_append_right hj,List.getElem?_map]at e2
  cases hx:xs[j-pre.length]? with
  | none=>rw[hx]at e2;cases e2
  | some x =>
   rw[hx]at e2
   simp at e2
   obtain⟨k,hk,hsrc⟩:=hget _ x hx
   rw[hk]at e1
   simp at e1
   subst e1 e2
   cases k with
   | none=>exact .inr ⟨rfl,hsrc,rfl⟩
   | some k =>
    obtain⟨Bk,q1,q2,q3,q4,q5,q6⟩:=hsrc
    have hkl:k<ρ.length:=by rw[hs.len];exact(List.getElem?_eq_some_iff.1 q1).1
    refine .inl ⟨k,ρ[k],Bk,hk,List.getElem?_eq_getElem hkl,q1,?_,q2.symm,q3.symm,q4.symm,q5,rfl,rfl,q6⟩
    simp[locK,List.getD,List.getElem?_eq_getElem hkl]
 have hD:∀ b,Dof C.D0 (ρ.take pre.length++ks.map (locK ρ)) (pre++xs.map gb) b->Dof C.D0 ρ bl b:=by
  rintro b (hx | ⟨j,l,B,e1,e2,e3,e4⟩)
  ·exact .inl hx
  ·rcases get j l B e1 e2 with q0 | ⟨_,⟨k,lk,Bk,q1,q2,q3,q4,q5,q6,q7,q8,q9,q10⟩ | ⟨q1,q2⟩⟩
   ·omega
   ·subst q4
    exact .inr ⟨k,lk,Bk,q2,q3,q8,e4⟩
   ·subst q1;cases e4
 have at_j:∀ j k,pre.length.ble j=true->ks[j-pre.length]? = some k->(ρ.take pre.length++ks.map (locK ρ))[j]? = some (locK ρ k):=fun j k h1 h2=>by
  have:=Nat.le_of_ble_eq_true h1
  rw[List.getElem?_append_right (by omega),hql,List.getElem?_map,h2];rfl
 have out:∀(k:Nat) (l:Loc) (B:Blk) (b:Nat),ρ[k]? = some l->bl[k]? = some B->B.st≤1->l.b=some b->pre.length.ble k=true->(ks.any fun x=>x == some k)=false->¬ Dof C.D0 (ρ.take pre.length++ks.map (locK ρ)) (pre++xs.map gb) b:=by
  rintro k l B b p1 p2 p3 p4 p5 p6 (hx | ⟨j,l',B',e1,e2,e3,e4⟩)
  ·have h1:=hs.own p1 p2 p3 p4
   have h2:=hs.d0 b hx
   rcases h1 with h1 | h1
   ·have:=h2.1
    have h3:C.w0.heap.size≤b:=h1
    omega
   ·exact h2.2 h1
  ·rcases get j l' B' e1 e2 with q0 | ⟨_,⟨k',lk,Bk,q1,q2,q3,q4,q5,q6,q7,q8,q9,q10⟩ | ⟨q1,q2⟩⟩
   ·omega
   ·subst q4
    have:=hs.dist k k' l lk B Bk b p1 q2 p2 q3 p3 (by omega) p4 e4
    subst this
    have:=List.any_eq_false.1 p6 (some k) (List.mem_of_getElem? q1)
    simp at this
   ·subst q1;cases e4
 refine⟨ρ.take pre.length++ks.map (locK ρ),⟨hs.below,hs.d0,by rw[List.length_append,hql];simp[hlen],fun j l B e1 e2 hst=>?_,fun i j li lj Bi Bj b e1 e2 e3 e4 e5 e6 e7 e8=>?_,fun hr b o d hb=>hs.noU hr b o d (hD b hb)⟩,⟨hN.1,fun k l h=>?_⟩,hdf,fun t=>?_⟩
 ·rcases get j l B e1 e2 with q0 | ⟨_,⟨k,lk,Bk,q1,q2,q3,q4,q5,q6,q7,q8,q9,q10,q11⟩ | ⟨q1,q2,q3⟩⟩
  ·omega
  ·subst q4
   refine⟨q10.symm,?_⟩
   rcases(hs.at_ k lk Bk q2 q3 (by omega)).2 with⟨g1,g2,g3⟩ | ⟨b,cap,cs,g2,g3,g4,g5,g6,g7,g8,g9⟩
   ·exact .inl ⟨q7.trans g1,g2,g3⟩
   ·refine .inr ⟨b,cap,cs,g2,g3,by rw[q7];exact g4,by rw[q5];exact g5,by rw[q6];exact g6,by rw[q7];exact g7,g8,fun x y hx hy=>?_⟩
    obtain⟨u,hu,hur⟩:=g9 x y (by omega) (by omega)
    refine⟨u,by rw[q6];exact hu,?_⟩
    rw[if_pos q8]at hur
    rw[if_pos q9]
    exact regC_rel hs hD at_j out (q11 x y hx hy) fun z hz=>by subst hz;exact hur
  ·subst q1
   exact⟨q3.symm,.inl ⟨q2,rfl,rfl⟩⟩
 ·rcases get i li Bi e1 e3 with q0 | ⟨hi1,⟨k,lk,Bk,q1,q2,q3,q4,q5,q6,q7,q8,q9,q10⟩ | ⟨q1,q2⟩⟩
  ·omega
  ·rcases get j lj Bj e2 e4 with p0 | ⟨hj1,⟨k',lk',Bk',p1,p2,p3,p4,p5,p6,p7,p8,p9,p10⟩ | ⟨p1,p2⟩⟩
   ·omega
   ·subst q4 p4
    have:=hs.dist k k' lk lk' Bk Bk' b q2 p2 q3 p3 (by omega) (by omega) e7 e8
    subst this
    have:=injK_eq hi q1 p1
    omega
   ·subst p1;cases e8
  ·subst q1;cases e7
 ·obtain⟨l',h1,h2⟩:=hN.2 k l h
  have hk:k<pre.length:=Nat.lt_of_lt_of_le (List.getElem?_eq_some_iff.1 h).1 hm0
  exact⟨l',by rw[List.getElem?_append_left (by omega),List.getElem?_take_of_lt hk];exact h1,h2⟩
 ·rcases asg_mem tl t with e | e
  ·show VRel _ _ _ (asg tl t) _
   rw[e];trivial
  ·have e1:=allP_mem hl _ e
   have e2:VRel (Dof C.D0 ρ bl) w ρ (tm t) (a.tmps.getD t undef):=hf t
   show VRel _ _ _ (asg tl t) _
   generalize asg tl t=y at e1 ⊢
   have e1:regV pre.length bl ks (tm t) y:=e1
   have fin:∀ y:V,tm t=y/\y.clos=true->VRel (Dof C.D0 (ρ.take pre.length++ks.map (locK ρ)) (pre++xs.map gb)) w (ρ.take pre.length++ks.map (locK ρ)) y (a.tmps.getD t undef):=fun y h=>by
    rw[h.1]at e2
    exact(e2.clos h.2).step (Ext.refl _ _) (fun b _ hb=>hD b hb) (LocsLe.refl _)
   match y,e1 with
   | .c y,e1 =>
    exact regC_rel hs hD at_j out e1 fun x hx=>by
     have hx:tm t = .c x:=hx
     rw[hx]at e2
     exact e2
   | .g l,e1 =>
    rcases e1 with⟨h1,h2⟩ | ⟨l',h1,h2⟩
    ·exact fin _ ⟨h1,h2⟩
    ·rw[h1]at e2
     obtain⟨vs,h3,h4⟩:=e2
     exact⟨vs,h3,regL_rel hs hD at_j out h2 h4⟩
   | .t2 ..,e1=>exact fin _ e1
   | .t3 ..,e1=>exact fin _ e1
   | .t4 ..,e1=>exact fin _ e1
   | .un,e1=>exact fin _ e1
theorem Weak.gen {tm:Nat->V} {bl:List Blk} {tl:List (Nat × V)} {xs:List Gx} (ks:List (Option Nat)) (hi:injK ks=true) (hb:srcsG 0 bl ks ks xs) (hl:allP tl fun p=>regV 0 bl ks (tm p.1) p.2):Weak 0 ⟨tm,bl⟩ (gst tl xs) :=
 Weak.genG [] rfl rfl ks hi hb hl
theorem Weak.gen1 {tm:Nat->V} {bl:List Blk} {tl:List (Nat × V)} {xs:List Gx} (ks:List (Option Nat)) (h0:bl.take 1=[phB]) (hi:injK ks=true) (hb:srcsG 1 bl ks ks xs) (hl:allP tl fun p=>regV 1 bl ks (tm p.1) p.2):Weak 1 ⟨tm,bl⟩ (gst1 tl xs) :=
 Weak.genG [phB] h0 rfl ks hi hb hl
end Go.Proofs.YtibaocbpeaejkaaGreat
/- Types of the program, as a table; the program as an environment of abstract runs. -/
namespace Go.Proofs.YtibaocbpeaejkaaGreat
open Go.RowKit
theorem mixed:Tryz.prog.follows .mixedOrders=true:=by kernel_rfl
def tyTab:List (Nat × TI) :=
 (30,⟨true,2,[.bool false,.nil],32,[some (0,1),some (1,1)],none,none,3⟩) ::
 (120,⟨true,4,[.bool false,.nil,.bool false,.nil],64,[some (0,2),some (2,2)],none,none,0⟩) ::
 (28,⟨false,1,[.nil],24,[],some 73,none,0⟩) ::
 (73,⟨false,1,[.int .u32 0],4,[],none,some .u32,0⟩) ::
 (4,⟨false,1,[.bool false],1,[],none,none,1⟩) ::
 (3,⟨false,1,[.int .i64 0],8,[],none,some .i64,0⟩) ::
 (78,⟨false,1,[.nil],24,[],some 120,none,0⟩) ::
 (184,⟨false,1,[.nil],24,[],some 120,none,0⟩) ::
 (23,⟨false,1,[.nil],24,[],some 3,none,0⟩) ::
 (24,⟨false,1,[.nil],24,[],some 3,none,0⟩) ::
 (25,⟨false,1,[.int .i64 0],8,[],none,some .i64,0⟩) ::
 (71,⟨false,1,[.int .u64 0],8,[],none,some .u64,0⟩) ::
 (9,⟨false,1,[.str ⟨#[]⟩],16,[],none,none,2⟩) ::
 (140,⟨true,1,[.nil],24,[some (0,1)],none,none,3⟩) ::
 (189,⟨true,2,[.nil,.int .i64 0],32,[some (0,1),some (1,1)],none,none,3⟩) ::
 (43,⟨false,1,[.nil],24,[],some 30,none,0⟩) ::
 (44,⟨false,1,[.nil],24,[],some 30,none,0⟩) ::
 (79,⟨false,1,[.nil],24,[],some 120,none,0⟩) ::
 (74,⟨false,1,[.int .u64 0],8,[],none,some .u64,0⟩) ::
 (126,⟨false,1,[.nil],24,[],some 24,none,0⟩) ::
 (55,⟨true,2,[.nil,.int .i64 0],32,[some (0,1),some (1,1)],none,none,3⟩) ::
 (49,⟨false,1,[.nil],24,[],some 55,none,0⟩) ::
 []
def tyE (T:Nat):Option TI:=(tyTab.find? fun p=>p.1 == T).map (·.2)
theorem tyTab_ok:∀ p∈tyTab,tyOf Tryz.prog p.1=some p.2:=by
 unfold tyTab
 repeat (refine List.forall_mem_cons.2 ⟨by kernel_rfl,?_⟩)
 exact fun p h=>absurd h List.not_mem_nil
theorem tyE_ok (T:Nat) (ti:TI) (h:tyE T=some ti):tyOf Tryz.prog T=some ti:=by
 unfold tyE at h
 cases hf:tyTab.find? fun p=>p.1 == T with
 | none=>rw[hf]at h;cases h
 | some p =>
  rw[hf]at h
  have h1:=List.find?_some hf
  have h2:=tyTab_ok p (List.mem_of_find?_eq_some hf)
  simp at h h1
  rw[← h1,h2,h]
noncomputable def E1:Env:=⟨Tryz.prog,true,tyE,0⟩
noncomputable def E1m:Env:=⟨Tryz.prog,true,tyE,1⟩
noncomputable def E0:Env:=⟨Tryz.prog,false,tyE,0⟩
noncomputable def E0m:Env:=⟨Tryz.prog,false,tyE,1⟩
theorem E0m_ok:EnvOK E0m:=⟨tyE_ok⟩
theorem E1_ok:EnvOK E1:=⟨tyE_ok⟩
theorem E1m_ok:EnvOK E1m:=⟨tyE_ok⟩
theorem E0_ok:EnvOK E0:=⟨tyE_ok⟩
end Go.Proofs.YtibaocbpeaejkaaGreat
/- Package fpoly in abstract words: residues, primes, normal forms. -/
namespace Go.Proofs.YtibaocbpeaejkaaGreat
open Go.RowKit
namespace Fp
theorem subB {a b:Bool} (h:a=b):Sub (.c (.bool a)) (.c (.bool b)):=by subst h;exact Sub.refl _
theorem subI {k:IntKind} {a b:Int} (h:a=b):Sub (.c (.int k a)) (.c (.int k b)):=by subst h;exact Sub.refl _
theorem i64 {n:Int} (h1 : -9223372036854775808≤n) (h2:n<9223372036854775808):inR .i64 n:=⟨h1,h2⟩
def Pr (n:Int):Prop:=∀ d:Int,2≤d->d*d≤n->n%d≠0
theorem rem_eq {a b:Int} (h:0≤a):Int.tmod a b=a%b:=Int.tmod_eq_emod_of_nonneg h
theorem sq_lt {d:Nat} (h:d≤257):inR .i64 ((d:Int)*d):=by
 have:=Nat.mul_le_mul h h
 have e:((d*d:Nat):Int)=(d:Int)*d:=by simp
 exact i64 (by omega) (by omega)
theorem sq_le {d:Nat} {n:Int} (h2:n≤65521) (h:(d:Int)*d≤n):d≤255:=by
 rcases Nat.lt_or_ge d 256 with h3 | h3
 ·omega
 ·have:=Nat.mul_le_mul h3 h3
  have e:((d*d:Nat):Int)=(d:Int)*d:=by simp
  omega
open Classical in
set_option maxHeartbeats 4000000 in
theorem refPrime_ok {n:Int} (h1:2≤n) (h2:n≤65521):FnOK Tryz.prog false 36 [.c (.int .i64 n)] (.c (.bool (decide (Pr n)))):=by
 refine fn_ok (E:=E0) E0_ok Tryz.func36 rfl mixed (by kernel_rfl) (by kernel_rfl) ?_
 conv=>whnf
 refine loop_ints (fun d:Nat=>ist [(0,.c (.int .i64 n)),(3,.c (.int .i64 d))] []) (fun d=>300-d) (fun d=>2≤d/\d≤257/\∀ e:Int,2≤e->e<d->n%e≠0) 2 rfl (Weak.ints [] rfl trivial ⟨⟨_,rfl,rfl⟩,⟨_,rfl,rfl⟩,trivial⟩) ⟨by omega,by omega,fun e h1 h2=>by omega⟩ fun d ⟨hd,hd2,hp⟩=>?_
 conv=>whnf
 refine⟨sq_lt hd2,?_⟩
 conv=>whnf
 refine bcase (fun(hle:decide ((d:Int)*d≤n)=true)=>?_) fun(h:decide ((d:Int)*d≤n)=false)=>?_
 ·have hle:=of_decide_eq_true hle
  have h3:=sq_le h2 hle
  conv=>whnf
  refine⟨by omega,?_⟩
  conv=>whnf
  refine bcase (fun(h:decide (Int.tmod n d=0)=true)=>?_) fun(h:decide (Int.tmod n d=0)=false)=>?_
  ·have h:=of_decide_eq_true h
   conv=>whnf
   refine⟨rfl,subB (Eq.symm (decide_eq_false fun hP=>hP d (by omega) hle (by rw[← rem_eq (by omega)];exact h)))⟩
  ·have h:=of_decide_eq_false h
   conv=>whnf
   refine⟨i64 (by omega) (by omega),?_⟩
   conv=>whnf
   refine⟨d+1,by omega,Weak.ints [] rfl trivial ⟨⟨_,rfl,rfl⟩,⟨_,rfl,by omega⟩,trivial⟩,by omega,by omega,fun e h4 h5=>?_⟩
   by_cases h6:e=d
   ·subst h6;rw[← rem_eq (by omega)];exact h
   ·exact hp e h4 (by omega)
 ·have h:=of_decide_eq_false h
  conv=>whnf
  refine⟨rfl,subB ?_⟩
  show decide (1<n)=_
  rw[decide_eq_true (by omega:1<n),eq_comm,decide_eq_true_iff]
  intro e h4 h5
  refine hp e h4 ?_
  rcases Int.lt_or_le e d with h6 | h6
  ·exact h6
  ·have:=Int.mul_le_mul h6 h6 (by omega) (by omega)
   omega
open Classical in
set_option maxHeartbeats 4000000 in
theorem prime_ok {n:Int} (h1:2≤n) (h2:n≤65521):FnOK Tryz.prog false 116 [.c (.int .i64 n)] (.c (.bool (decide (Pr n)))):=by
 refine fn_ok (E:=E0) E0_ok Tryz.func116 rfl mixed (by kernel_rfl) (by kernel_rfl) ?_
 conv=>whnf
 refine bneg (show decide (n<2)=false by simpa using h1) ?_
 conv=>whnf
 refine loop_ints (fun d:Nat=>ist [(0,.c (.int .i64 n)),(3,.c (.int .i64 d))] []) (fun d=>300-d) (fun d=>2≤d/\d≤257/\∀ e:Int,2≤e->e<d->n%e≠0) 2 rfl (Weak.ints [] rfl trivial ⟨⟨_,rfl,rfl⟩,⟨_,rfl,rfl⟩,trivial⟩) ⟨by omega,by omega,fun e h1 h2=>by omega⟩ fun d ⟨hd,hd2,hp⟩=>?_
 conv=>whnf
 refine⟨sq_lt hd2,?_⟩
 conv=>whnf
 refine bcase (fun(hle:decide ((d:Int)*d≤n)=true)=>?_) fun(h:decide ((d:Int)*d≤n)=false)=>?_
 ·have hle:=of_decide_eq_true hle
  have h3:=sq_le h2 hle
  conv=>whnf
  refine⟨by omega,?_⟩
  conv=>whnf
  refine bcase (fun(h:decide (Int.tmod n d=0)=true)=>?_) fun(h:decide (Int.tmod n d=0)=false)=>?_
  ·have h:=of_decide_eq_true h
   conv=>whnf
   refine⟨rfl,subB (Eq.symm (decide_eq_false fun hP=>hP d (by omega) hle (by rw[← rem_eq (by omega)];exact h)))⟩
  ·have h:=of_decide_eq_false h
   conv=>whnf
   refine⟨i64 (by omega) (by omega),?_⟩
   conv=>whnf
   refine⟨d+1,by omega,Weak.ints [] rfl trivial ⟨⟨_,rfl,rfl⟩,⟨_,rfl,by omega⟩,trivial⟩,by omega,by omega,fun e h4 h5=>?_⟩
   by_cases h6:e=d
   ·subst h6;rw[← rem_eq (by omega)];exact h
   ·exact hp e h4 (by omega)
 ·have h:=of_decide_eq_false h
  conv=>whnf
  refine⟨rfl,subB ?_⟩
  show true=_
  rw[eq_comm,decide_eq_true_iff]
  intro e h4 h5
  refine hp e h4 ?_
  rcases Int.lt_or_le e d with h6 | h6
  ·exact h6
  ·have:=Int.mul_le_mul h6 h6 (by omega) (by omega)
   omega
def md (p:Int):Prop:=2≤p/\p≤65521/\Pr p
set_option maxHeartbeats 4000000 in
theorem isPrime_ok {n:Int} (h1:2≤n) (h2:n≤65521):FnOK Tryz.prog false 71 [.c (.int .i64 n)] (.t2 (.c (.bool (@decide (Pr n) (Classical.propDecidable _)))) (.c (.int .i64 0))):=by
 refine fn_ok (E:=E0) E0_ok Tryz.func71 rfl mixed (by kernel_rfl) (by kernel_rfl) ?_
 conv=>whnf
 refine bneg (show decide (2147483647<n)=false by simp;omega) ?_
 conv=>whnf
 refine⟨_,prime_ok h1 h2,?_⟩
 conv=>whnf
 exact⟨rfl,Sub.refl _⟩
set_option maxHeartbeats 4000000 in
theorem modulus_ok {p:Int} (h:md p):FnOK Tryz.prog false 27 [.c (.int .i64 p)] (.c (.int .i64 0)):=by
 obtain⟨h1,h2,h3⟩:=h
 refine fn_ok (E:=E0) E0_ok Tryz.func27 rfl mixed (by kernel_rfl) (by kernel_rfl) ?_
 conv=>whnf
 refine bpos (show gw false (decide (p<2))=true by simp[gw];omega) ?_
 conv=>whnf
 refine bneg (show decide (65521<p)=false by simp;omega) ?_
 conv=>whnf
 refine⟨_,isPrime_ok h1 h2,?_⟩
 conv=>whnf
 refine bneg (show(!@decide (Pr p) (Classical.propDecidable _))=false by simpa using h3) ?_
 conv=>whnf
 exact⟨rfl,Sub.refl _⟩
open Classical in
set_option maxHeartbeats 4000000 in
theorem refModulus_ok {p:Int}:FnOK Tryz.prog false 8 [.c (.int .i64 p)] (.c (.bool (decide (md p)))):=by
 refine fn_ok (E:=E0) E0_ok Tryz.func8 rfl mixed (by kernel_rfl) (by kernel_rfl) ?_
 conv=>whnf
 refine bcase (fun(h1:decide (2≤p)=true)=>?_) fun(h1:decide (2≤p)=false)=>?_
 ·have h1:=of_decide_eq_true h1
  conv=>whnf
  refine bcase (fun(h2:decide (p≤65521)=true)=>?_) fun(h2:decide (p≤65521)=false)=>?_
  ·have h2:=of_decide_eq_true h2
   conv=>whnf
   refine⟨_,refPrime_ok h1 h2,?_⟩
   conv=>whnf
   exact⟨rfl,subB (by simp[md,h1,h2])⟩
  ·have h2:=of_decide_eq_false h2
   conv=>whnf
   exact⟨rfl,subB (Eq.symm (decide_eq_false fun h=>h2 h.2.1))⟩
 ·have h1:=of_decide_eq_false h1
  conv=>whnf
  exact⟨rfl,subB (Eq.symm (decide_eq_false fun h=>h1 h.1))⟩
theorem tmod_bounds {a p:Int} (hp:0<p) : -p<Int.tmod a p/\Int.tmod a p<p:=by
 have h1:=Int.natAbs_tmod a p
 have h2:a.natAbs%p.natAbs<p.natAbs:=Nat.mod_lt _ (by omega)
 omega
theorem tmod_neg {a p:Int} (hp:0<p) (h:Int.tmod a p<0):Int.tmod a p+p=a%p:=by
 have:=Int.tmod_eq_emod (a:=a) (b:=p)
 split at this
 ·have:=Int.emod_nonneg a (by omega:p≠0);omega
 ·omega
theorem tmod_pos {a p:Int} (hp:0<p) (h:¬ Int.tmod a p<0):Int.tmod a p=a%p:=by
 have:=Int.tmod_eq_emod (a:=a) (b:=p)
 have h2:=Int.emod_lt_of_pos a hp
 split at this
 ·omega
 ·omega
set_option maxHeartbeats 4000000 in
theorem residue_ok {a p:Int} (hp:0<p) (hp2:p≤65521):FnOK Tryz.prog false 115 [.c (.int .i64 a),.c (.int .i64 p)] (.c (.int .i64 (a%p))):=by
 refine fn_ok (E:=E0) E0_ok Tryz.func115 rfl mixed (by kernel_rfl) (by kernel_rfl) ?_
 have hb:=tmod_bounds (a:=a) hp
 conv=>whnf
 refine⟨by omega,?_⟩
 conv=>whnf
 refine bcase (fun(h1:decide (Int.tmod a p<0)=true)=>?_) fun(h1:decide (Int.tmod a p<0)=false)=>?_
 ·have h1:=of_decide_eq_true h1
  conv=>whnf
  refine⟨i64 (by omega) (by omega),?_⟩
  conv=>whnf
  exact⟨rfl,subI (tmod_neg hp h1)⟩
 ·have h1:=of_decide_eq_false h1
  conv=>whnf
  exact⟨rfl,subI (tmod_pos hp h1)⟩
set_option maxHeartbeats 4000000 in
theorem refMod_ok {a p:Int} (hp:0<p) (hp2:p≤65521):FnOK Tryz.prog false 100 [.c (.int .i64 a),.c (.int .i64 p)] (.c (.int .i64 (a%p))):=by
 refine fn_ok (E:=E0) E0_ok Tryz.func100 rfl mixed (by kernel_rfl) (by kernel_rfl) ?_
 have hb:=tmod_bounds (a:=a) hp
 conv=>whnf
 refine⟨by omega,?_⟩
 conv=>whnf
 refine bcase (fun(h1:decide (Int.tmod a p<0)=true)=>?_) fun(h1:decide (Int.tmod a p<0)=false)=>?_
 ·have h1:=of_decide_eq_true h1
  conv=>whnf
  refine⟨i64 (by omega) (by omega),?_⟩
  conv=>whnf
  exact⟨rfl,subI (tmod_neg hp h1)⟩
 ·have h1:=of_decide_eq_false h1
  conv=>whnf
  exact⟨rfl,subI (tmod_pos hp h1)⟩
def tl (a : Nat → Int) : Nat → Nat
 | 0=>0
 | n+1=>if a n=0 then tl a n else n+1
set_option maxHeartbeats 4000000 in
theorem trimmed_ok {n:Nat} {a:Nat->Int} (hn:n≤1048576):FnOK Tryz.prog false 114 [.c (il n a)] (.c (il (tl a n) a)):=by
 refine fn_ok (E:=E0) E0_ok Tryz.func114 rfl mixed (by kernel_rfl) (by kernel_rfl) ?_
 conv=>whnf
 refine loop_ints (fun m:Nat=>ist [(0,.c (il m a))] []) (fun m=>m) (fun m=>m≤n/\tl a m=tl a n) n rfl (Weak.ints [] rfl trivial ⟨⟨_,_,rfl,rfl,fun _ _ _ _=>rfl⟩,trivial⟩) ⟨by omega,rfl⟩ fun m ⟨hm,ht⟩=>?_
 conv=>whnf
 refine bcase (fun(h:gw true (decide ((0:Int)<m))=true)=>?_) fun(h:gw true (decide ((0:Int)<m))=false)=>?_
 ·have h:=of_decide_eq_true (gw_true.1 h)
  obtain⟨k,rfl⟩:∃ k,m=k+1:=⟨m-1,by omega⟩
  have ek:(((k+1:Nat):Int)-1).toNat=k:=by omega
  conv=>whnf
  refine⟨i64 (by omega) (by omega),?_⟩
  conv=>whnf
  refine⟨by omega,by omega,?_⟩
  conv=>whnf
  refine bcase (fun(h1:decide (a (((k+1:Nat):Int)-1).toNat=0)=true)=>?_) fun(h1:decide (a (((k+1:Nat):Int)-1).toNat=0)=false)=>?_
  ·have h1:=of_decide_eq_true h1
   rw[ek]at h1
   conv=>whnf
   refine⟨i64 (by omega) (by omega),?_⟩
   conv=>whnf
   refine⟨by omega,by omega,?_⟩
   conv=>whnf
   refine⟨by omega,?_⟩
   conv=>whnf
   refine⟨k,by omega,Weak.ints [] rfl trivial ⟨⟨_,_,rfl,?_,fun i j hi hj=>?_⟩,trivial⟩,by omega,by rw[← ht];simp[tl,h1]⟩
   ·omega
   ·show Cell.int .i64 (a (Int.toNat 0+i))=_
    rw[show Int.toNat 0+i=i by omega]
  ·have h1:=of_decide_eq_false h1
   rw[ek]at h1
   conv=>whnf
   exact⟨rfl,subRow (by rw[← ht];simp[tl,h1]) fun _ _=>rfl⟩
 ·have h:¬(0:Int)<m:=of_decide_eq_false (gw_false.1 h)
  obtain rfl:m=0:=by omega
  conv=>whnf
  exact⟨rfl,subRow (by rw[← ht];rfl) fun _ _=>rfl⟩
theorem tl_congr {a b : Nat → Int} : ∀ {n : Nat}, (∀ i, i < n → a i = b i) → tl a n = tl b n
 | 0,_=>rfl
 | n+1,h=>by
  unfold tl
  rw[h n (by omega),tl_congr fun i hi=>h i (by omega)]
theorem tl_le (a : Nat → Int) : ∀ n, tl a n ≤ n
 | 0=>Nat.le_refl _
 | n+1=>by
  unfold tl
  split
  ·exact Nat.le_succ_of_le (tl_le a n)
  ·exact Nat.le_refl _
def nf (p:Int) (n:Nat) (a:Nat->Int) (i:Nat):Int:=if i<n then a i%p else 0
theorem nf_succ (p:Int) (i:Nat) (a:Nat->Int) (j:Nat):(if j=i then a i%p else nf p i a j)=nf p (i+1) a j:=by
 unfold nf
 by_cases e:j=i
 ·subst e;simp
 ·rw[if_neg e]
  by_cases e2:j<i
  ·rw[if_pos e2,if_pos (by omega)]
  ·rw[if_neg e2,if_neg (by omega)]
set_option maxHeartbeats 4000000 in
theorem normal_ok {p:Int} {n:Nat} {a:Nat->Int} (hp:0<p) (hp2:p≤65521) (hn:n≤1048576):FnOK Tryz.prog false 70 [.c (.int .i64 p),.c (il n a)] (.c (il (tl (nf p n a) n) (nf p n a))):=by
 refine fn_ok (E:=E0) E0_ok Tryz.func70 rfl mixed (by kernel_rfl) (by kernel_rfl) ?_
 conv=>whnf
 refine⟨by omega,by omega,by omega,by show((8:Nat):Int)*(n:Int)≤_;omega,?_⟩
 conv=>whnf
 refine loop_ints (fun i:Nat=>ist [(0,.c (.int .i64 p)),(5,.c (.gs 0 0)),(11,.c (il n a)),(12,.c (.int .i64 n)),(13,.c (.int .i64 i))] [(3,n,nf p i a)]) (fun i=>n-i) (fun i=>i≤n) 0 rfl (Weak.ints [some 0] rfl ⟨⟨_,rfl,rfl,rfl,rfl,rfl,fun i hi=>?_⟩,trivial⟩ ⟨⟨_,rfl,rfl⟩,⟨_,rfl,rfl,rfl⟩,⟨_,_,rfl,rfl,fun _ _ _ _=>rfl⟩,⟨_,rfl,rfl⟩,⟨_,rfl,rfl⟩,trivial⟩) (Nat.zero_le _) fun i hi=>?_
 ·exact congrArg (Cell.int .i64) (show(0:Int)=nf p 0 a i by simp[nf])
 conv=>whnf
 refine bcase (fun(h:decide ((i:Int)<n)=true)=>?_) fun(h:decide ((i:Int)<n)=false)=>?_
 ·have h:=of_decide_eq_true h
  conv=>whnf
  refine⟨by omega,?_⟩
  conv=>whnf
  refine⟨by omega,?_⟩
  conv=>whnf
  refine⟨_,residue_ok (a:=a i) hp hp2,?_⟩
  conv=>whnf
  refine⟨by omega,?_⟩
  conv=>whnf
  refine⟨by show((i:Nat):Int)<(n:Int);omega,?_⟩
  conv=>whnf
  refine⟨i64 (by omega) (by omega),?_⟩
  conv=>whnf
  refine⟨i+1,by omega,Weak.ints [some 0] rfl ⟨⟨_,rfl,rfl,rfl,rfl,rfl,fun j hj=>?_⟩,trivial⟩ ⟨⟨_,rfl,rfl⟩,⟨_,rfl,rfl,rfl⟩,⟨_,_,rfl,rfl,fun _ _ _ _=>rfl⟩,⟨_,rfl,rfl⟩,⟨_,rfl,rfl⟩,trivial⟩,by omega⟩
  refine updI ?_
  exact nf_succ p i a j
 ·have h:=of_decide_eq_false h
  obtain rfl:i=n:=by omega
  conv=>whnf
  refine⟨fun _ _ _ _=>rfl,?_⟩
  conv=>whnf
  refine⟨_,trimmed_ok (n:=i) (a:=nf p i a) hn,?_⟩
  conv=>whnf
  exact⟨rfl,Sub.refl _⟩
end Fp
end Go.Proofs.YtibaocbpeaejkaaGreat
