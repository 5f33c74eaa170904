/- Abstract states through code: what a function hands back. -/
import Derived.Test.YtkmbnldginonbaaGreatPo4
import Derived.Deep.LoopGhost
import Derived.Test.YtkmbnldginonbaaGreatProg
import Derived.KernelRfl
namespace Go.Proofs.YtkmbnldginonbaaGreat
open Go.RowKit
def dstB (N:Nat) (o:Oper):Bool:=match o.dst with
 | some d=>decide (d<N)
 | none=>true
def x9 (N : Nat) : Code → Bool
 | .region _ ops draw=>ops.toList.all (dstB N)&&(!draw||drawB ops)
 | .seq a b=>x9 N a&&x9 N b
 | .cond _ a b=>x9 N a&&x9 N b
 | .block _ c=>x9 N c
 | .loop c=>x9 N c
 | .skip | .exit _ | .ret | .label _=>true
 | _=>false
def adraw (E:Env) (ops:Array Oper) (σ:St) (K:St->Prop):Prop :=
 VP E ops σ.bl.length ops.toList 0 { σ with bl:=σ.bl++List.replicate (Ux ops.toList) phB } K
def Weak (m0:Nat) (σ σ':St):Prop:=∀ C a w,C.ρ0.length<=m0->Rel C σ a w->Rel C σ' a w
theorem Weak.refl {m0:Nat} (σ:St):Weak m0 σ σ:=fun _ _ _ _ h=>h
def seqR (K:St->Prop) (R:Exit->St->Prop) (e:Exit) (σ:St):Prop:=match e with
 | .normal=>K σ
 | e=>R e σ
def blockR (id:Nat) (R:Exit->St->Prop) (e:Exit) (σ:St):Prop:=match e with
 | .exit i=>if i=id then R .normal σ else R (.exit i) σ
 | e=>R e σ
def awp (E : Env) : Code → St → (Exit → St → Prop) → Prop
 | .skip,σ,R=>R .normal σ
 | .region _ ops draw,σ,R=>if draw then adraw E ops σ (R .normal)else aops E ops ops.toList σ (R .normal)
 | .seq a b,σ,R=>awp E a σ (seqR (fun σ'=>awp E b σ' R) R)
 | .cond c x y,σ,R=>match σ.ev c with
  | .c (.bool b)=>cs b (awp E x σ R) (awp E y σ R)
  | _=>False
 | .block id c,σ,R=>awp E c σ (blockR id R)
 | .exit id,σ,R=>R (.exit id) σ
 | .ret,σ,R=>R .ret σ
 | .label _,σ,R=>R .normal σ
 | .loop c,σ,R=>∃(I:Nat->St->Prop) (n0:Nat),(∃ σ0,Weak E.m0 σ σ0/\I n0 σ0)/\∀ n σ',I n σ'->∃ K,awp E c σ' (seqR K R)/\∀ σ2,K σ2->∃ n',n'<n/\∃ σ3,Weak E.m0 σ2 σ3/\I n' σ3
 | _,_,_=>False
theorem Rel.ext {C:Ctx} {σ:St} {a:Act} {w w':World} (h:Rel C σ a w) (hb:Below w.heap.size w w'):Rel C σ a w':=by
 obtain⟨ρ,hs,hN,hdf,hf⟩:=h;exact⟨ρ,hs.ext hb,hN,hdf,yY (Ext.of_below hb) (fun _ _ x=>x) (LocsLe.refl _) hf⟩
theorem Rel.ph {C : Ctx} {σ : St} {a : Act} {w : World} (h : Rel C σ a w) : ∀ n, ∃ ρ, Sat C.D0 C.w0 C.r ρ (σ.bl ++ List.replicate n phB) w ∧ (∀ t, VRel (Dof C.D0 ρ (σ.bl ++ List.replicate n phB)) w ρ (σ.tm t) (a.tmps.getD t undef)) ∧ LocsLe C.ρ0 ρ ∧ ∀ j, j < n → ρ[σ.bl.length + j]? = some phL
 | 0=>by
  obtain⟨ρ,hs,hN,_,hf⟩:=h;exact⟨ρ,by simpa using hs,by simpa using hf,hN.2,fun j hj=>by omega⟩
 | n+1=>by
  obtain⟨ρ,hs,hf,hle,hp⟩:=Rel.ph h n;obtain⟨h1,h2⟩:=hs.ph;have he:σ.bl++List.replicate (n+1) phB=(σ.bl++List.replicate n phB)++[phB]:=by
   rw[List.replicate_succ',List.append_assoc]
  rw[he];have hl:ρ.length=σ.bl.length+n:=by have:=hs.len;simpa using this
  refine⟨ρ++[phL],h1,fun t=>(hf t).step (Ext.refl _ _) (fun b _ hb=>(h2 b).1 hb) (LocsLe.append _ _),hle.trans (LocsLe.append _ _),fun j hj=>?_⟩;rcases Nat.lt_or_ge j n with h3 | h3
  ·rw[List.getElem?_append_left (by omega)];exact hp j h3
  ·rw[List.getElem?_append_right (by omega),show σ.bl.length+j-ρ.length=0 by omega];rfl
theorem adraw_sound {E:Env} (hE:EnvOK E) {C:Ctx} (hC:C.r=E.r) {ops:Array Oper} {id:Nat} {Q:Exit->Act->World->Prop} {K:St->Prop} (hm:E.P.follows .mixedOrders=true) (hQ:∀ σ a w,K σ->Rel C σ a w->Q .normal a w) {σ:St} {a:Act} {w:World} (hd:ops.toList.all (dstB C.N)=true) (hb:drawB ops=true) (h:adraw E ops σ K) (hr:Rel C σ a w):(Code.region id ops true).wp E.P Q a w:=by
 have hdst:∀ o∈ops.toList,yX C.N o.dst:=by
  intro o ho d hd';have:=List.all_eq_true.1 hd o ho;unfold dstB at this;rw[hd']at this;simpa using this
 refine wp_region_any hm ?_;have hr':Rel C σ a { w with drawn:=w.drawn+1 }:=hr.ext ⟨rfl,rfl,rfl,Nat.le_refl _,fun _ _=>rfl⟩;obtain⟨ρ,hs,hf,hle,hp⟩:=Rel.ph hr' (Ux ops.toList);obtain⟨_,_,hN,hdf,_⟩:=hr';obtain⟨sts,vs,ub,h0,hK,hc⟩:=ahead_chain hE _ _ _ h;rw[<- hC]at hc;have hl0:∀ j,j<ops.size->(Array.replicate ops.size false).getD j false=false:=fun j hj=>by simp[Array.getD,hj]
 have hln:∀ j,(Array.replicate ops.size false).getD j false≠true:=fun j h=>by simp[Array.getD]at h
 have hph:∀ j,j<Ux ops.toList->(σ.bl++List.replicate (Ux ops.toList) phB)[σ.bl.length+j]? = some phB:=fun j hj=>by
  rw[List.getElem?_append_right (by omega),show σ.bl.length+j-σ.bl.length=j by omega,List.getElem?_replicate,if_pos hj]
 refine any_sound (drawB_ok hb) hc (m:=Ux ops.toList) (fun j hj=>by rw[h0];exact hph j hj) (fun i o ho hfo=>freshN_lt _ i o (by simpa using ho) hfo) hdst (fun a w hrel=>hQ _ a w (by simpa using hK) hrel) ops.size (Array.replicate ops.size false) ρ _ a _ (left_none _ (Nat.le_refl _)).symm (by simp) ⟨hs,⟨hN.1,hle⟩,hdf,by rw[h0],fun i o _ hl=>absurd hl (hln i),fun t _=>by rw[h0];exact hf t,fun j oj hl=>absurd hl (hln j),fun j hj _ _=>⟨phL,phB,hp j hj,rfl,hph j hj,rfl,rfl⟩,fun j f B hl=>absurd hl (hln j),fun M k hM hcond=>?_⟩;have:(sts M).bl[k]? = (sts 0).bl[k]? := hc.still M 0 (Nat.zero_le _) hM fun j B _ hjM hu=>hln j ((hcond j B (by omega) hu).2 hjM);rw[this,h0]
theorem jJ {E : Env} (hE : EnvOK E) {C : Ctx} (hC : C.r = E.r) (hC0 : C.ρ0.length ≤ E.m0) (hm : E.P.follows .mixedOrders = true) : ∀ (c : Code) {R : Exit → St → Prop} {σ : St} {a : Act} {w : World}, x9 C.N c = true → awp E c σ R → Rel C σ a w → c.wp E.P (QR C R) a w
 | .skip,R,σ,a,w,_,h,hr=>wp_skip ⟨σ,hr,h⟩
 | .region id ops draw,R,σ,a,w,hc,h,hr=>by
  simp only[x9,Bool.and_eq_true]at hc;simp only[awp]at h;cases draw with
  | true =>
   simp only[if_true]at h;exact adraw_sound hE hC hm (fun σ a w hk hrel=>⟨σ,hrel,hk⟩) hc.1 (by simpa using hc.2) h hr
  | false =>
   simp only[Bool.false_eq_true,if_false]at h;refine wp_region_list (aops_sound hE hC (fun σ a w hk hrel=>⟨σ,hrel,hk⟩) ops.toList σ a w (fun o ho d hd'=>?_) h hr);have:=List.all_eq_true.1 hc.1 o ho;unfold dstB at this;rw[hd']at this;simpa using this
 | .seq x y,R,σ,a,w,hc,h,hr=>by
  simp only[x9,Bool.and_eq_true]at hc;simp only[awp]at h;refine wp_seq (wp_mono (jJ hE hC hC0 hm x hc.1 h hr) ?_);rintro e a' w' ⟨σ',hrel,hk⟩;cases e with
  | normal=>exact jJ hE hC hC0 hm y hc.2 hk hrel
  | _=>exact⟨σ',hrel,hk⟩
 | .cond c x y,R,σ,a,w,hc,h,hr=>by
  simp only[x9,Bool.and_eq_true]at hc;simp only[awp]at h;split at h
  ·rename_i b hb;have h:=cs_iff.1 h;have he:a.eval c = .bool b:=by
    obtain⟨ρ,hs,hN,hdf,hf⟩:=hr;have:=kX hf c;rw[hb]at this;exact this
   refine wp_cond_split he (fun e=>jJ hE hC hC0 hm x hc.1 (h.1 e) hr) (fun e=>jJ hE hC hC0 hm y hc.2 (h.2 e) hr)
  ·exact h.elim
 | .block id c,R,σ,a,w,hc,h,hr=>by
  simp only[x9]at hc;simp only[awp]at h;refine wp_block (wp_mono (jJ hE hC hC0 hm c hc h hr) ?_);rintro e a' w' ⟨σ',hrel,hk⟩;cases e with
  | exit i =>
   simp only[blockR]at hk;simp only[Exit.inBlock];split
   ·rename_i e;rw[if_pos e]at hk;exact⟨σ',hrel,hk⟩
   ·rename_i e;rw[if_neg e]at hk;exact⟨σ',hrel,hk⟩
  | _=>exact⟨σ',hrel,hk⟩
 | .exit id,R,σ,a,w,_,h,hr=>wp_exit ⟨σ,hr,h⟩
 | .ret,R,σ,a,w,_,h,hr=>wp_ret ⟨σ,hr,h⟩
 | .label l,R,σ,a,w,_,h,hr=>wp_label ⟨σ,hr,h⟩
 | .loop c,R,σ,a,w,hc,h,hr=>by
  simp only[x9]at hc;simp only[awp]at h;obtain⟨I,n0,⟨σ0,hw,h0⟩,hround⟩:=h;refine wp_loop_ghost (fun n a w=>∃ σ,Rel C σ a w/\I n σ) n0 ⟨σ0,hw _ _ _ hC0 hr,h0⟩ ?_;rintro n a w ⟨σ',hrel,hI⟩;obtain⟨K,hrd,hK⟩:=hround n σ' hI;refine wp_mono (jJ hE hC hC0 hm c hc hrd hrel) ?_;rintro e a' w' ⟨σ2,hrel2,hk⟩;cases e with
  | normal =>
   obtain⟨n',hlt,σ3,hw3,hI3⟩:=hK σ2 hk;exact⟨n',hlt,σ3,hw3 _ _ _ hC0 hrel2,hI3⟩
  | _=>exact⟨σ2,hrel2,hk⟩
 | .rangeFunc ..,_,_,_,_,_,h,_=>h.elim
 | .scope _,_,_,_,_,_,h,_=>h.elim
 | .goto _,_,_,_,_,_,h,_=>h.elim
 | .refuse _,_,_,_,_,_,h,_=>h.elim
theorem gg {E:Env} {c:Code} {σ:St} {R:Exit->St->Prop} (I:Nat->St->Prop) (n0:Nat) (h0:∃ σ0,Weak E.m0 σ σ0/\I n0 σ0) (hr:∀ n σ',I n σ'->awp E c σ' (seqR (fun σ2=>∃ n',n'<n/\∃ σ3,Weak E.m0 σ2 σ3/\I n' σ3) R)):awp E (.loop c) σ R :=
 ⟨I,n0,h0,fun n σ' h=>⟨_,hr n σ' h,fun _ h=>h⟩⟩
def rn (E : Env) (c : Code) (R : Exit → St → Prop) : Nat → St → Prop
 | 0,_=>False
 | n+1,σ=>awp E c σ (seqR (rn E c R n) R)
def asg : List (Nat × V) → Nat → V
 | [],_ => .c .any
 | (k,v) :: l,t=>if t=k then v else asg l t
theorem asg_mem : ∀ (l : List (Nat × V)) (t : Nat), asg l t = .c .any ∨ (t, asg l t) ∈ l
 | [],_ => .inl rfl
 | (k,v) :: l,t=>by
  simp only[asg];split
  ·rename_i e;subst e;exact .inr (by simp)
  ·rcases asg_mem l t with h | h
   ·exact .inl h
   ·exact .inr (by simp[h])
def Vp {α : Type} : List α → (α → Prop) → Prop
 | [],_=>True
 | x :: l,p=>p x/\Vp l p
theorem U4 {α : Type} {p : α → Prop} : ∀ {l : List α}, Vp l p → ∀ x ∈ l, p x
 | [],_,x,hx=>by simp at hx
 | y :: l,h,x,hx=>by
  rcases List.mem_cons.1 hx with e | e
  ·subst e;exact h.1
  ·exact U4 h.2 x e
def V.lt (m : Nat) : V → Bool
 | .c x=>x.lt m
 | .g l=>l.all (Cell.lt m)
 | .t2 a b=>a.lt m&&b.lt m
 | .t3 a b d=>a.lt m&&(b.lt m&&d.lt m)
 | .t4 a b d e=>a.lt m&&(b.lt m&&(d.lt m&&e.lt m))
 | .un=>true
theorem CRels.cut {D : Nat → Prop} {w : World} {ρ : List Loc} {m : Nat} : ∀ {l : List Cell} {vs : List Value}, CRels D w ρ l vs → l.all (Cell.lt m) = true → CRels D w (ρ.take m) l vs
 | [],[],_,_=>trivial
 | _ :: _,_ :: _,h,hc=>by
  simp only[List.all_cons,Bool.and_eq_true]at hc;exact⟨CRel.take h.1 hc.1,CRels.cut h.2 hc.2⟩
 | [],_ :: _,h,_=>h.elim
 | _ :: _,[],h,_=>h.elim
theorem VRel.take {D : Nat → Prop} {w : World} {ρ : List Loc} {m : Nat} : ∀ {x : V} {v : Value}, VRel D w ρ x v → x.lt m = true → VRel D w (ρ.take m) x v
 | .c _,_,h,hc=>CRel.take h hc
 | .g _,_,h,hc=>by obtain⟨vs,h1,h2⟩:=h;exact⟨vs,h1,CRels.cut h2 hc⟩
 | .t2 _ _,_,h,hc=>by
  simp only[V.lt,Bool.and_eq_true]at hc;obtain⟨x,y,h1,h2,h3⟩:=h;exact⟨x,y,h1,h2.take hc.1,h3.take hc.2⟩
 | .t3 _ _ _,_,h,hc=>by
  simp only[V.lt,Bool.and_eq_true]at hc;obtain⟨x,y,z,h1,h2,h3,h4⟩:=h;exact⟨x,y,z,h1,h2.take hc.1,h3.take hc.2.1,h4.take hc.2.2⟩
 | .t4 _ _ _ _,_,h,hc=>by
  simp only[V.lt,Bool.and_eq_true]at hc;obtain⟨x,y,z,u,h1,h2,h3,h4,h5⟩:=h;exact⟨x,y,z,u,h1,h2.take hc.1,h3.take hc.2.1,h4.take hc.2.2.1,h5.take hc.2.2.2⟩
 | .un,_,h,_=>h
theorem Weak.cut {m0:Nat} {σ:St} {tl:List (Nat × V)} {bl':List Blk} (hb:σ.bl.take bl'.length=bl') (hl:Vp tl fun p=>σ.tm p.1=p.2) (hlt:(tl.all fun p=>p.2.lt bl'.length)=true) (hcl:Vp bl' fun B=>B.st=0->∀ i j,i<B.n->j<B.sz->(B.f i j).lt bl'.length=true) (hm:m0.ble bl'.length=true):Weak m0 σ ⟨asg tl,bl'⟩:=by
 rintro C a w hm0 ⟨ρ,hs,hN,hdf,hf⟩;have hm:=Nat.le_of_ble_eq_true hm;obtain⟨h1,h2⟩:=hs.take bl'.length fun k B hk hB=>U4 hcl B (by
  have:bl'[k]? = some B:=by rw[<- hb,List.getElem?_take_of_lt hk];exact hB
  exact List.mem_of_getElem? this)
 rw[hb]at h1 h2;refine⟨_,h1,⟨hN.1,hN.2.take (Nat.le_trans hm0 hm)⟩,hdf,fun t=>?_⟩;rcases asg_mem tl t with e | e
 ·show VRel _ _ _ (asg tl t) _;rw[e];trivial
 ·have e1:=U4 hl _ e;have e2:=List.all_eq_true.1 hlt _ e;have:=hf t;rw[e1]at this;exact(this.take e2).step (Ext.refl _ _) (fun x _ hx=>h2 x hx) (LocsLe.refl _)
theorem Weak.trans {m0:Nat} {a b c:St} (h:Weak m0 a b) (k:Weak m0 b c):Weak m0 a c:=fun C x w h0 hr=>k C x w h0 (h C x w h0 hr)
def Blk.alike (B B':Blk):Prop:=B'={ B with f:=B'.f }/\∀ i j,i<B.n->j<B.sz->B.f i j=B'.f i j
def alikes : List Blk → List Blk → Prop
 | [],[]=>True
 | B :: l,B' :: l'=>B.alike B'/\alikes l l'
 | _,_=>False
theorem Blk.alike.refl (B:Blk):B.alike B:=⟨rfl,fun _ _ _ _=>rfl⟩
theorem alikes_get : ∀ {l l' : List Blk}, alikes l l' → l'.length = l.length ∧ ∀ (k : Nat) (B' : Blk), l'[k]? = some B' → ∃ B, l[k]? = some B ∧ B.alike B'
 | [],[],_=>⟨rfl,fun k B' h=>by simp at h⟩
 | B :: l,B' :: l',h=>by
  obtain⟨h1,h2⟩:=alikes_get h.2;refine⟨by simp[h1],fun k B1 hB=>?_⟩;cases k with
  | zero=>simp at hB;subst hB;exact⟨B,rfl,h.1⟩
  | succ k=>exact h2 k B1 (by simpa using hB)
 | [],_ :: _,h=>h.elim
 | _ :: _,[],h=>h.elim
theorem Weak.alike {m0:Nat} {tm:Nat->V} {bl bl':List Blk} (h:alikes bl bl'):Weak m0 ⟨tm,bl⟩ ⟨tm,bl'⟩:=by
 rintro C a w _ ⟨ρ,hs,hN,hdf,hf⟩;obtain⟨hl,hg⟩:=alikes_get h;have hD:∀ b,Dof C.D0 ρ bl' b->Dof C.D0 ρ bl b:=by
  rintro b (hx | ⟨k,l,B',e1,e2,e3,e4⟩)
  ·exact .inl hx
  ·obtain⟨B,q1,q2,_⟩:=hg k B' e2;exact .inr ⟨k,l,B,e1,q1,by rw[q2]at e3;exact e3,e4⟩
 refine⟨ρ,⟨hs.below,hs.d0,by rw[hl];exact hs.len,fun k l B' e1 e2 hst=>?_,fun i j li lj Bi Bj b e1 e2 e3 e4 e5 e6 e7 e8=>?_,fun hr b o d hb=>hs.noU hr b o d (hD b hb)⟩,hN,hdf,fun t=>(hf t).step (Ext.refl _ _) (fun b _ hb=>hD b hb) (LocsLe.refl _)⟩
 ·obtain⟨B,q1,q2,q3⟩:=hg k B' e2;have h1:B'.st=B.st:=by rw[q2]
  have h2:B'.u=B.u:=by rw[q2]
  have h3:B'.n=B.n:=by rw[q2]
  have h4:B'.sz=B.sz:=by rw[q2]
  have h5:B'.t=B.t:=by rw[q2]
  obtain⟨g0,g1⟩:=(hs.at_ k l B e1 q1).step (Ext.refl _ _) (fun b _ hb=>hD b hb) (LocsLe.refl _) (fun _ _=>rfl) (by omega);rw[h1,h2,h3,h4,h5];refine⟨g0,?_⟩;rcases g1 with g1 | ⟨b,cap,cs,g2,g3,g4,g5,g6,g7,g8,g9⟩
  ·exact .inl g1
  ·refine .inr ⟨b,cap,cs,g2,g3,g4,g5,g6,g7,g8,fun i j hi hj=>?_⟩;rw[<- q3 i j hi hj];exact g9 i j hi hj
 ·obtain⟨B1,q1,q2,_⟩:=hg i Bi e3;obtain⟨B2,q3,q4,_⟩:=hg j Bj e4;exact hs.dist i j li lj B1 B2 b e1 e2 q1 q3 (by rw[q2]at e5;exact e5) (by rw[q4]at e6;exact e6) e7 e8
def refC (n:Nat) (c c':Cell):Prop:=c'=c∨(c = .nil/\c' = .gs n 0)
def Blk.nilLike (n:Nat) (B B':Blk):Prop:=B'={ B with f:=B'.f }/\(B.st≠0->B'.f=B.f)/\∀ i j,i<B.n->j<B.sz->refC n (B.f i j) (B'.f i j)
def nilLikes (n : Nat) : List Blk → List Blk → Prop
 | [],[]=>True
 | B :: l,B' :: l'=>B.nilLike n B'/\nilLikes n l l'
 | _,_=>False
theorem Blk.nilLike.refl (n:Nat) (B:Blk):B.nilLike n B:=⟨rfl,fun _=>rfl,fun _ _ _ _ => .inl rfl⟩
theorem nilLikes_get {n : Nat} : ∀ {l l' : List Blk}, nilLikes n l l' → l'.length = l.length ∧ ∀ (k : Nat) (B' : Blk), l'[k]? = some B' → ∃ B, l[k]? = some B ∧ B.nilLike n B'
 | [],[],_=>⟨rfl,fun k B' h=>by simp at h⟩
 | B :: l,B' :: l',h=>by
  obtain⟨h1,h2⟩:=nilLikes_get h.2;refine⟨by simp[h1],fun k B1 hB=>?_⟩;cases k with
  | zero=>simp at hB;subst hB;exact⟨B,rfl,h.1⟩
  | succ k=>exact h2 k B1 (by simpa using hB)
 | [],_ :: _,h=>h.elim
 | _ :: _,[],h=>h.elim
theorem Weak.nil {m0:Nat} {tm tm':Nat->V} {bl bl':List Blk} (e sz:Nat) (h:nilLikes bl.length bl bl') (ht:∀ t,tm' t=tm t∨(tm t = .c .nil/\tm' t = .c (.gs bl.length 0))):Weak m0 ⟨tm,bl⟩ ⟨tm',bl'++[⟨e,sz,0,0,0,fun _ _ => .any⟩]⟩:=by
 rintro C a w _ ⟨ρ,hs,hN,hdf,hf⟩;obtain⟨hl,hg⟩:=nilLikes_get h;obtain⟨s1,s2⟩:=hs.nilblk e sz fun _ _ => .any;have hlast:(ρ++[(⟨0,none,0,0⟩:Loc)])[bl.length]? = some ⟨0,none,0,0⟩:=by rw[<- hs.len];simp
 have get:∀(k:Nat) (B':Blk),(bl'++[⟨e,sz,0,0,0,fun _ _ => .any⟩])[k]? = some B'->∃ B,(bl++[⟨e,sz,0,0,0,fun _ _ => .any⟩])[k]? = some B/\B.nilLike bl.length B':=by
  intro k B' hk;rcases Nat.lt_or_ge k bl'.length with h1 | h1
  ·rw[List.getElem?_append_left h1]at hk;obtain⟨B,q1,q2⟩:=hg k B' hk;exact⟨B,by rw[List.getElem?_append_left (by omega)];exact q1,q2⟩
  ·rw[List.getElem?_append_right h1]at hk;refine⟨B',by rw[List.getElem?_append_right (by omega),<- hl];exact hk,Blk.nilLike.refl _ _⟩
 have hD:∀ b,Dof C.D0 (ρ++[⟨0,none,0,0⟩]) (bl'++[⟨e,sz,0,0,0,fun _ _ => .any⟩]) b->Dof C.D0 (ρ++[⟨0,none,0,0⟩]) (bl++[⟨e,sz,0,0,0,fun _ _ => .any⟩]) b:=by
  rintro b (hx | ⟨k,l,B',e1,e2,e3,e4⟩)
  ·exact .inl hx
  ·obtain⟨B,q1,q2,_⟩:=get k B' e2;exact .inr ⟨k,l,B,e1,q1,by rw[q2]at e3;exact e3,e4⟩
 have ref:∀ {D:Nat->Prop} {c c':Cell} {v:Value},refC bl.length c c'->CRel D w (ρ++[⟨0,none,0,0⟩]) c v->CRel D w (ρ++[⟨0,none,0,0⟩]) c' v:=by
  intro D c c' v hc hv;rcases hc with rfl | ⟨rfl,rfl⟩
  ·exact hv
  ·have hv:v = .slice none 0 0:=hv;exact⟨_,hlast,Nat.le_refl _,fun _=>hv⟩
 refine⟨ρ++[⟨0,none,0,0⟩],⟨hs.below,hs.d0,by simp[hl,hs.len],fun k l B' e1 e2 hst=>?_,fun i j li lj Bi Bj b e1 e2 e3 e4 e5 e6 e7 e8=>?_,fun hr b o d hb=>s1.noU hr b o d (hD b hb)⟩,⟨hN.1,hN.2.trans (LocsLe.append _ _)⟩,hdf,fun t=>?_⟩
 ·obtain⟨B,q1,q2,q3,q4⟩:=get k B' e2;have h1:B'.st=B.st:=by rw[q2]
  have h2:B'.u=B.u:=by rw[q2]
  have h3:B'.n=B.n:=by rw[q2]
  have h4:B'.sz=B.sz:=by rw[q2]
  have h5:B'.t=B.t:=by rw[q2]
  obtain⟨g0,g1⟩:=(s1.at_ k l B e1 q1).step (Ext.refl _ _) (fun b _ hb=>hD b hb) (LocsLe.refl _) (fun _ _=>rfl) (by omega);rw[h1,h2,h3,h4,h5];refine⟨g0,?_⟩;rcases g1 with g1 | ⟨b,cap,cs,g2,g3,g4,g5,g6,g7,g8,g9⟩
  ·exact .inl g1
  ·refine .inr ⟨b,cap,cs,g2,g3,g4,g5,g6,g7,g8,fun i j hi hj=>?_⟩;obtain⟨u,hu,hur⟩:=g9 i j hi hj;refine⟨u,hu,?_⟩;by_cases hz:B.st=0
   ·rw[if_pos hz]at hur ⊢
    exact ref (q4 i j hi hj) hur
   ·rw[if_neg hz]at hur ⊢
    rw[q3 hz];exact hur
 ·obtain⟨B1,q1,q2,_⟩:=get i Bi e3;obtain⟨B2,q3,q4,_⟩:=get j Bj e4;exact s1.dist i j li lj B1 B2 b e1 e2 q1 q3 (by rw[q2]at e5;exact e5) (by rw[q4]at e6;exact e6) e7 e8
 ·have:=(hf t).step (D':=Dof C.D0 (ρ++[⟨0,none,0,0⟩]) (bl'++[⟨e,sz,0,0,0,fun _ _ => .any⟩])) (Ext.refl _ _) (fun b _ hb=>s2 b (hD b hb)) (LocsLe.append ρ ⟨0,none,0,0⟩);show VRel _ _ _ (tm' t) _;rcases ht t with e1 | ⟨e1,e2⟩
  ·rw[e1];exact this
  ·rw[e2];have this:VRel _ _ _ (tm t) _:=this;rw[e1]at this;exact ref (.inr ⟨rfl,rfl⟩) this
def wb (k u : Nat) : Cell → Cell
 | .p i v sz a o=>if i=k then(if v=u then .p k 0 sz a o else .any)else .p i v sz a o
 | .gs i v=>if i=k then(if v=u then .gs k 0 else .any)else .gs i v
 | .sl i v sz o m=>if i=k then(if v=u then .sl k 0 sz o m else .any)else .sl i v sz o m
 | .cl F m f=>if(Cell.cl F m f).clos then .cl F m f else .any
 | c=>c
def gx (k u : Nat) : V → V
 | .c x => .c (wb k u x)
 | .g l => .g (l.map (wb k u))
 | .t2 a b => .t2 (gx k u a) (gx k u b)
 | .t3 a b d => .t3 (gx k u a) (gx k u b) (gx k u d)
 | .t4 a b d e => .t4 (gx k u a) (gx k u b) (gx k u d) (gx k u e)
 | .un => .un
def wz (k u:Nat) (B:Blk):Blk:=match B.st with
 | 0=>{ B with f:=fun i j=>wb k u (B.f i j) }
 | _=>B
theorem resetC_clos {k u:Nat} {c:Cell} (h:c.clos=true):wb k u c=c:=by
 cases c with
 | cl F m f=>simp only[wb];rw[if_pos h]
 | p | gs | sl=>simp[Cell.clos]at h
 | _=>rfl
theorem resetB_eq (k u:Nat) (B:Blk):wz k u B={ B with f:=(wz k u B).f }:=by unfold wz;split <;> rfl
theorem reset_rel {D:Nat->Prop} {w:World} {ρ:List Loc} {k u:Nat} {l:Loc} (hk:ρ[k]? = some l) (hu:l.u=u) {c:Cell} {v:Value} (h:CRel D w ρ c v):CRel D w (ρ.set k { l with u:=0 }) (wb k u c) v:=by
 have hlt:k<ρ.length:=(List.getElem?_eq_some_iff.1 hk).1;cases c with
 | p i x sz a o =>
  simp only[wb];split
  ·rename_i e;subst e;split
   ·rename_i e;subst e;obtain⟨l1,h1,h2,h3⟩:=h;rw[hk]at h1;cases h1;exact⟨_,List.getElem?_set_self hlt,Nat.zero_le _,fun _=>h3 hu⟩
   ·trivial
  ·rename_i e;obtain⟨l1,h1,h2⟩:=h;exact⟨l1,by rw[List.getElem?_set_ne (fun h=>e h.symm)];exact h1,h2⟩
 | gs i x =>
  simp only[wb];split
  ·rename_i e;subst e;split
   ·rename_i e;subst e;obtain⟨l1,h1,h2,h3⟩:=h;rw[hk]at h1;cases h1;exact⟨_,List.getElem?_set_self hlt,Nat.zero_le _,fun _=>h3 hu⟩
   ·trivial
  ·rename_i e;obtain⟨l1,h1,h2⟩:=h;exact⟨l1,by rw[List.getElem?_set_ne (fun h=>e h.symm)];exact h1,h2⟩
 | sl i x sz o m =>
  simp only[wb];split
  ·rename_i e;subst e;split
   ·rename_i e;subst e;obtain⟨l1,h1,h2,h3⟩:=h;rw[hk]at h1;cases h1;exact⟨_,List.getElem?_set_self hlt,Nat.zero_le _,fun _=>h3 hu⟩
   ·trivial
  ·rename_i e;obtain⟨l1,h1,h2⟩:=h;exact⟨l1,by rw[List.getElem?_set_ne (fun h=>e h.symm)];exact h1,h2⟩
 | cl F m f =>
  simp only[wb];split
  ·rename_i hc;exact CRel.clos h hc
  ·trivial
 | _=>exact h
theorem resets_rel {D : Nat → Prop} {w : World} {ρ : List Loc} {k u : Nat} {l : Loc} (hk : ρ[k]? = some l) (hu : l.u = u) : ∀ {cs : List Cell} {vs : List Value}, CRels D w ρ cs vs → CRels D w (ρ.set k { l with u := 0 }) (cs.map (wb k u)) vs
 | [],[],_=>trivial
 | _ :: _,_ :: _,h=>⟨reset_rel hk hu h.1,resets_rel hk hu h.2⟩
 | [],_ :: _,h=>h.elim
 | _ :: _,[],h=>h.elim
theorem jb {D : Nat → Prop} {w : World} {ρ : List Loc} {k u : Nat} {l : Loc} (hk : ρ[k]? = some l) (hu : l.u = u) : ∀ {x : V} {v : Value}, VRel D w ρ x v → VRel D w (ρ.set k { l with u := 0 }) (gx k u x) v
 | .c _,_,h=>reset_rel hk hu h
 | .g _,_,h=>by obtain⟨vs,h1,h2⟩:=h;exact⟨vs,h1,resets_rel hk hu h2⟩
 | .t2 _ _,_,h=>by obtain⟨x,y,h1,h2,h3⟩:=h;exact⟨x,y,h1,jb hk hu h2,jb hk hu h3⟩
 | .t3 _ _ _,_,h=>by obtain⟨x,y,z,h1,h2,h3,h4⟩:=h;exact⟨x,y,z,h1,jb hk hu h2,jb hk hu h3,jb hk hu h4⟩
 | .t4 _ _ _ _,_,h=>by obtain⟨x,y,z,u',h1,h2,h3,h4,h5⟩:=h;exact⟨x,y,z,u',h1,jb hk hu h2,jb hk hu h3,jb hk hu h4,jb hk hu h5⟩
 | .un,_,h=>h
theorem Weak.reset {m0:Nat} {tm:Nat->V} {bl:List Blk} (k:Nat) {B:Blk} (hB:bl[k]? = some B) (hst:B.st<=1) (hm:m0.ble k=true):Weak m0 ⟨tm,bl⟩ ⟨fun t=>gx k B.u (tm t),(bl.map (wz k B.u)).set k { wz k B.u B with u:=0 }⟩:=by
 rintro C a w h0 ⟨ρ,hs,hN,hdf,hf⟩;have hm:=Nat.le_of_ble_eq_true hm;have hkb:k<bl.length:=(List.getElem?_eq_some_iff.1 hB).1;obtain⟨l,hk⟩:∃ l,ρ[k]? = some l:=⟨_,List.getElem?_eq_getElem (by rw[hs.len];exact hkb)⟩;have hlt:k<ρ.length:=(List.getElem?_eq_some_iff.1 hk).1;have hu:=(hs.at_ k l B hk hB hst).1;have get:∀(j:Nat) (lj:Loc) (Bj:Blk),(ρ.set k { l with u:=0 })[j]? = some lj->((bl.map (wz k B.u)).set k { wz k B.u B with u:=0 })[j]? = some Bj->∃(l1:Loc) (B1:Blk),ρ[j]? = some l1/\bl[j]? = some B1/\lj.b=l1.b/\lj.v=l1.v/\(l1.u=B1.u->lj.u=Bj.u)/\Bj={ B1 with u:=Bj.u,f:=(wz k B.u B1).f }:=by
  intro j lj Bj e1 e2;by_cases e:j=k
  ·subst e;rw[List.getElem?_set_self hlt]at e1;rw[List.getElem?_set_self (by simpa using hkb)]at e2;cases e1;cases e2;refine⟨l,B,hk,hB,rfl,rfl,fun _=>rfl,?_⟩;rw[resetB_eq]
  ·rw[List.getElem?_set_ne (fun h=>e h.symm)]at e1 e2;rw[List.getElem?_map]at e2;cases hb:bl[j]? with
   | none=>rw[hb]at e2;cases e2
   | some B1 =>
    rw[hb]at e2;cases e2;refine⟨lj,B1,e1,rfl,rfl,rfl,fun h=>by rw[resetB_eq];exact h,?_⟩;rw[resetB_eq]
 have hD:∀ b,Dof C.D0 (ρ.set k { l with u:=0 }) ((bl.map (wz k B.u)).set k { wz k B.u B with u:=0 }) b->Dof C.D0 ρ bl b:=by
  rintro b (hx | ⟨j,lj,Bj,e1,e2,e3,e4⟩)
  ·exact .inl hx
  ·obtain⟨l1,B1,q1,q2,q3,q4,q5,q6⟩:=get j lj Bj e1 e2;exact .inr ⟨j,l1,B1,q1,q2,by rw[q6]at e3;exact e3,by rw[<- q3];exact e4⟩
 refine⟨ρ.set k { l with u:=0 },⟨hs.below,hs.d0,by simp[hs.len],fun j lj Bj e1 e2 hst'=>?_,fun i j li lj Bi Bj b e1 e2 e3 e4 e5 e6 e7 e8=>?_,fun hr b o d hb=>hs.noU hr b o d (hD b hb)⟩,⟨hN.1,fun j lj hj=>?_⟩,hdf,fun t=>(jb hk hu (hf t)).step (Ext.refl _ _) (fun b _ hb=>hD b hb) (LocsLe.refl _)⟩
 ·obtain⟨l1,B1,q1,q2,q3,q4,q5,q6⟩:=get j lj Bj e1 e2;have h1:Bj.st=B1.st:=by rw[q6]
  have h3:Bj.n=B1.n:=by rw[q6]
  have h4:Bj.sz=B1.sz:=by rw[q6]
  have h5:Bj.t=B1.t:=by rw[q6]
  have h6:Bj.f=(wz k B.u B1).f:=by rw[q6]
  obtain⟨g0,g1⟩:=hs.at_ j l1 B1 q1 q2 (by omega);refine⟨q5 g0,?_⟩;rw[h1,h3,h4,h5,h6,q3,q4];rcases g1 with g1 | ⟨b,cap,cs,g2,g3,g4,g5,g6,g7,g8,g9⟩
  ·exact .inl g1
  ·refine .inr ⟨b,cap,cs,g2,g3,g4,g5,g6,g7,g8,fun x y hx hy=>?_⟩;obtain⟨v,hv,hvr⟩:=g9 x y hx hy;refine⟨v,hv,?_⟩;have fin:CRel (Dof C.D0 ρ bl) w (if B1.st=0 then ρ.set k { l with u:=0 } else []) ((wz k B.u B1).f x y) v:=by
    by_cases hz:B1.st=0
    ·rw[if_pos hz]at hvr ⊢
     have:(wz k B.u B1).f x y=wb k B.u (B1.f x y):=by
      unfold wz;split
      ·rfl
      ·rename_i e;exact absurd hz e
     rw[this];exact reset_rel hk hu hvr
    ·rw[if_neg hz]at hvr ⊢
     have:(wz k B.u B1).f=B1.f:=by
      unfold wz;split
      ·rename_i e;exact absurd e hz
      ·rfl
     rw[this];exact hvr
   exact fin.step (Ext.refl _ _) (fun b _ hb=>hD b hb) (LocsLe.refl _)
 ·obtain⟨l1,B1,q1,q2,q3,_,_,q6⟩:=get i li Bi e1 e3;obtain⟨l2,B2,q7,q8,q9,_,_,q12⟩:=get j lj Bj e2 e4;exact hs.dist i j l1 l2 B1 B2 b q1 q7 q2 q8 (by rw[q6]at e5;exact e5) (by rw[q12]at e6;exact e6) (by rw[<- q3];exact e7) (by rw[<- q9];exact e8)
 ·obtain⟨l1,q1,q2⟩:=hN.2 j lj hj;have hjl:=(List.getElem?_eq_some_iff.1 hj).1;exact⟨l1,by rw[List.getElem?_set_ne (by omega)];exact q1,q2⟩
theorem Weak.freeze {m0:Nat} {tm:Nat->V} {bl:List Blk} (k:Nat) {B:Blk} (hB:bl[k]? = some B) (h0:B.st=0) (hcl:∀ i j,i<B.n->j<B.sz->(B.f i j).clos=true):Weak m0 ⟨tm,bl⟩ ⟨tm,bl.set k { B with st:=1 }⟩:=by
 rintro C a w _ ⟨ρ,hs,hN,hdf,hf⟩;obtain⟨s1,s2⟩:=Sat.freeze hs hB h0 hcl;exact⟨ρ,s1,hN,hdf,fun t=>(hf t).step (Ext.refl _ _) (fun b _ hb=>s2 b hb) (LocsLe.refl _)⟩
def Blk.closed (bl:List Blk) (B B':Blk):Prop:=B'={ B with f:=B'.f }/\(B.st≠0->B'.f=B.f)/\∀ i j,i<B.n->j<B.sz->B'.f i j=B.f i j∨B'.f i j=St.closeC bl (B.f i j)
def closeds (b0 : List Blk) : List Blk → List Blk → Prop
 | [],[]=>True
 | B :: l,B' :: l'=>B.closed b0 B'/\closeds b0 l l'
 | _,_=>False
theorem Blk.closed.refl (bl:List Blk) (B:Blk):B.closed bl B:=⟨rfl,fun _=>rfl,fun _ _ _ _ => .inl rfl⟩
theorem closeds_get {b0 : List Blk} : ∀ {l l' : List Blk}, closeds b0 l l' → l'.length = l.length ∧ ∀ (k : Nat) (B' : Blk), l'[k]? = some B' → ∃ B, l[k]? = some B ∧ B.closed b0 B'
 | [],[],_=>⟨rfl,fun k B' h=>by simp at h⟩
 | B :: l,B' :: l',h=>by
  obtain⟨h1,h2⟩:=closeds_get h.2;refine⟨by simp[h1],fun k B1 hB=>?_⟩;cases k with
  | zero=>simp at hB;subst hB;exact⟨B,rfl,h.1⟩
  | succ k=>exact h2 k B1 (by simpa using hB)
 | [],_ :: _,h=>h.elim
 | _ :: _,[],h=>h.elim
theorem Weak.close {m0:Nat} {tm tm':Nat->V} {bl bl':List Blk} (h:closeds bl bl bl') (ht:∀ t,tm' t=tm t∨tm' t=St.close bl (tm t)):Weak m0 ⟨tm,bl⟩ ⟨tm',bl'⟩:=by
 rintro C a w _ ⟨ρ,hs,hN,hdf,hf⟩;obtain⟨hl,hg⟩:=closeds_get h;have hD:∀ b,Dof C.D0 ρ bl' b->Dof C.D0 ρ bl b:=by
  rintro b (hx | ⟨k,l,B',e1,e2,e3,e4⟩)
  ·exact .inl hx
  ·obtain⟨B,q1,q2,_⟩:=hg k B' e2;exact .inr ⟨k,l,B,e1,q1,by rw[q2]at e3;exact e3,e4⟩
 refine⟨ρ,⟨hs.below,hs.d0,by rw[hl];exact hs.len,fun k l B' e1 e2 hst=>?_,fun i j li lj Bi Bj b e1 e2 e3 e4 e5 e6 e7 e8=>?_,fun hr b o d hb=>hs.noU hr b o d (hD b hb)⟩,hN,hdf,fun t=>?_⟩
 ·obtain⟨B,q1,q2,q3,q4⟩:=hg k B' e2;have h1:B'.st=B.st:=by rw[q2]
  have h2:B'.u=B.u:=by rw[q2]
  have h3:B'.n=B.n:=by rw[q2]
  have h4:B'.sz=B.sz:=by rw[q2]
  have h5:B'.t=B.t:=by rw[q2]
  obtain⟨g0,g1⟩:=hs.at_ k l B e1 q1 (by omega);rw[h1,h2,h3,h4,h5];refine⟨g0,?_⟩;rcases g1 with g1 | ⟨b,cap,cs,g2,g3,g4,g5,g6,g7,g8,g9⟩
  ·exact .inl g1
  ·refine .inr ⟨b,cap,cs,g2,g3,g4,g5,g6,g7,g8,fun i j hi hj=>?_⟩;obtain⟨u,hu,hur⟩:=g9 i j hi hj;refine⟨u,hu,?_⟩;have fin:CRel (Dof C.D0 ρ bl) w (if B.st=0 then ρ else []) (B'.f i j) u:=by
    by_cases hz:B.st=0
    ·rw[if_pos hz]at hur ⊢
     rcases q4 i j hi hj with e | e
     ·rw[e];exact hur
     ·rw[e];exact v5 hs hur
    ·rw[if_neg hz]at hur ⊢
     rw[q3 hz];exact hur
   exact fin.step (Ext.refl _ _) (fun b _ hb=>hD b hb) (LocsLe.refl _)
 ·obtain⟨B1,q1,q2,_⟩:=hg i Bi e3;obtain⟨B2,q3,q4,_⟩:=hg j Bj e4;exact hs.dist i j li lj B1 B2 b e1 e2 q1 q3 (by rw[q2]at e5;exact e5) (by rw[q4]at e6;exact e6) e7 e8
 ·have:VRel (Dof C.D0 ρ bl) w ρ (tm' t) (a.tmps.getD t undef):=by
   rcases ht t with e | e
   ·rw[e];exact hf t
   ·rw[e];exact wP hs (hf t)
  exact this.step (Ext.refl _ _) (fun b _ hb=>hD b hb) (LocsLe.refl _)
end Go.Proofs.YtkmbnldginonbaaGreat
/- A function's contract, off its code through abstract states. -/
namespace Go.Proofs.YtkmbnldginonbaaGreat
open Go.RowKit
def UV (E : Env) (σ : St) : ResultVar → Option V
 | .tmp t=>some (σ.tm t)
 | .cell a T=>match E.ty T with
  | some ti=>match σ.tm a with
   | .c (.p k u sz i o)=>match σ.bl[k]? with
    | some B=>if(ti.agg||ti.size == 1)&&(B.u == u&&(B.sz == sz&&(B.st.ble 1&&(o+ti.size).ble sz)))then some (gF ti.agg ((List.range ti.size).map fun j=>B.f i (o+j)))else none
    | none=>none
   | _=>none
  | none=>none
def retV (E : Env) (σ : St) : List ResultVar → Option V
 | []=>some (.c .any)
 | [a]=>UV E σ a
 | [a,b]=>match UV E σ a,UV E σ b with
  | some x,some y=>some (.t2 x y)
  | _,_=>none
 | [a,b,c]=>match UV E σ a,UV E σ b,UV E σ c with
  | some x,some y,some z=>some (.t3 x y z)
  | _,_,_=>none
 | [a,b,c,d]=>match UV E σ a,UV E σ b,UV E σ c,UV E σ d with
  | some x,some y,some z,some u=>some (.t4 x y z u)
  | _,_,_,_=>none
 | _=>none
def x6 (bl : List Blk) : V → V
 | .t2 a b => .t2 (x6 bl a) (x6 bl b)
 | .t3 a b d => .t3 (x6 bl a) (x6 bl b) (x6 bl d)
 | .t4 a b d e => .t4 (x6 bl a) (x6 bl b) (x6 bl d) (x6 bl e)
 | x=>St.close bl x
def wJ : V → Bool
 | .t2 a b=>wJ a&&wJ b
 | .t3 a b d=>wJ a&&(wJ b&&wJ d)
 | .t4 a b d e=>wJ a&&(wJ b&&(wJ d&&wJ e))
 | x=>x.clos
def Sub (x y:V):Prop:=∀ D w v,VRel D w [] x v->VRel D w [] y v
theorem Sub.refl (x:V):Sub x x:=fun _ _ _ h=>h
theorem xx {D0 : Nat → Prop} {w0 : Base} {w : World} {r : Bool} {ρ : List Loc} {bl : List Blk} (h : Sat D0 w0 r ρ bl w) : ∀ {x : V} {v : Value}, VRel (Dof D0 ρ bl) w ρ x v → VRel (Dof D0 ρ bl) w ρ (x6 bl x) v
 | .c _,_,hx=>wP h hx
 | .g _,_,hx=>wP h hx
 | .t2 _ _,_,hx=>by obtain⟨x,y,h1,h2,h3⟩:=hx;exact⟨x,y,h1,xx h h2,xx h h3⟩
 | .t3 _ _ _,_,hx=>by obtain⟨x,y,z,h1,h2,h3,h4⟩:=hx;exact⟨x,y,z,h1,xx h h2,xx h h3,xx h h4⟩
 | .t4 _ _ _ _,_,hx=>by obtain⟨x,y,z,u,h1,h2,h3,h4,h5⟩:=hx;exact⟨x,y,z,u,h1,xx h h2,xx h h3,xx h h4,xx h h5⟩
 | .un,_,hx=>hx
theorem xW {D : Nat → Prop} {w : World} {ρ ρ' : List Loc} : ∀ {x : V} {v : Value}, VRel D w ρ x v → wJ x = true → VRel D w ρ' x v
 | .c _,_,hx,hc=>VRel.clos hx hc
 | .g _,_,hx,hc=>VRel.clos hx hc
 | .t2 _ _,_,hx,hc=>by
  simp only[wJ,Bool.and_eq_true]at hc;obtain⟨x,y,h1,h2,h3⟩:=hx;exact⟨x,y,h1,xW h2 hc.1,xW h3 hc.2⟩
 | .t3 _ _ _,_,hx,hc=>by
  simp only[wJ,Bool.and_eq_true]at hc;obtain⟨x,y,z,h1,h2,h3,h4⟩:=hx;exact⟨x,y,z,h1,xW h2 hc.1,xW h3 hc.2.1,xW h4 hc.2.2⟩
 | .t4 _ _ _ _,_,hx,hc=>by
  simp only[wJ,Bool.and_eq_true]at hc;obtain⟨x,y,z,u,h1,h2,h3,h4,h5⟩:=hx;exact⟨x,y,z,u,h1,xW h2 hc.1,xW h3 hc.2.1,xW h4 hc.2.2.1,xW h5 hc.2.2.2⟩
 | .un,_,hx,_=>hx
def retOK (E:Env) (rs:List ResultVar) (X:V) (e:Exit) (σ:St):Prop :=
 match e with
 | .normal | .ret=>match retV E σ rs with
  | some v=>frzA (wY v) σ fun σ'=>wJ (x6 σ'.bl v)=true/\Sub (x6 σ'.bl v) X
  | none=>False
 | _=>False
theorem frz1_tm {σ:St} {tm:Nat->V} {x:V} {K K':St->Prop} (hK:∀ bl,K ⟨σ.tm,bl⟩->K' ⟨tm,bl⟩) (h:frz1 σ x K):frz1 ⟨tm,σ.bl⟩ x K':=by
 have key:∀ k,(match σ.bl[k]? with
  | some B=>(B.st=0->(∀ i j,i<B.n->j<B.sz->(B.f i j).clos=true)/\K { σ with bl:=σ.bl.set k { B with st:=1 } })/\(B.st≠0->K σ)
  | none=>K σ)->(match σ.bl[k]? with
  | some B=>(B.st=0->(∀ i j,i<B.n->j<B.sz->(B.f i j).clos=true)/\K' { tm:=tm,bl:=σ.bl.set k { B with st:=1 } })/\(B.st≠0->K' ⟨tm,σ.bl⟩)
  | none=>K' ⟨tm,σ.bl⟩):=by
  intro k h;split at h
  ·exact⟨fun hz=>⟨(h.1 hz).1,hK _ (h.1 hz).2⟩,fun hz=>hK _ (h.2 hz)⟩
  ·exact hK _ h
 unfold Go.Proofs.YtkmbnldginonbaaGreat.frz1 at h ⊢
 split at h
 ·exact Eq.mpr (vX ⟨tm,σ.bl⟩ _ K') (key _ (Eq.mp (vX σ _ K) h))
 ·exact Eq.mpr (vX ⟨tm,σ.bl⟩ _ K') (key _ (Eq.mp (vX σ _ K) h))
 ·exact Eq.mpr (vX ⟨tm,σ.bl⟩ _ K') (key _ (Eq.mp (vX σ _ K) h))
 ·exact hK _ h
theorem frzA_tm {tm : Nat → V} : ∀ (l : List V) {σ : St} {K K' : St → Prop}, (∀ bl, K ⟨σ.tm, bl⟩ → K' ⟨tm, bl⟩) → frzA l σ K → frzA l ⟨tm, σ.bl⟩ K'
 | [],_,_,_,hK,h=>hK _ h
 | _ :: l,σ,_,_,hK,h=>frz1_tm (fun bl h'=>frzA_tm l (σ:=⟨σ.tm,bl⟩) hK h') h
def resRun (a : Act) : ResultVar → Sem Value
 | .tmp t=>pure (a.tmps.getD t undef)
 | .cell b t=>do loadVar t (<- asAddr (a.tmps.getD b undef))
theorem results_eq (fn:Func) (a:Act):results fn a.tmps=(do let vs <- fn.results.mapM (resRun a);pure (if h:vs.size=1 then vs[0]else .tuple vs)):=rfl
theorem y5 {E : Env} (hE : EnvOK E) {D0 : Nat → Prop} {w0 : Base} {w : World} {r : Bool} {ρ : List Loc} {σ : St} {a : Act} (hs : Sat D0 w0 r ρ σ.bl w) (hf : ∀ t, VRel (Dof D0 ρ σ.bl) w ρ (σ.tm t) (a.tmps.getD t undef)) {rv : ResultVar} {v : V} (h : UV E σ rv = some v) :
  ∃ x,(resRun a rv).run E.P w = .ok x w/\VRel (Dof D0 ρ σ.bl) w ρ v x:=by
 cases rv with
 | tmp t=>simp only[UV]at h;cases h;exact⟨_,rfl,hf t⟩
 | cell b T =>
  simp only[UV]at h;split at h
  ·rename_i ti ht;split at h
   ·rename_i k u sz i o hv;split at h
    ·rename_i B hB;split at h
     ·rename_i hc;simp only[Bool.and_eq_true,Bool.or_eq_true,beq_iff_eq,Nat.ble_eq]at hc;cases h;have ht:=hE.ty _ _ ht;obtain⟨h1,h2,h3,h4,h6⟩:=hc;have e1:=hf b;rw[hv]at e1;obtain⟨x,hx,hxr⟩:=load_p hs ht h1 hB h2 h3 h4 h6 e1;obtain⟨l,hl,hu,hp⟩:=e1;obtain⟨_,b',e2,e3⟩:=hp (by have:=loc_u hs hl hB (by omega);omega);refine⟨x,?_,hxr⟩;rw[e3]at hx;show(do loadVar T (<- asAddr (a.tmps.getD b undef)):Sem Value).run E.P w = .ok x w;rw[e3];simpa [Instr.loadAt,Instr.sureAddr,asAddr] using hx
     ·cases h
    ·cases h
   ·cases h
  ·cases h
theorem W4 {E : Env} (hE : EnvOK E) {fn : Func} {D0 : Nat → Prop} {w0 : Base} {w : World} {r : Bool} {ρ : List Loc} {σ : St} {a : Act} (hs : Sat D0 w0 r ρ σ.bl w) (hf : ∀ t, VRel (Dof D0 ρ σ.bl) w ρ (σ.tm t) (a.tmps.getD t undef)) {v : V} (h : retV E σ fn.results.toList = some v) :
  ∃ x,(results fn a.tmps).run E.P w = .ok x w/\VRel (Dof D0 ρ σ.bl) w ρ v x:=by
 have key:∀ rs:List ResultVar,fn.results.toList=rs->∃ x,(results fn a.tmps).run E.P w = .ok x w/\VRel (Dof D0 ρ σ.bl) w ρ v x:=by
  intro rs hrs;rw[hrs]at h;have hr:fn.results=rs.toArray:=by rw[<- hrs]
  have hm:results fn a.tmps=(do let vs <- Functor.map List.toArray (rs.mapM (resRun a));pure (if h:vs.size=1 then vs[0]else .tuple vs)):=by
   rw[results_eq,hr,Array.mapM_eq_mapM_toList]
  match rs,h,hm with
  | [],h,hm=>simp only[retV]at h;cases h;exact⟨.tuple #[],by rw[hm];simp,trivial⟩
  | [p],h,hm =>
   simp only[retV]at h;obtain⟨x,h1,h2⟩:=y5 hE hs hf h;exact⟨x,by rw[hm];simp[List.mapM_cons,h1],h2⟩
  | [p,q],h,hm =>
   simp only[retV]at h;split at h
   ·rename_i v1 v2 hv1 hv2;cases h;obtain⟨x,h1,h2⟩:=y5 hE hs hf hv1;obtain⟨y,h3,h4⟩:=y5 hE hs hf hv2;exact⟨.tuple #[x,y],by rw[hm];simp[List.mapM_cons,h1,h3,Result.andThen],x,y,rfl,h2,h4⟩
   ·cases h
  | [p,q,s],h,hm =>
   simp only[retV]at h;split at h
   ·rename_i v1 v2 v3 hv1 hv2 hv3;cases h;obtain⟨x,h1,h2⟩:=y5 hE hs hf hv1;obtain⟨y,h3,h4⟩:=y5 hE hs hf hv2;obtain⟨z,h5,h6⟩:=y5 hE hs hf hv3;exact⟨.tuple #[x,y,z],by rw[hm];simp[List.mapM_cons,h1,h3,h5,Result.andThen],x,y,z,rfl,h2,h4,h6⟩
   ·cases h
  | [p,q,s,t],h,hm =>
   simp only[retV]at h;split at h
   ·rename_i v1 v2 v3 v4 hv1 hv2 hv3 hv4;cases h;obtain⟨x,h1,h2⟩:=y5 hE hs hf hv1;obtain⟨y,h3,h4⟩:=y5 hE hs hf hv2;obtain⟨z,h5,h6⟩:=y5 hE hs hf hv3;obtain⟨u,h7,h8⟩:=y5 hE hs hf hv4;exact⟨.tuple #[x,y,z,u],by rw[hm];simp[List.mapM_cons,h1,h3,h5,h7,Result.andThen],x,y,z,u,rfl,h2,h4,h6,h8⟩
   ·cases h
  | _ :: _ :: _ :: _ :: _ :: _,h,_=>simp[retV]at h
 exact key _ rfl
theorem VRels.get {D : Nat → Prop} {w : World} {ρ : List Loc} : ∀ {l : List V} {vs : List Value}, VRels D w ρ l vs → ∀ t : Nat, VRel D w ρ (l.getD t (.c .any)) (vs.getD t undef)
 | [],[],_,t=>by simp[VRel,CRel]
 | _ :: _,_ :: _,h,0=>h.1
 | _ :: _,_ :: _,h,t+1=>by simpa using VRels.get h.2 t
 | [],_ :: _,h,_=>h.elim
 | _ :: _,[],h,_=>h.elim
theorem VRels.length {D : Nat → Prop} {w : World} {ρ : List Loc} : ∀ {l : List V} {vs : List Value}, VRels D w ρ l vs → l.length = vs.length
 | [],[],_=>rfl
 | _ :: _,_ :: _,h=>by simp[VRels.length h.2]
 | [],_ :: _,h=>h.elim
 | _ :: _,[],h=>h.elim
def vw (args:List V) (t:Nat):V:=args.getD t (.c .any)
theorem qV {E : Env} (hE : EnvOK E) {f : FuncId} {fn : Func} {c : Code} {args : List V} {X : V} (hf : E.P.funcs[f]? = some fn) (hb : fn.body = some c) (hm : E.P.follows .mixedOrders = true) (hc : x9 fn.ntmps c = true) (hbd : x8 E.P f = true)
  (h:awp E c ⟨vw args,[]⟩ (retOK E fn.results.toList X)):FnOK E.P E.r f args X:=by
 refine⟨hbd,?_⟩;intro D w vs hD hU hargs;refine calls_of_wp hf hb ?_;let C:Ctx:=⟨D,⟨w,fun _=>False⟩,E.r,fn.ntmps,[]⟩;have hlen:=hargs.length;have hrel:Rel C ⟨vw args,[]⟩ { tmps:=vs.toArray++Array.replicate (fn.ntmps-vs.toArray.size) undef,defers:=[] } w:=by
  have hDof:∀ b,Dof D [] [] b->D b:=by
   rintro b (h | ⟨k,l,B,h1,_⟩)
   ·exact h
   ·simp at h1
  refine⟨[],⟨⟨rfl,rfl,rfl,Nat.le_refl _,fun _ _ _=>rfl⟩,fun b hb=>⟨hD b hb,id⟩,rfl,fun k l B h1 _=>by simp at h1,fun i j li lj Bi Bj b h1=>by simp at h1,fun hr b o d hb=>hU hr b o d (hDof b hb)⟩,⟨by simp[C];omega,LocsLe.refl _⟩,rfl,fun t=>?_⟩;have h1:=hargs.get t;have h2:VRel (Dof D [] []) w [] (args.getD t (.c .any)) (vs.getD t undef):=h1.step (Ext.refl _ _) (fun b _ hb=>hDof b hb) (LocsLe.refl _);show VRel (Dof D [] []) w [] (args.getD t (.c .any)) _;rcases Nat.lt_or_ge t vs.length with hlt | hge
  ·have:(vs.toArray++Array.replicate (fn.ntmps-vs.toArray.size) undef).getD t undef=vs.getD t undef:=by
    rw[Array.getD_eq_getD_getElem?,Array.getElem?_append_left (by simpa using hlt)];simp[List.getD]
   rw[this];exact h2
  ·rw[show args.getD t (V.c .any) = .c .any by rw[List.getD,List.getElem?_eq_none (by omega)];rfl];trivial
 refine wp_mono (jJ (C:=C) hE rfl (Nat.zero_le _) hm c hc h hrel) ?_;rintro e a w' ⟨σ,hr,hk⟩;have fin:retOK E fn.results.toList X .ret σ->a.defers=[]/\∃ v,(results fn a.tmps).run E.P w' = .ok v w'/\∃ u,Ending.returned v = .returned u/\VRel D w' [] X u/\Below w.heap.size w w':=by
  intro hk;obtain⟨ρ,hs,hN,hdf,hfr⟩:=hr;refine⟨hdf,?_⟩;simp only[retOK]at hk;split at hk
  ·rename_i v hv;obtain⟨x,hx,hxr⟩:=W4 hE hs hfr hv
   -- the result in a slot of its own
   let tm':Nat->V:=fun t=>if t=a.tmps.size then v else σ.tm t
   let a':Act:={ a with tmps:=a.tmps.push x };have hrel':Rel C ⟨tm',σ.bl⟩ a' w':=by
    refine⟨ρ,hs,⟨by show _<=(a.tmps.push x).size;have:=hN.1;simp;omega,hN.2⟩,hdf,fun t=>?_⟩;show VRel _ _ _ (if t=a.tmps.size then v else σ.tm t) ((a.tmps.push x).getD t undef);by_cases e:t=a.tmps.size
    ·rw[if_pos e,e];simpa [Array.getD] using hxr
    ·rw[if_neg e];have:(a.tmps.push x).getD t undef=a.tmps.getD t undef:=by
      rw[Array.getD_eq_getD_getElem?,Array.getD_eq_getD_getElem?,Array.getElem?_push];rw[if_neg e]
     rw[this];exact hfr t
   have hk':=frzA_tm (tm:=tm') (K':=fun σ'=>wJ (x6 σ'.bl v)=true/\Sub (x6 σ'.bl v) X) (wY v) (fun bl h=>h) hk;obtain⟨σ',⟨h1,h2⟩,⟨ρ',hs',_,_,hfr'⟩,htm⟩:=Rel.frzA hk' hrel';have h3:=hfr' a.tmps.size;rw[htm]at h3;have h4:VRel (Dof D ρ' σ'.bl) w' ρ' v x:=by
    have e1:tm' a.tmps.size=v:=by show(if a.tmps.size=a.tmps.size then v else _)=v;rw[if_pos rfl]
    have e2:a'.tmps.getD a.tmps.size undef=x:=by show(a.tmps.push x).getD a.tmps.size undef=x;simp[Array.getD]
    rw[<- e1,<- e2];exact h3
   have h5:=xW (ρ':=[]) (xx hs' h4) h1;exact⟨x,hx,x,rfl,h2 D w' x (h5.step (Ext.refl _ _) (fun b _ hb => .inl hb) (LocsLe.refl _)),⟨hs'.below.os,hs'.below.tape,hs'.below.output,hs'.below.size,fun k hk=>hs'.below.block k hk id⟩⟩
  ·exact hk.elim
 cases e with
 | normal=>exact fin hk
 | ret=>exact fin hk
 | exit i=>exact hk.elim
 | goto l=>exact hk.elim
 | panic ch=>exact hk.elim
 | outgrown=>exact hk.elim
def retM (E:Env) (rs:List ResultVar) (X:V) (post:List Blk) (e:Exit) (σ:St):Prop :=
 match e with
 | .normal | .ret=>match retV E σ rs with
  | some v=>Weak 1 ⟨asg [(0,v)],σ.bl⟩ ⟨asg [(0,X)],post⟩
  | none=>False
 | _=>False
theorem fnm_ok {E : Env} (hE : EnvOK E) {f : FuncId} {fn : Func} {c : Code} {args : List V} {X : V} {B B' : Blk} {fresh : List Blk} (hf : E.P.funcs[f]? = some fn) (hb : fn.body = some c) (hm : E.P.follows .mixedOrders = true) (hc : x9 fn.ntmps c = true) (hbd : x8 E.P f = true) (hm0 : E.m0 = 1)
  (h:awp E c ⟨vw args,[B]⟩ (retM E fn.results.toList X (B' :: fresh))):FnM E.P E.r f B args X B' fresh:=by
 refine⟨hbd,?_⟩;intro D w0 l w vs hs0 hargs;refine calls_of_wp hf hb ?_;let C:Ctx:=⟨D,w0,E.r,fn.ntmps,[l]⟩;have hlen:=hargs.length;have hrel:Rel C ⟨vw args,[B]⟩ { tmps:=vs.toArray++Array.replicate (fn.ntmps-vs.toArray.size) undef,defers:=[] } w:=by
  refine⟨[l],hs0,⟨by simp[C];omega,LocsLe.refl _⟩,rfl,fun t=>?_⟩;have h2:=hargs.get t;show VRel (Dof D [l] [B]) w [l] (args.getD t (.c .any)) _;rcases Nat.lt_or_ge t vs.length with hlt | hge
  ·have:(vs.toArray++Array.replicate (fn.ntmps-vs.toArray.size) undef).getD t undef=vs.getD t undef:=by
    rw[Array.getD_eq_getD_getElem?,Array.getElem?_append_left (by simpa using hlt)];simp[List.getD]
   rw[this];exact h2
  ·rw[show args.getD t (V.c .any) = .c .any by rw[List.getD,List.getElem?_eq_none (by omega)];rfl];trivial
 refine wp_mono (jJ (C:=C) hE rfl (by rw[hm0];exact Nat.le_refl 1) hm c hc h hrel) ?_;rintro e a w' ⟨σ,hr,hk⟩;have fin:retM E fn.results.toList X (B' :: fresh) .ret σ->a.defers=[]/\∃ v,(results fn a.tmps).run E.P w' = .ok v w'/\∃ u l' ρ',Ending.returned v = .returned u/\Sat D w0 E.r (l' :: ρ') (B' :: fresh) w'/\LocsLe [l] [l']/\VRel (Dof D (l' :: ρ') (B' :: fresh)) w' (l' :: ρ') X u:=by
  intro hk;obtain⟨ρ,hs,hN,hdf,hfr⟩:=hr;refine⟨hdf,?_⟩;simp only[retM]at hk;split at hk
  ·rename_i v hv;obtain⟨x,hx,hxr⟩:=W4 hE hs hfr hv;have hrel':Rel ⟨D,w0,E.r,0,[l]⟩ ⟨asg [(0,v)],σ.bl⟩ ⟨#[x],[]⟩ w':=by
    refine⟨ρ,hs,⟨Nat.zero_le _,hN.2⟩,rfl,fun t=>?_⟩;show VRel _ _ _ (if t=0 then v else .c .any) _;split
    ·rename_i e;subst e;exact hxr
    ·trivial
   obtain⟨ρ2,hs2,hN2,_,hf2⟩:=hk ⟨D,w0,E.r,0,[l]⟩ _ _ (Nat.le_refl 1) hrel';have h3:VRel (Dof D ρ2 (B' :: fresh)) w' ρ2 X x:=hf2 0;match ρ2,hs2,hN2,h3 with
   | [],hs2,_,_=>have:=hs2.len;simp at this
   | l' :: ρ',hs2,hN2,h3 =>
    refine⟨x,hx,x,l',ρ',rfl,hs2,fun i li hi=>?_,h3⟩;cases i with
    | zero =>
     obtain⟨l2,e1,e2⟩:=hN2.2 0 li hi;exact⟨l2,by simpa using e1,e2⟩
    | succ i=>simp at hi
  ·exact hk.elim
 cases e with
 | normal=>exact fin hk
 | ret=>exact fin hk
 | exit i=>exact hk.elim
 | goto l=>exact hk.elim
 | panic ch=>exact hk.elim
 | outgrown=>exact hk.elim
end Go.Proofs.YtkmbnldginonbaaGreat
namespace Go.Proofs.YtkmbnldginonbaaGreat
open Go.RowKit
abbrev il (n:Nat) (a:Nat->Int):Cell := .row 1 n fun i _ => .int .i64 (a i)
abbrev ib (x:Nat × Nat × (Nat->Int)):Blk:=⟨x.1,1,x.2.1,0,0,fun i _ => .int .i64 (x.2.2 i)⟩
def injK : List (Option Nat) → Bool
 | []=>true
 | none :: l=>injK l
 | some k :: l=>!(l.any fun x=>x == some k)&&injK l
theorem injK_eq : ∀ {ks : List (Option Nat)} (_ : injK ks = true) {i j k : Nat}, ks[i]? = some (some k) → ks[j]? = some (some k) → i = j
 | [],_,i,j,k,h1,_=>by simp at h1
 | none :: l,h,i,j,k,h1,h2=>by
  cases i with
  | zero=>simp at h1
  | succ i =>
   cases j with
   | zero=>simp at h2
   | succ j=>exact congrArg Nat.succ (injK_eq (ks:=l) (k:=k) h (by simpa using h1) (by simpa using h2))
 | some m :: l,h,i,j,k,h1,h2=>by
  simp only[injK,Bool.and_eq_true,Bool.not_eq_true']at h;cases i with
  | zero =>
   cases j with
   | zero=>rfl
   | succ j =>
    simp at h1 h2;subst h1;have:=List.any_eq_false.1 h.1 (some m) (List.mem_of_getElem? h2);simp at this
  | succ i =>
   cases j with
   | zero =>
    simp at h1 h2;subst h2;have:=List.any_eq_false.1 h.1 (some m) (List.mem_of_getElem? h1);simp at this
   | succ j=>exact congrArg Nat.succ (injK_eq (ks:=l) (k:=k) h.2 (by simpa using h1) (by simpa using h2))
def yQ (ρ : List Loc) : Option Nat → Loc
 | some k=>{ ρ.getD k ⟨0,none,0,0⟩with u:=0 }
 | none=>⟨0,none,0,0⟩
theorem zg {sz n m:Nat} {f g:Nat->Nat->Cell} (h:n=m) (h2:∀ i j,i<m->j<sz->f i j=g i j):Sub (.c (.row sz n f)) (.c (.row sz m g)):=by
 subst h;rintro D w v ⟨A,c,rfl,h1,h3⟩;refine⟨A,c,rfl,h1,fun hn=>?_⟩;obtain⟨b',o,hA,hb,hD,hc⟩:=h3 hn;refine⟨b',o,hA,hb,hD,fun i j hi hj=>?_⟩;rw[<- h2 i j hi hj];exact hc i j hi hj
theorem subT2 {a b a' b':V} (h1:Sub a a') (h2:Sub b b'):Sub (.t2 a b) (.t2 a' b'):=by
 rintro D w v ⟨x,y,rfl,hx,hy⟩;exact⟨x,y,rfl,h1 D w x hx,h2 D w y hy⟩
theorem qK {E:Env} {c:Code} {σ:St} {R:Exit->St->Prop} {α:Type} (S:α->St) (m:α->Nat) (I:α->Prop) (x0:α) (hm:E.m0=0) (h0:Weak 0 σ (S x0)) (hI:I x0) (hr:∀ x,I x->awp E c (S x) (seqR (fun σ2=>∃ x',m x'<m x/\Weak 0 σ2 (S x')/\I x') R)):awp E (.loop c) σ R:=by
 refine gg (fun k σ=>∃ x,k=m x/\I x/\σ=S x) (m x0) ⟨S x0,by rw[hm];exact h0,x0,rfl,hI,rfl⟩ ?_;rintro k σ' ⟨x,rfl,hx,rfl⟩;have h:=hr x hx;have e:(fun σ2=>∃ x',m x'<m x/\Weak 0 σ2 (S x')/\I x')=(fun σ2=>∃ n',n'<m x/\∃ σ3,Weak E.m0 σ2 σ3/\∃ x,n'=m x/\I x/\σ3=S x):=by
  funext σ2;refine propext ⟨?_,?_⟩
  ·rintro ⟨x',h1,h2,h3⟩;exact⟨m x',h1,S x',by rw[hm];exact h2,x',rfl,h3,rfl⟩
  ·rintro ⟨n',h1,σ3,h2,x',rfl,h3,rfl⟩;exact⟨x',h1,by rw[hm]at h2;exact h2,h3⟩
 rw[e]at h;exact h
theorem loop_ints1 {E:Env} {c:Code} {σ:St} {R:Exit->St->Prop} {α:Type} (S:α->St) (m:α->Nat) (I:α->Prop) (x0:α) (hm:E.m0=1) (h0:Weak 1 σ (S x0)) (hI:I x0) (hr:∀ x,I x->awp E c (S x) (seqR (fun σ2=>∃ x',m x'<m x/\Weak 1 σ2 (S x')/\I x') R)):awp E (.loop c) σ R:=by
 refine gg (fun k σ=>∃ x,k=m x/\I x/\σ=S x) (m x0) ⟨S x0,by rw[hm];exact h0,x0,rfl,hI,rfl⟩ ?_;rintro k σ' ⟨x,rfl,hx,rfl⟩;have h:=hr x hx;have e:(fun σ2=>∃ x',m x'<m x/\Weak 1 σ2 (S x')/\I x')=(fun σ2=>∃ n',n'<m x/\∃ σ3,Weak E.m0 σ2 σ3/\∃ x,n'=m x/\I x/\σ3=S x):=by
  funext σ2;refine propext ⟨?_,?_⟩
  ·rintro ⟨x',h1,h2,h3⟩;exact⟨m x',h1,S x',by rw[hm];exact h2,x',rfl,h3,rfl⟩
  ·rintro ⟨n',h1,σ3,h2,x',rfl,h3,rfl⟩;exact⟨x',h1,by rw[hm]at h2;exact h2,h3⟩
 rw[e]at h;exact h
end Go.Proofs.YtkmbnldginonbaaGreat
/- Lists of any closed cells: what is remembered of a state at a loop's head. -/
namespace Go.Proofs.YtkmbnldginonbaaGreat
open Go.RowKit
structure Gx where
 t:Nat
 sz:Nat
 n:Nat
 f:Nat->Nat->Cell
abbrev gb (x:Gx):Blk:=⟨x.t,x.sz,x.n,0,0,x.f⟩
abbrev gst (tl:List (Nat × V)) (xs:List Gx):St:=⟨asg tl,xs.map gb⟩
def zF (q : Nat) (bl : List Blk) (ks : List (Option Nat)) : Cell → (Cell → Prop) → Prop
 | .gs j 0,e=>match q.ble j,ks[j-q]? with
  | true,some (some k)=>∃ B,bl[k]? = some B/\e (.gs k B.u)/\B.st=0
  | true,some none=>e .nil
  | _,_=>False
 | .sl j 0 sz o n,e=>match q.ble j,ks[j-q]? with
  | true,some (some k)=>∃ B n',bl[k]? = some B/\e (.sl k B.u sz o n')/\B.st=0/\n'=n
  | _,_=>False
 | .p j 0 sz i o,e=>match q.ble j,ks[j-q]? with
  | true,some (some k)=>∃ B,bl[k]? = some B/\e (.p k B.u sz i o)/\B.st=0
  | _,_=>False
 | .int K m,e=>∃ n,e (.int K n)/\n=m
 | .bool b,e=>∃ c,e (.bool c)/\c=b
 | .row sz n f,e=>(∃ n' f',e (.row sz n' f')/\n'=n/\∀ i j,i<n->j<sz->f' i j=f i j)∨(n=0/\e .nil)∨∃ k B,bl[k]? = some B/\e (.gs k B.u)/\q.ble k=true/\(ks.any fun x=>x == some k)=false/\B.st<=1/\B.sz=sz/\B.n=n/\∀ i j,i<n->j<sz->B.f i j=f i j/\(f i j).clos=true
 | .cl F m f,e=>∃ f',e (.cl F m f')/\∀ j,j<m->zF q bl ks (f j) fun x=>f' j=x
 | y,e=>e y/\y.clos=true
def regL (q : Nat) (bl : List Blk) (ks : List (Option Nat)) : List Cell → List Cell → Prop
 | [],[]=>True
 | y :: l,x :: l'=>zF q bl ks y (fun z=>x=z)/\regL q bl ks l l'
 | _,_=>False
def gP (q : Nat) (bl : List Blk) (ks : List (Option Nat)) (v : V) : V → Prop
 | .c y=>zF q bl ks y fun x=>v = .c x
 | .g l=>(v = .g l/\(l.all Cell.clos)=true)∨∃ l',v = .g l'/\regL q bl ks l l'
 | y=>v=y/\wJ y=true
theorem qY {q : Nat} {bl : List Blk} {ks : List (Option Nat)} : ∀ {y : Cell} {e : Cell → Prop}, e y → y.clos = true → zF q bl ks y e
 | .any,_,h,hc=>⟨h,hc⟩
 | .nil,_,h,hc=>⟨h,hc⟩
 | .fn _,_,h,hc=>⟨h,hc⟩
 | .str _,_,h,hc=>⟨h,hc⟩
 | .xp _ _,_,h,hc=>⟨h,hc⟩
 | .int _ _,_,h,_=>⟨_,h,rfl⟩
 | .bool _,_,h,_=>⟨_,h,rfl⟩
 | .row _ _ _,_,h,_ => .inl ⟨_,_,h,rfl,fun _ _ _ _=>rfl⟩
 | .cl F m f,_,h,hc=>⟨f,h,fun j hj=>qY rfl (by simp only[Cell.clos,List.all_eq_true,List.mem_range]at hc;exact hc j hj)⟩
 | .p ..,_,_,hc=>by simp[Cell.clos]at hc
 | .gs ..,_,_,hc=>by simp[Cell.clos]at hc
 | .sl ..,_,_,hc=>by simp[Cell.clos]at hc
theorem rO {q sz n:Nat} {bl:List Blk} {ks:List (Option Nat)} {f:Nat->Nat->Cell} {v:V} (h:v = .c (.row sz n f)):gP q bl ks v (.c (.row sz n f)) := .inl ⟨_,_,h,rfl,fun _ _ _ _=>rfl⟩
def yZ (q : Nat) (bl : List Blk) (ks : List (Option Nat)) (x : Gx) : Option Nat → Prop
 | some k=>∃ B,bl[k]? = some B/\B.t=x.t/\B.sz=x.sz/\B.n=x.n/\B.st=0/\∀ i j,i<x.n->j<x.sz->zF q bl ks (x.f i j) fun y=>B.f i j=y
 | none=>x.n=0
def srcsG (q : Nat) (bl : List Blk) (ks0 : List (Option Nat)) : List (Option Nat) → List Gx → Prop
 | [],[]=>True
 | k :: ks,x :: xs=>yZ q bl ks0 x k/\srcsG q bl ks0 ks xs
 | _,_=>False
theorem srcsG_get {q : Nat} {bl : List Blk} {ks0 : List (Option Nat)} : ∀ {ks : List (Option Nat)} {xs : List Gx}, srcsG q bl ks0 ks xs → ks.length = xs.length ∧ ∀ (j : Nat) x, xs[j]? = some x → ∃ k, ks[j]? = some k ∧ yZ q bl ks0 x k
 | [],[],_=>⟨rfl,fun j x h=>by simp at h⟩
 | k :: ks,x :: xs,h=>by
  obtain⟨h1,h2⟩:=srcsG_get h.2;refine⟨by simp[h1],fun j y hj=>?_⟩;cases j with
  | zero=>simp at hj;subst hj;exact⟨k,rfl,h.1⟩
  | succ j=>exact h2 j y (by simpa using hj)
 | [],_ :: _,h=>h.elim
 | _ :: _,[],h=>h.elim
theorem U6 {q : Nat} {bl : List Blk} {ks : List (Option Nat)} {D0 : Nat → Prop} {w0 : Base} {r : Bool} {ρ ρ' : List Loc} {w : World} (hs : Sat D0 w0 r ρ bl w) {D' : Nat → Prop} (hD : ∀ b, D' b → Dof D0 ρ bl b)
  (at_j:∀ j k,q.ble j=true->ks[j-q]? = some k->ρ'[j]? = some (yQ ρ k))
  (out:∀(k:Nat) (l:Loc) (B:Blk) (b:Nat),ρ[k]? = some l->bl[k]? = some B->B.st<=1->l.b=some b->q.ble k=true->(ks.any fun x=>x == some k)=false->¬ D' b) :
  ∀ {y:Cell} {e:Cell->Prop} {v:Value},zF q bl ks y e->(∀ x,e x->CRel (Dof D0 ρ bl) w ρ x v)->CRel D' w ρ' y v
 | .gs j 0,e,v,h,hv=>by
  simp only[zF]at h;split at h
  ·rename_i k hb hk;obtain⟨B,g1,g2,g3⟩:=h;obtain⟨l,l1,l2,l3⟩:=hv _ g2;refine⟨{ l with u:=0 },?_,Nat.zero_le _,fun _=>l3 (hs.at_ k l B l1 g1 (by omega)).1⟩;rw[at_j _ _ hb hk];simp[yQ,List.getD,l1]
  ·rename_i hb hk;have e2:v = .slice none 0 0:=hv _ h;exact⟨⟨0,none,0,0⟩,by rw[at_j _ _ hb hk];rfl,Nat.zero_le _,fun _=>e2⟩
  ·exact h.elim
 | .sl j 0 sz o n,e,v,h,hv=>by
  simp only[zF]at h;split at h
  ·rename_i k hb hk;obtain⟨B,n',g1,g2,g3,rfl⟩:=h;obtain⟨l,l1,l2,l3⟩:=hv _ g2;refine⟨{ l with u:=0 },?_,Nat.zero_le _,fun _=>l3 (hs.at_ k l B l1 g1 (by omega)).1⟩;rw[at_j _ _ hb hk];simp[yQ,List.getD,l1]
  ·exact h.elim
 | .p j 0 sz i o,e,v,h,hv=>by
  simp only[zF]at h;split at h
  ·rename_i k hb hk;obtain⟨B,g1,g2,g3⟩:=h;obtain⟨l,l1,l2,l3⟩:=hv _ g2;refine⟨{ l with u:=0 },?_,Nat.zero_le _,fun _=>l3 (hs.at_ k l B l1 g1 (by omega)).1⟩;rw[at_j _ _ hb hk];simp[yQ,List.getD,l1]
  ·exact h.elim
 | .int K m,e,v,h,hv=>by
  obtain⟨n,g1,rfl⟩:=h;exact hv _ g1
 | .bool K,e,v,h,hv=>by
  obtain⟨n,g1,rfl⟩:=h;exact hv _ g1
 | .row sz n f,e,v,h,hv=>by
  rcases h with⟨n',f',g1,rfl,g2⟩ | ⟨rfl,g1⟩ | ⟨k,B,g1,g2,g3,g4,g5,rfl,rfl,g8⟩
  ·have e3:=((hv _ g1).clos (ρ':=ρ') rfl).step (D':=D') (Ext.refl _ _) (fun b _ hb=>hD b hb) (LocsLe.refl ρ');obtain⟨A,c,s1,s2,s3⟩:=e3;refine⟨A,c,s1,s2,fun hn=>?_⟩;obtain⟨b,o,r1,r2,r3,r4⟩:=s3 hn;exact⟨b,o,r1,r2,r3,fun i j hi hj=>by rw[<- g2 i j hi hj];exact r4 i j hi hj⟩
  ·exact⟨none,0,hv _ g1,Nat.le_refl _,fun h=>absurd h (Nat.lt_irrefl _)⟩
  ·obtain⟨l,l1,l2,l3⟩:=hv _ g2;have hat:=hs.at_ k l B l1 g1 g5;have ev:=l3 hat.1;rcases hat.2 with⟨p1,p2,p3⟩ | ⟨b,cap,cs,p2,p3,p4,p5,p6,p7,p8,p9⟩
   ·exact⟨none,0,by rw[ev,p3,p1],by omega,fun h=>by omega⟩
   ·refine⟨some ⟨b,0,none⟩,cap,by rw[ev,p4],p7,fun hn=>⟨b,0,rfl,yB p5,out k l B b l1 g1 g5 p2 g3 g4,fun i j hi hj=>?_⟩⟩;obtain⟨u,hu,hr⟩:=p9 i j hi hj;obtain⟨c1,c2⟩:=g8 i j hi hj;refine⟨u,?_,?_⟩
    ·have:=vk hi hj p7;simp only[World.cell?,p5];simp[hu]
    ·rw[c1]at hr;exact(hr.clos c2).step (Ext.refl _ _) (fun b _ hb=>hD b hb) (LocsLe.refl _)
 | .cl F m f,e,v,h,hv=>by
  obtain⟨f',g1,g2⟩:=h;obtain⟨caps,rfl,c1,c2⟩:=hv _ g1;refine⟨caps,rfl,c1,fun j hj=>?_⟩;obtain⟨u,hu,hr⟩:=c2 j hj;refine⟨u,hu,U6 hs hD at_j out (g2 j hj) fun x hx=>?_⟩;subst hx;exact hr
 | .any,e,v,h,hv=>trivial
 | .nil,e,v,h,hv=>hv _ h.1
 | .fn _,e,v,h,hv=>hv _ h.1
 | .str _,e,v,h,hv=>hv _ h.1
 | .xp m f,e,v,h,hv=>((hv _ h.1).clos rfl).step (Ext.refl _ _) (fun b _ hb=>hD b hb) (LocsLe.refl _)
 | .gs _ (_+1),_,_,h,_=>by simp[zF,Cell.clos]at h
 | .sl _ (_+1) ..,_,_,h,_=>by simp[zF,Cell.clos]at h
 | .p _ (_+1) ..,_,_,h,_=>by simp[zF,Cell.clos]at h
theorem regL_rel {q : Nat} {bl : List Blk} {ks : List (Option Nat)} {D0 : Nat → Prop} {w0 : Base} {r : Bool} {ρ ρ' : List Loc} {w : World} (hs : Sat D0 w0 r ρ bl w) {D' : Nat → Prop} (hD : ∀ b, D' b → Dof D0 ρ bl b)
  (at_j:∀ j k,q.ble j=true->ks[j-q]? = some k->ρ'[j]? = some (yQ ρ k))
  (out:∀(k:Nat) (l:Loc) (B:Blk) (b:Nat),ρ[k]? = some l->bl[k]? = some B->B.st<=1->l.b=some b->q.ble k=true->(ks.any fun x=>x == some k)=false->¬ D' b) :
  ∀ {l l':List Cell} {vs:List Value},regL q bl ks l l'->CRels (Dof D0 ρ bl) w ρ l' vs->CRels D' w ρ' l vs
 | [],[],[],_,_=>trivial
 | _ :: _,_ :: _,_ :: _,h,hv=>⟨U6 hs hD at_j out h.1 fun x hx=>by subst hx;exact hv.1,regL_rel hs hD at_j out h.2 hv.2⟩
 | [],[],_ :: _,_,hv=>hv.elim
 | [],_ :: _,_,h,_=>h.elim
 | _ :: _,[],_,h,_=>h.elim
 | _ :: _,_ :: _,[],_,hv=>hv.elim
theorem Weak.genG {tm:Nat->V} {bl:List Blk} {tl:List (Nat × V)} {xs:List Gx} (pre:List Blk) (hpre:bl.take pre.length=pre) (hst2:pre.all (fun B=>Nat.ble 2 B.st)=true) (ks:List (Option Nat)) (hi:injK ks=true) (hb:srcsG pre.length bl ks ks xs) (hl:Vp tl fun p=>gP pre.length bl ks (tm p.1) p.2):Weak pre.length ⟨tm,bl⟩ ⟨asg tl,pre++xs.map gb⟩:=by
 rintro C a w hm0 ⟨ρ,hs,hN,hdf,hf⟩;obtain⟨hlen,hget⟩:=srcsG_get hb;have hlb:bl.length=ρ.length:=hs.len.symm;have hq:pre.length<=ρ.length:=by
  have:=congrArg List.length hpre;rw[List.length_take]at this;omega
 have hql:(ρ.take pre.length).length=pre.length:=by rw[List.length_take];omega
 have get:∀(j:Nat) (l:Loc) (B:Blk),(ρ.take pre.length++ks.map (yQ ρ))[j]? = some l->(pre++xs.map gb)[j]? = some B->2<=B.st∨pre.length<=j/\((∃(k:Nat) (lk:Loc) (Bk:Blk),ks[j-pre.length]? = some (some k)/\ρ[k]? = some lk/\bl[k]? = some Bk/\l={ lk with u:=0 }/\B.t=Bk.t/\B.sz=Bk.sz/\B.n=Bk.n/\Bk.st=0/\B.st=0/\B.u=0/\∀ i j,i<B.n->j<B.sz->zF pre.length bl ks (B.f i j) fun y=>Bk.f i j=y)∨(l=⟨0,none,0,0⟩/\B.n=0/\B.u=0)):=by
  intro j l B e1 e2;rcases Nat.lt_or_ge j pre.length with hj | hj
  ·left;rw[List.getElem?_append_left hj]at e2;exact Nat.le_of_ble_eq_true (List.all_eq_true.1 hst2 B (List.mem_of_getElem? e2))
  right;refine⟨hj,?_⟩;rw[List.getElem?_append_right (by omega),hql,List.getElem?_map]at e1;rw[List.getElem?_append_right hj,List.getElem?_map]at e2;cases hx:xs[j-pre.length]? with
  | none=>rw[hx]at e2;cases e2
  | some x =>
   rw[hx]at e2;simp at e2;obtain⟨k,hk,hsrc⟩:=hget _ x hx;rw[hk]at e1;simp at e1;subst e1 e2;cases k with
   | none=>exact .inr ⟨rfl,hsrc,rfl⟩
   | some k =>
    obtain⟨Bk,q1,q2,q3,q4,q5,q6⟩:=hsrc;have hkl:k<ρ.length:=by rw[hs.len];exact(List.getElem?_eq_some_iff.1 q1).1
    refine .inl ⟨k,ρ[k],Bk,hk,List.getElem?_eq_getElem hkl,q1,?_,q2.symm,q3.symm,q4.symm,q5,rfl,rfl,q6⟩;simp[yQ,List.getD,List.getElem?_eq_getElem hkl]
 have hD:∀ b,Dof C.D0 (ρ.take pre.length++ks.map (yQ ρ)) (pre++xs.map gb) b->Dof C.D0 ρ bl b:=by
  rintro b (hx | ⟨j,l,B,e1,e2,e3,e4⟩)
  ·exact .inl hx
  ·rcases get j l B e1 e2 with q0 | ⟨_,⟨k,lk,Bk,q1,q2,q3,q4,q5,q6,q7,q8,q9,q10⟩ | ⟨q1,q2⟩⟩
   ·omega
   ·subst q4;exact .inr ⟨k,lk,Bk,q2,q3,q8,e4⟩
   ·subst q1;cases e4
 have at_j:∀ j k,pre.length.ble j=true->ks[j-pre.length]? = some k->(ρ.take pre.length++ks.map (yQ ρ))[j]? = some (yQ ρ k):=fun j k h1 h2=>by
  have:=Nat.le_of_ble_eq_true h1;rw[List.getElem?_append_right (by omega),hql,List.getElem?_map,h2];rfl
 have out:∀(k:Nat) (l:Loc) (B:Blk) (b:Nat),ρ[k]? = some l->bl[k]? = some B->B.st<=1->l.b=some b->pre.length.ble k=true->(ks.any fun x=>x == some k)=false->¬ Dof C.D0 (ρ.take pre.length++ks.map (yQ ρ)) (pre++xs.map gb) b:=by
  rintro k l B b p1 p2 p3 p4 p5 p6 (hx | ⟨j,l',B',e1,e2,e3,e4⟩)
  ·have h1:=hs.own p1 p2 p3 p4;have h2:=hs.d0 b hx;rcases h1 with h1 | h1
   ·have:=h2.1;have h3:C.w0.heap.size<=b:=h1;omega
   ·exact h2.2 h1
  ·rcases get j l' B' e1 e2 with q0 | ⟨_,⟨k',lk,Bk,q1,q2,q3,q4,q5,q6,q7,q8,q9,q10⟩ | ⟨q1,q2⟩⟩
   ·omega
   ·subst q4;have:=hs.dist k k' l lk B Bk b p1 q2 p2 q3 p3 (by omega) p4 e4;subst this;have:=List.any_eq_false.1 p6 (some k) (List.mem_of_getElem? q1);simp at this
   ·subst q1;cases e4
 refine⟨ρ.take pre.length++ks.map (yQ ρ),⟨hs.below,hs.d0,by rw[List.length_append,hql];simp[hlen],fun j l B e1 e2 hst=>?_,fun i j li lj Bi Bj b e1 e2 e3 e4 e5 e6 e7 e8=>?_,fun hr b o d hb=>hs.noU hr b o d (hD b hb)⟩,⟨hN.1,fun k l h=>?_⟩,hdf,fun t=>?_⟩
 ·rcases get j l B e1 e2 with q0 | ⟨_,⟨k,lk,Bk,q1,q2,q3,q4,q5,q6,q7,q8,q9,q10,q11⟩ | ⟨q1,q2,q3⟩⟩
  ·omega
  ·subst q4;refine⟨q10.symm,?_⟩;rcases(hs.at_ k lk Bk q2 q3 (by omega)).2 with⟨g1,g2,g3⟩ | ⟨b,cap,cs,g2,g3,g4,g5,g6,g7,g8,g9⟩
   ·exact .inl ⟨q7.trans g1,g2,g3⟩
   ·refine .inr ⟨b,cap,cs,g2,g3,by rw[q7];exact g4,by rw[q5];exact g5,by rw[q6];exact g6,by rw[q7];exact g7,g8,fun x y hx hy=>?_⟩;obtain⟨u,hu,hur⟩:=g9 x y (by omega) (by omega);refine⟨u,by rw[q6];exact hu,?_⟩;rw[if_pos q8]at hur;rw[if_pos q9];exact U6 hs hD at_j out (q11 x y hx hy) fun z hz=>by subst hz;exact hur
  ·subst q1;exact⟨q3.symm,.inl ⟨q2,rfl,rfl⟩⟩
 ·rcases get i li Bi e1 e3 with q0 | ⟨hi1,⟨k,lk,Bk,q1,q2,q3,q4,q5,q6,q7,q8,q9,q10⟩ | ⟨q1,q2⟩⟩
  ·omega
  ·rcases get j lj Bj e2 e4 with p0 | ⟨hj1,⟨k',lk',Bk',p1,p2,p3,p4,p5,p6,p7,p8,p9,p10⟩ | ⟨p1,p2⟩⟩
   ·omega
   ·subst q4 p4;have:=hs.dist k k' lk lk' Bk Bk' b q2 p2 q3 p3 (by omega) (by omega) e7 e8;subst this;have:=injK_eq hi q1 p1;omega
   ·subst p1;cases e8
  ·subst q1;cases e7
 ·obtain⟨l',h1,h2⟩:=hN.2 k l h;have hk:k<pre.length:=Nat.lt_of_lt_of_le (List.getElem?_eq_some_iff.1 h).1 hm0;exact⟨l',by rw[List.getElem?_append_left (by omega),List.getElem?_take_of_lt hk];exact h1,h2⟩
 ·rcases asg_mem tl t with e | e
  ·show VRel _ _ _ (asg tl t) _;rw[e];trivial
  ·have e1:=U4 hl _ e;have e2:VRel (Dof C.D0 ρ bl) w ρ (tm t) (a.tmps.getD t undef):=hf t;show VRel _ _ _ (asg tl t) _;generalize asg tl t=y at e1 ⊢
   have e1:gP pre.length bl ks (tm t) y:=e1;have fin:∀ y:V,tm t=y/\y.clos=true->VRel (Dof C.D0 (ρ.take pre.length++ks.map (yQ ρ)) (pre++xs.map gb)) w (ρ.take pre.length++ks.map (yQ ρ)) y (a.tmps.getD t undef):=fun y h=>by
    rw[h.1]at e2;exact(e2.clos h.2).step (Ext.refl _ _) (fun b _ hb=>hD b hb) (LocsLe.refl _)
   have fin2:∀ y:V,tm t=y/\wJ y=true->VRel (Dof C.D0 (ρ.take pre.length++ks.map (yQ ρ)) (pre++xs.map gb)) w (ρ.take pre.length++ks.map (yQ ρ)) y (a.tmps.getD t undef):=fun y h=>by
    rw[h.1]at e2;exact(xW e2 h.2).step (Ext.refl _ _) (fun b _ hb=>hD b hb) (LocsLe.refl _)
   match y,e1 with
   | .c y,e1 =>
    exact U6 hs hD at_j out e1 fun x hx=>by
     have hx:tm t = .c x:=hx;rw[hx]at e2;exact e2
   | .g l,e1 =>
    rcases e1 with⟨h1,h2⟩ | ⟨l',h1,h2⟩
    ·exact fin _ ⟨h1,h2⟩
    ·rw[h1]at e2;obtain⟨vs,h3,h4⟩:=e2;exact⟨vs,h3,regL_rel hs hD at_j out h2 h4⟩
   | .t2 ..,e1=>exact fin2 _ e1
   | .t3 ..,e1=>exact fin2 _ e1
   | .t4 ..,e1=>exact fin2 _ e1
   | .un,e1=>exact fin2 _ e1
theorem Weak.gen {tm:Nat->V} {bl:List Blk} {tl:List (Nat × V)} {xs:List Gx} (ks:List (Option Nat)) (hi:injK ks=true) (hb:srcsG 0 bl ks ks xs) (hl:Vp tl fun p=>gP 0 bl ks (tm p.1) p.2):Weak 0 ⟨tm,bl⟩ (gst tl xs) :=
 Weak.genG [] rfl rfl ks hi hb hl
theorem WZ {sz:Nat} {g g':Nat->List Cell} {k i j:Nat} {l:List Cell} (hl:l.length=sz) (hj:j<sz) (h:(if i=k then l else g i)=g' i):zY (fun i j=>(g i).getD j .any) k 0 l i j=(g' i).getD j .any:=by
 rw[<- h];unfold zY;by_cases e:i=k
 ·rw[if_pos ⟨e,Nat.zero_le _,by omega⟩,if_pos e];rfl
 ·rw[if_neg (fun h=>e h.1),if_neg e]
theorem appG {sz:Nat} {g g':Nat->List Cell} {k i j m:Nat} {l:List Cell} (h:(if i=k then l else g i)=g' i) (hm:m<=k+1) (hi:i<m):zB k (fun i j=>(g i).getD j .any) (xJ sz l) i j=(g' i).getD j .any:=by
 rw[<- h];unfold zB;by_cases e:i=k
 ·subst e;rw[if_neg (Nat.lt_irrefl _),if_pos rfl,Nat.sub_self];unfold xJ;rw[Nat.zero_mul,Nat.zero_add]
 ·rw[if_pos (by omega),if_neg e]
end Go.Proofs.YtkmbnldginonbaaGreat
namespace Dg
def B:Nat:=4294967296
theorem B_eq:B=4294967296:=rfl
theorem B_pos:0<B:=by decide
def val : List Nat → Nat
 | []=>0
 | d :: l=>d+B*val l
def ok (l:List Nat):Prop:=∀ d∈l,d<B
theorem ok_nil:ok []:=by intro d h;cases h
theorem ok_cons {d:Nat} {l:List Nat}:ok (d :: l)↔d<B/\ok l:=by
 simp[ok]
theorem ok_get {l:List Nat} (h:ok l) {i:Nat} (hi:i<l.length):l[i]<B:=h _ (List.getElem_mem hi)
theorem ok_getD {l:List Nat} (h:ok l) (i:Nat):l[i]?.getD 0<B:=by
 cases hi:l[i]? with
 | none=>exact B_pos
 | some v=>exact h v (List.mem_of_getElem? hi)
theorem ok_take {l:List Nat} (h:ok l) (k:Nat):ok (l.take k):=fun d hd=>h d (List.mem_of_mem_take hd)
theorem ok_drop {l:List Nat} (h:ok l) (k:Nat):ok (l.drop k):=fun d hd=>h d (List.mem_of_mem_drop hd)
theorem ok_set {l:List Nat} (h:ok l) {i d:Nat} (hd:d<B):ok (l.set i d):=by
 intro x hx;rcases List.mem_or_eq_of_mem_set hx with h1 | h1
 ·exact h x h1
 ·exact h1 ▸ hd
theorem ok_replicate (n:Nat):ok (List.replicate n 0):=by
 intro d hd;rw[List.eq_of_mem_replicate hd];exact B_pos
theorem val_append (a b:List Nat):val (a++b)=val a+B^a.length*val b:=by
 induction a with
 | nil=>simp[val]
 | cons d l ih=>simp only[List.cons_append,val,ih,List.length_cons,Nat.pow_succ];grind
theorem val_replicate (n:Nat):val (List.replicate n 0)=0:=by
 induction n with
 | zero=>rfl
 | succ n ih=>simp[List.replicate_succ,val,ih]
theorem val_lt {l:List Nat} (h:ok l):val l<B^l.length:=by
 induction l with
 | nil=>simp[val]
 | cons d l ih =>
  rw[ok_cons]at h;have:=ih h.2;simp only[val,List.length_cons,Nat.pow_succ];have h2:B*val l+B<=B*B^l.length:=by
   have:=Nat.mul_le_mul_left B this;rw[Nat.mul_succ]at this;exact this
  have:=h.1;rw[Nat.mul_comm (B^_)];omega
theorem val_snoc (l:List Nat) (d:Nat):val (l++[d])=val l+B^l.length*d:=by
 rw[val_append];simp[val]
theorem val_take_succ {l:List Nat} {k:Nat} (h:k<l.length):val (l.take (k+1))=val (l.take k)+B^k*l[k]:=by
 rw[List.take_succ_eq_append_getElem h,val_snoc,List.length_take,Nat.min_eq_left (Nat.le_of_lt h)]
theorem xf (l:List Nat) {k:Nat} (h:k<=l.length):val l=val (l.take k)+B^k*val (l.drop k):=by
 conv=>lhs;rw[<- List.take_append_drop k l]
 rw[val_append,List.length_take,Nat.min_eq_left h]
theorem val_set {l:List Nat} {i:Nat} (h:i<l.length) (d:Nat):val (l.set i d)+B^i*l[i]=val l+B^i*d:=by
 induction l generalizing i with
 | nil=>simp at h
 | cons x l ih =>
  cases i with
  | zero=>simp[val];omega
  | succ i =>
   have:=ih (i:=i) (by simpa using h);simp only[List.set_cons_succ,val,List.getElem_cons_succ,Nat.pow_succ];grind
def trimmed (l:List Nat):Prop:=∀ d,l.getLast? = some d->d≠0
def trim : List Nat → List Nat
 | []=>[]
 | d :: l=>match trim l with
  | []=>if d=0 then []else [d]
  | r=>d :: r
theorem val_trim (l:List Nat):val (trim l)=val l:=by
 induction l with
 | nil=>rfl
 | cons d l ih =>
  unfold trim;split
  ·rename_i h;rw[h]at ih;split
   ·rename_i h0;simp[val]at ih ⊢;rw[<- ih,h0];rfl
   ·simp[val]at ih ⊢;rw[<- ih];rfl
  ·simp only[val];rw[ih]
theorem trim_trimmed (l:List Nat):trimmed (trim l):=by
 induction l with
 | nil=>intro d h;simp[trim]at h
 | cons d l ih =>
  unfold trim;split
  ·split
   ·intro d h;simp at h
   ·intro x h;simp at h;omega
  ·rename_i r h;intro x hx;rw[List.getLast?_cons]at hx;cases hr:(trim l).getLast? with
   | none=>simp at hr;exact absurd hr h
   | some y=>rw[hr]at hx;simp at hx;subst hx;exact ih y hr
theorem ok_trim {l:List Nat} (h:ok l):ok (trim l):=by
 induction l with
 | nil=>exact h
 | cons d l ih =>
  rw[ok_cons]at h;unfold trim;split
  ·split
   ·exact ok_nil
   ·exact ok_cons.2 ⟨h.1,ok_nil⟩
  ·exact ok_cons.2 ⟨h.1,ih h.2⟩
theorem val_eq_zero {l:List Nat} (h:trimmed l):val l=0↔l=[]:=by
 refine⟨fun hv=>?_,fun h=>by rw[h];rfl⟩;cases hl:l.getLast? with
 | none=>simpa using hl
 | some d =>
  exfalso;obtain⟨m,rfl⟩:=List.getLast?_eq_some_iff.1 hl;rw[val_snoc]at hv;have hd:=h d hl;have:0<B^m.length*d:=Nat.mul_pos (Nat.pow_pos B_pos) (by omega);omega
theorem trimmed_tail {d:Nat} {l:List Nat} (h:trimmed (d :: l)):trimmed l:=by
 intro x hx;refine h x ?_;rw[List.getLast?_cons,hx];rfl
theorem val_inj {a b:List Nat} (ha:ok a) (hb:ok b) (ta:trimmed a) (tb:trimmed b) (h:val a=val b):a=b:=by
 induction a generalizing b with
 | nil=>exact((val_eq_zero tb).1 h.symm).symm
 | cons d l ih =>
  cases b with
  | nil=>exact(val_eq_zero ta).1 h
  | cons e m =>
   rw[ok_cons]at ha hb;simp only[val]at h;have h1:d=e:=by
    have:=congrArg (·%B) h;simp only[Nat.add_mul_mod_self_left]at this;rwa [Nat.mod_eq_of_lt ha.1,Nat.mod_eq_of_lt hb.1]at this
   subst h1;have h2:val l=val m:=Nat.eq_of_mul_eq_mul_left B_pos (by omega);rw[ih ha.2 hb.2 (trimmed_tail ta) (trimmed_tail tb) h2]
theorem trim_of_trimmed {l:List Nat} (ho:ok l) (h:trimmed l):trim l=l :=
 val_inj (ok_trim ho) ho (trim_trimmed l) h (val_trim l)
theorem pow_le_val {l:List Nat} (h:trimmed l) (hn:l≠[]):B^(l.length-1)<=val l:=by
 cases hl:l.getLast? with
 | none=>exact absurd (by simpa using hl) hn
 | some d =>
  obtain⟨m,rfl⟩:=List.getLast?_eq_some_iff.1 hl;rw[val_snoc];have hd:=h d hl;have h2:B^m.length*1<=B^m.length*d:=Nat.mul_le_mul_left _ (by omega);simp;omega
theorem val_lt_of_length {a b:List Nat} (ha:ok a) (tb:trimmed b) (h:a.length<b.length):val a<val b:=by
 have h1:=val_lt ha;have h2:=pow_le_val tb (by intro e;subst e;simp at h);have h3:B^a.length<=B^(b.length-1):=Nat.pow_le_pow_right B_pos (by omega);omega
end Dg
namespace Go.Proofs.YtkmbnldginonbaaGreat
def sgn (neg:Bool) (k:Nat):Int:=if neg then -(k:Int)else k
end Go.Proofs.YtkmbnldginonbaaGreat
/- Plain facts on sums, differences, products and quotients of lists of digits, one step of a loop at a time. No condition. -/
namespace Dg
theorem take_set_succ {o:List Nat} {k:Nat} (h:k<o.length) (d:Nat):(o.set k d).take (k+1)=o.take k++[d]:=by
 rw[List.take_succ_eq_append_getElem (by simpa using h),List.take_set_of_le (Nat.le_refl k)];simp
theorem val_take_set_succ {o:List Nat} {k:Nat} (h:k<o.length) (d:Nat):val ((o.set k d).take (k+1))=val (o.take k)+B^k*d:=by
 rw[take_set_succ h,val_snoc,List.length_take,Nat.min_eq_left (Nat.le_of_lt h)]
theorem val_take_succ_getD (l:List Nat) (k:Nat):val (l.take (k+1))=val (l.take k)+B^k*(l[k]?.getD 0):=by
 by_cases h:k<l.length
 ·rw[val_take_succ h];simp[h]
 ·rw[List.take_of_length_le (by omega),List.take_of_length_le (by omega)];simp[h]
theorem take_all {l:List Nat} {k:Nat} (h:l.length<=k):l.take k=l:=List.take_of_length_le h

theorem plus_step {a b o : List Nat} {k c : Nat} (hk : k < o.length) (hI : val (o.take k) + B ^ k * c = val (a.take k) + val (b.take k)) :
  val ((o.set k ((a[k]?.getD 0+b[k]?.getD 0+c)%B)).take (k+1))+B^(k+1)*((a[k]?.getD 0+b[k]?.getD 0+c) / B)=val (a.take (k+1))+val (b.take (k+1)):=by
 rw[val_take_set_succ hk,val_take_succ_getD,val_take_succ_getD];generalize a[k]?.getD 0=x at *;generalize b[k]?.getD 0=y at *;have h:=Nat.div_add_mod (x+y+c) B;rw[Nat.pow_succ];generalize (x+y+c) / B=q at *;generalize (x+y+c)%B=r at *;generalize B^k=P at *;grind
theorem less_step {a b o : List Nat} {k c d c' : Nat} (hk : k < o.length) (hI : val (o.take k) + val (b.take k) = val (a.take k) + B ^ k * c)
  (h:d+b[k]?.getD 0+c=a[k]?.getD 0+B*c') :
  val ((o.set k d).take (k+1))+val (b.take (k+1))=val (a.take (k+1))+B^(k+1)*c':=by
 rw[val_take_set_succ hk,val_take_succ_getD,val_take_succ_getD,Nat.pow_succ];generalize a[k]?.getD 0=x at *;generalize b[k]?.getD 0=y at *;generalize B^k=P at *;have:=congrArg (P*·) h;grind

theorem times_step {o : List Nat} {V x y i j c : Nat} (hk : i + j < o.length) (b : List Nat) (hy : b[j]?.getD 0 = y)
  (hI:val o+B^(i+j)*c=V+B^i*(x*val (b.take j))) :
  val (o.set (i+j) ((x*y+o[i+j]?.getD 0+c)%B))+B^(i+(j+1))*((x*y+o[i+j]?.getD 0+c) / B)=V+B^i*(x*val (b.take (j+1))):=by
 have hs:=val_set hk ((x*y+o[i+j]?.getD 0+c)%B);rw[val_take_succ_getD,hy];have hg:o[i+j]?.getD 0=o[i+j]:=by simp[hk]
 rw[hg]at hs ⊢
 generalize o[i+j]=z at *;have h:=Nat.div_add_mod (x*y+z+c) B;generalize (x*y+z+c) / B=q at *;generalize (x*y+z+c)%B=r at *;generalize val (o.set (i+j) r)=W at *;generalize val (b.take j)=Y at *;have e:B^(i+(j+1))*q=B^(i+j)*(B*q):=by rw[<- Nat.add_assoc,Nat.pow_succ,Nat.mul_assoc]
 have e3:B^i*(x*(Y+B^j*y))=B^i*(x*Y)+B^(i+j)*(x*y):=by
  rw[Nat.pow_add,Nat.mul_add,Nat.mul_add];congr 1;ac_rfl
 have e4:B^(i+j)*(B*q)+B^(i+j)*r=B^(i+j)*(x*y)+B^(i+j)*z+B^(i+j)*c:=by
  rw[<- Nat.mul_add,h,Nat.mul_add,Nat.mul_add]
 rw[e,e3];generalize B^(i+j)*(B*q)=t1 at *;generalize B^(i+j)*r=t2 at *;generalize B^(i+j)*(x*y)=t3 at *;generalize B^(i+j)*z=t4 at *;generalize B^(i+j)*c=t5 at *;omega
theorem times_bound {x y z c:Nat} (hx:x<B) (hy:y<B) (hz:z<B) (hc:c<B):x*y+z+c<B*B:=by
 have h1:x*y<=(B-1)*(B-1):=Nat.mul_le_mul (by omega) (by omega);have h2:(B-1)*(B-1)+(B-1)+(B-1)<B*B:=by simp only[B_eq];omega
 omega
theorem div_lt_B {t:Nat} (h:t<B*B):t / B<B:=Nat.div_lt_of_lt_mul h

theorem short_step {x d r:Nat} (X Q:Nat) (h:X=Q*d+r):x+B*X=((r*B+x) / d+B*Q)*d+(r*B+x)%d:=by
 have h1:=Nat.div_add_mod (r*B+x) d;have e:B*X=B*Q*d+r*B:=by rw[h,Nat.mul_add,Nat.mul_assoc,Nat.mul_comm B r]
 rw[Nat.add_mul,Nat.mul_comm _ d,e];generalize B*Q*d=t at *;generalize d*((r*B+x) / d)=u at *;generalize r*B=z at *;omega
theorem short_lt {x d r:Nat} (hx:x<B) (hr:r<d):(r*B+x) / d<B:=by
 apply Nat.div_lt_of_lt_mul;have:(r+1)*B<=d*B:=Nat.mul_le_mul_right B hr;rw[Nat.add_mul]at this;omega
end Dg
/- Plain facts on the division of lists of digits: the guess at a digit of the quotient, its correction, the subtraction of a multiple. No condition. -/
namespace Dg
theorem mulsub_step {u v o : List Nat} {g k c c' b b' d : Nat} (hk : k < o.length)
  (hI:val (o.take k)+g*val (v.take k)=val (u.take k)+B^k*(c+b))
  (ht:g*v[k]?.getD 0+c=(g*v[k]?.getD 0+c)%B+B*c')
  (h:d+(g*v[k]?.getD 0+c)%B+b=u[k]?.getD 0+B*b') :
  val ((o.set k d).take (k+1))+g*val (v.take (k+1))=val (u.take (k+1))+B^(k+1)*(c'+b'):=by
 rw[val_take_set_succ hk,val_take_succ_getD,val_take_succ_getD];generalize (g*v[k]?.getD 0+c)%B=lo at *;have e:g*(val (v.take k)+B^k*v[k]?.getD 0)=g*val (v.take k)+B^k*(g*v[k]?.getD 0):=by
  rw[Nat.mul_add];congr 1;ac_rfl
 have e2:B^(k+1)*(c'+b')=B^k*(B*c')+B^k*(B*b'):=by
  rw[Nat.pow_succ,Nat.mul_add,Nat.mul_assoc,Nat.mul_assoc]
 have h3:B^k*(g*v[k]?.getD 0)+B^k*c=B^k*lo+B^k*(B*c'):=by rw[<- Nat.mul_add,ht,Nat.mul_add]
 have h4:B^k*d+B^k*lo+B^k*b=B^k*u[k]?.getD 0+B^k*(B*b'):=by rw[<- Nat.mul_add,<- Nat.mul_add,h,Nat.mul_add]
 rw[e,e2];rw[Nat.mul_add]at hI;generalize B^k*(g*v[k]?.getD 0)=t1 at *;generalize B^k*(B*c')=t2 at *;generalize B^k*(B*b')=t3 at *;generalize B^k*d=t4 at *;generalize B^k*lo=t5 at *;generalize B^k*u[k]?.getD 0=t6 at *;generalize B^k*c=t7 at *;generalize B^k*b=t8 at *;omega

structure Ends (U V P top u0 v1 v2 u' v' : Nat) : Prop where
 hU:U=(top*B+u0)*P+u'
 hV:V=(v1*B+v2)*P+v'
 hu:u'<P
 hv:v'<P
 hu0:u0<B
 hv2:v2<B
 hv1:v1<B
 norm:B<=2*v1

theorem guess_down {U V P top u0 v1 v2 u' v' g rest:Nat} (e:Ends U V P top u0 v1 v2 u' v') (hg:g*v1+rest=top) (hc:rest*B+u0<g*v2):U<g*V:=by
 have h1:top*B+u0+1<=g*(v1*B+v2):=by
  have e1:g*(v1*B+v2)=g*v1*B+g*v2:=by rw[Nat.mul_add,Nat.mul_assoc]
  have e2:top*B=g*v1*B+rest*B:=by rw[<- hg,Nat.add_mul]
  omega
 have h2:(top*B+u0+1)*P<=g*(v1*B+v2)*P:=Nat.mul_le_mul_right P h1;have h3:g*V=g*(v1*B+v2)*P+g*v':=by rw[e.hV,Nat.mul_add,Nat.mul_assoc]
 have h4:=e.hU;have h5:=e.hu;rw[Nat.add_mul,Nat.one_mul]at h2;omega

theorem guess_stop {U V P top u0 v1 v2 u' v' g rest : Nat} (e : Ends U V P top u0 v1 v2 u' v') (hg : g * v1 + rest = top) (hc : g * v2 ≤ rest * B + u0) (hgB : g < B) (hg1 : 0 < g) :
  (g-1)*V<=U:=by
 have h1:g*(v1*B+v2)<=top*B+u0:=by
  have e1:g*(v1*B+v2)=g*v1*B+g*v2:=by rw[Nat.mul_add,Nat.mul_assoc]
  have e2:top*B=g*v1*B+rest*B:=by rw[<- hg,Nat.add_mul]
  omega
 have h2:g*(v1*B+v2)*P<=(top*B+u0)*P:=Nat.mul_le_mul_right P h1;have hU:=e.hU;have hV:V<=(v1*B+v2+1)*P:=by rw[e.hV,Nat.add_mul (_+_),Nat.one_mul];have:=e.hv;omega
 have h3:(g-1)*V<=(g-1)*((v1*B+v2+1)*P):=Nat.mul_le_mul_left _ hV;have h4:(g-1)*(v1*B+v2+1)<=g*(v1*B+v2):=by
  obtain⟨k,rfl⟩:∃ k,g=k+1:=⟨g-1,by omega⟩;rw[Nat.add_sub_cancel,Nat.add_mul,Nat.mul_add,Nat.mul_one,Nat.one_mul];have:B*1<=v1*B:=by
   rw[Nat.mul_comm v1];refine Nat.mul_le_mul_left B ?_;have:=e.norm;have hB:2<=B:=by decide
   omega
  omega
 have h5:=Nat.mul_le_mul_right P h4;rw[Nat.mul_assoc]at h5;omega

theorem guess_start {U V P top u0 v1 v2 u' v':Nat} (e:Ends U V P top u0 v1 v2 u' v') (hUV:U<V*B):U<(top / v1+1)*V/\top / v1<=B+1/\top / v1*v1+top%v1=top/\top%v1<v1:=by
 have hv1:0<v1:=by have:=e.norm;have:=B_pos;omega
 have hm:=Nat.div_add_mod top v1;have hl:=Nat.mod_lt top hv1;rw[Nat.mul_comm]at hm;refine⟨?_,?_,hm,hl⟩
 ·have h1:top<(top / v1+1)*v1:=by rw[Nat.add_mul,Nat.one_mul];omega
  have h2:(top+1)*B<=(top / v1+1)*v1*B:=Nat.mul_le_mul_right B h1;have h3:(top*B+u0+1)*P<=(top / v1+1)*v1*B*P:=Nat.mul_le_mul_right P (by rw[Nat.add_mul,Nat.one_mul]at h2;have:=e.hu0;omega);have h4:(top / v1+1)*v1*B*P<=(top / v1+1)*V:=by
   rw[Nat.mul_assoc,Nat.mul_assoc];refine Nat.mul_le_mul_left _ ?_;rw[e.hV,<- Nat.mul_assoc,Nat.add_mul (v1*B)];omega
  have hU:=e.hU;have:=e.hu;rw[Nat.add_mul (_+_),Nat.one_mul]at h3;omega
 ·apply Nat.le_of_lt_succ;apply Nat.div_lt_of_lt_mul
  -- top * B * P <= U < V * B <= (v1 * B + v2 + 1) * P * B
  have h1:top*B*P<=U:=by rw[e.hU,Nat.add_mul (top*B)];omega
  have hV:V<(v1*B+v2+1)*P:=by rw[e.hV,Nat.add_mul (_+_),Nat.one_mul];have:=e.hv;omega
  have h2:V*B<=(v1*B+v2+1)*P*B:=Nat.mul_le_mul_right B (Nat.le_of_lt hV);have h3:top*(B*P)<(v1*B+v2+1)*(B*P):=by
   have e1:top*(B*P)=top*B*P:=by rw[Nat.mul_assoc]
   have e2:(v1*B+v2+1)*(B*P)=(v1*B+v2+1)*P*B:=by ac_rfl
   omega
  have h4:top<v1*B+v2+1:=Nat.lt_of_mul_lt_mul_right h3;have:=e.hv2;have:=e.norm;have e5:v1*(B+1+1)=v1*B+2*v1:=by rw[Nat.mul_add,Nat.mul_add];omega
  show top<v1*(B+1+1);omega

theorem guess_right {U V W g M:Nat} (h:W+g*V=U) (hU:U<(g+1)*V):U / V=g/\U%V=W:=by
 have hV:W<V:=by rw[Nat.add_mul,Nat.one_mul]at hU;omega
 have:=M;subst h;rw[Nat.add_mul_div_right _ _ (by omega),Nat.div_eq_of_lt hV,Nat.add_mul_mod_self_right,Nat.mod_eq_of_lt hV];simp
end Dg
/- Plain facts on lists of digits that are moved by binary places, and on their order. No condition. -/
namespace Dg
theorem WY {s:Nat} (hs:s<=32):∃ m,B=2^s*m:=by
 refine⟨2^(32-s),?_⟩;rw[<- Nat.pow_add,show s+(32-s)=32 from by omega];rfl
theorem low_dvd {s x:Nat} (hs:s<=32):x*2^s%B=2^s*(x*2^s%B / 2^s):=by
 obtain⟨m,hm⟩:=WY hs;rw[Nat.mul_div_cancel'];rw[hm,Nat.mul_comm x,Nat.mul_mod_mul_left];exact Nat.dvd_mul_right _ _
theorem or_low {s x h:Nat} (hs:s<=32) (hh:h<2^s):h ||| (x*2^s%B)=h+x*2^s%B:=by
 rw[low_dvd hs,Nat.or_comm,Nat.add_comm,Nat.two_pow_add_eq_or_of_lt hh]
theorem or_high {x h:Nat} (hh:x<B):x ||| (h*B)=x+h*B:=by
 have:=Nat.two_pow_add_eq_or_of_lt (i:=32) (b:=x) hh h;rw[show(2^32:Nat)=B from rfl]at this;rw[Nat.or_comm,Nat.add_comm,Nat.mul_comm,this]
theorem high_lt {s x:Nat} (hx:x<B):x*2^s / B<2^s:=by
 apply Nat.div_lt_of_lt_mul;exact Nat.mul_lt_mul_of_pos_right hx (Nat.pow_pos (by omega))
theorem pow_le_half {s:Nat} (hs:s<=31):2^s<=2147483648:=by
 have:=Nat.pow_le_pow_right (n:=2) (by omega) hs;exact this

theorem shifted_step {a o : List Nat} {i s : Nat} (hs : s ≤ 31) (hi : i + 1 < o.length) (hx : a[i]?.getD 0 < B)
  (hI:val (o.take (i+1))=val (a.take i)*2^s) (ho:o[i]?.getD 0<2^s) :
  val (((o.set i (o[i]?.getD 0 ||| (a[i]?.getD 0*2^s%B))).set (i+1) (a[i]?.getD 0*2^s / B)).take (i+1+1))=val (a.take (i+1))*2^s /\
  a[i]?.getD 0*2^s / B<2^s/\(o[i]?.getD 0 ||| (a[i]?.getD 0*2^s%B))<B:=by
 rw[val_take_set_succ (by simpa using hi),val_take_set_succ (by omega),val_take_succ_getD,or_low (by omega) ho];rw[val_take_succ_getD]at hI;generalize a[i]?.getD 0=x at *;generalize o[i]?.getD 0=z at *;have hdm:=Nat.div_add_mod (x*2^s) B;have hlow:=low_dvd (s:=s) (x:=x) (by omega);obtain⟨m,hm⟩:=WY (s:=s) (by omega);have hml:x*2^s%B<B:=Nat.mod_lt _ B_pos;refine⟨?_,high_lt hx,?_⟩
 ·have e:B^(i+1)*(x*2^s / B)=B^i*(B*(x*2^s / B)):=by rw[Nat.pow_succ,Nat.mul_assoc]
  have e2:(val (a.take i)+B^i*x)*2^s=val (a.take i)*2^s+B^i*(x*2^s):=by rw[Nat.add_mul,Nat.mul_assoc]
  have e3:B^i*(x*2^s)=B^i*(B*(x*2^s / B))+B^i*(x*2^s%B):=by rw[<- Nat.mul_add,hdm]
  rw[e,e2,e3,Nat.mul_add (B^i) z];generalize B^i*(B*(x*2^s / B))=t1 at *;generalize B^i*(x*2^s%B)=t2 at *;omega
 ·generalize x*2^s%B=lo at *;have h1:lo / 2^s<m:=by
   apply Nat.div_lt_of_lt_mul;rw[<- hm];exact hml
  have h2:2^s*(lo / 2^s+1)<=2^s*m:=Nat.mul_le_mul_left _ h1;rw[Nat.mul_add,<- hlow,<- hm,Nat.mul_one]at h2;generalize 2^s=P at *;omega

def unsh (s : Nat) : List Nat → List Nat
 | []=>[]
 | x :: l=>(x+(l[0]?.getD 0)*B) / 2^s%B :: unsh s l
theorem unsh_length (s:Nat) (l:List Nat):(unsh s l).length=l.length:=by
 induction l with
 | nil=>rfl
 | cons x l ih=>simp[unsh,ih]
theorem unsh_get (s:Nat) (l:List Nat) (i:Nat) (h:i<l.length):(unsh s l)[i]? = some ((l[i]+(l[i+1]?.getD 0)*B) / 2^s%B):=by
 induction l generalizing i with
 | nil=>simp at h
 | cons x l ih =>
  cases i with
  | zero=>simp only[unsh,List.getElem?_cons_zero,List.getElem_cons_zero,List.getElem?_cons_succ,Nat.zero_add]
  | succ i=>simp only[unsh,List.getElem?_cons_succ,List.getElem_cons_succ];exact ih i (by simpa using h)
theorem val_unsh {s:Nat} (hs:s<=31) {l:List Nat} (h:ok l):val (unsh s l)=val l / 2^s:=by
 obtain⟨m,hm⟩:=WY (s:=s) (by omega);have hP:0<2^s:=Nat.pow_pos (by omega);induction l with
 | nil=>simp[unsh,val]
 | cons x l ih =>
  rw[ok_cons]at h;simp only[unsh,val,ih h.2]
  -- val l = hd + B * r
  obtain⟨hd,r,hv,hhd,hlt⟩:∃ hd r,val l=hd+B*r/\l[0]?.getD 0=hd/\hd<B:=by
   cases l with
   | nil=>exact⟨0,0,by simp[val],rfl,B_pos⟩
   | cons y k=>exact⟨y,val k,rfl,rfl,(ok_cons.1 h.2).1⟩
  rw[hhd,hv];have h1:=h.1;generalize hPe:2^s=P at *
  -- hd = P * a + b
  have hdm:=Nat.div_add_mod hd P;have hb:=Nat.mod_lt hd hP;generalize hd / P=a at *;generalize hd%P=b at *;subst hdm;have e1:x+(P*a+b)*B=(x+b*B)+P*(a*B):=by rw[Nat.add_mul,Nat.mul_assoc];omega
  have e2:P*a+b+B*r=b+P*(a+m*r):=by rw[Nat.mul_add,<- Nat.mul_assoc,<- hm];omega
  have e3:x+B*(b+P*(a+m*r))=(x+b*B)+P*(B*(a+m*r)):=by
   rw[Nat.mul_add B b,Nat.mul_left_comm B P,Nat.mul_comm b B,Nat.add_assoc]
  rw[e1,e2,e3,Nat.add_mul_div_left _ _ hP,Nat.add_mul_div_left _ _ hP,Nat.add_mul_div_left _ _ hP,Nat.div_eq_of_lt hb,Nat.add_mul_mod_self_right];clear e1 e2 e3;have h4:(x+b*B) / P<B:=by
   apply Nat.div_lt_of_lt_mul;have:(b+1)*B<=P*B:=Nat.mul_le_mul_right B hb;rw[Nat.add_mul]at this;omega
  rw[Nat.mod_eq_of_lt h4,Nat.zero_add]

theorem lt_of_top {a b:List Nat} {i:Nat} (ha:ok a) (hab:a.length=b.length) (hi:i<a.length) (hd:a.drop (i+1)=b.drop (i+1)) (h:a[i]<b[i]'(by omega)):val a<val b:=by
 rw[xf a (k:=i+1) (by omega),xf b (k:=i+1) (by omega),hd,val_take_succ hi,val_take_succ (by omega)];have h1:=val_lt (ok_take ha i);rw[List.length_take,Nat.min_eq_left (by omega)]at h1;have h2:B^i*(a[i]+1)<=B^i*(b[i]'(by omega)):=Nat.mul_le_mul_left _ h;rw[Nat.mul_add]at h2;omega
end Dg
/- Plain facts on one digit of a quotient, in the form in which the walk of digit wants them. No condition. -/
namespace Dg
theorem getD_eq {l:List Nat} {i:Nat} (h:i<l.length):l[i]?.getD 0=l[i]:=by rw[List.getElem?_eq_getElem h];rfl
theorem UX (l:List Nat) (k:Nat):val (l.take (k+1))=val (l.take k)+B^k*l[k]?.getD 0:=val_take_succ_getD l k
theorem ends_of {O v : List Nat} {m : Nat} (hv : v.length = m + 2) (oO : ok O) (ov : ok v) (norm : B ≤ 2 * v[m + 1]?.getD 0) :
  Ends (val (O.take (m+3))) (val v) (B^m) (O[m+2]?.getD 0*B+O[m+1]?.getD 0) (O[m]?.getD 0) (v[m+1]?.getD 0) (v[m]?.getD 0) (val (O.take m)) (val (v.take m)):=by
 refine⟨?_,?_,?_,?_,ok_getD oO m,ok_getD ov m,ok_getD ov (m+1),norm⟩
 ·rw[UX,UX,UX,Nat.pow_succ B (m+1),Nat.pow_succ B m];generalize B^m=P;rw[Nat.add_mul (_*_),Nat.add_mul (_*_),Nat.add_mul (_*_)];have e1:P*B*B*O[m+2]?.getD 0=O[m+2]?.getD 0*B*B*P:=by ac_rfl
  have e2:P*B*O[m+1]?.getD 0=O[m+1]?.getD 0*B*P:=by ac_rfl
  have e3:P*O[m]?.getD 0=O[m]?.getD 0*P:=by ac_rfl
  rw[e1,e2,e3];omega
 ·have h:val v=val (v.take (m+1+1)):=by rw[List.take_of_length_le (by omega)]
  rw[h,UX,UX,Nat.pow_succ];generalize B^m=P;rw[Nat.add_mul];have e2:P*B*v[m+1]?.getD 0=v[m+1]?.getD 0*B*P:=by ac_rfl
  have e3:P*v[m]?.getD 0=v[m]?.getD 0*P:=by ac_rfl
  rw[e2,e3];omega
 ·have:=val_lt (ok_take oO m);rw[List.length_take]at this;exact Nat.lt_of_lt_of_le this (Nat.pow_le_pow_right B_pos (by omega))
 ·have:=val_lt (ok_take ov m);rw[List.length_take]at this;exact Nat.lt_of_lt_of_le this (Nat.pow_le_pow_right B_pos (by omega))
def Guess (U V top v1 v2 g r:Nat):Prop:=g*v1+r=top/\U<(g+1)*V/\g<=B+1/\r<B/\top<=v1*B+v2
theorem guess_init {U V P top u0 v1 v2 u' v':Nat} (e:Ends U V P top u0 v1 v2 u' v') (h:U<V*B):Guess U V top v1 v2 (top / v1) (top%v1):=by
 obtain⟨h1,h2,h3,h4⟩:=guess_start e h;refine⟨h3,h1,h2,Nat.lt_trans h4 e.hv1,?_⟩;have hh1:top*B*P<=U:=by rw[e.hU,Nat.add_mul (top*B)];omega
 have hV:V<(v1*B+v2+1)*P:=by rw[e.hV,Nat.add_mul (_+_),Nat.one_mul];have:=e.hv;omega
 have hh2:V*B<=(v1*B+v2+1)*P*B:=Nat.mul_le_mul_right B (Nat.le_of_lt hV);have hh3:top*(B*P)<(v1*B+v2+1)*(B*P):=by
  have e1:top*(B*P)=top*B*P:=by rw[Nat.mul_assoc]
  have e2:(v1*B+v2+1)*(B*P)=(v1*B+v2+1)*P*B:=by ac_rfl
  omega
 have:=Nat.lt_of_mul_lt_mul_right hh3;omega
theorem guess_round {U V P top u0 v1 v2 u' v' g r : Nat} (e : Ends U V P top u0 v1 v2 u' v') (h : U < V * B) (hg : Guess U V top v1 v2 g r) (hc : B ≤ g ∨ r * B + u0 < g * v2) :
  1<=g/\(g-1)*v1+(r+v1)=top/\U<(g-1+1)*V/\(B<=r+v1->g-1<B):=by
 obtain⟨h1,h2,h3,h4,h5⟩:=hg;have hB:=B_pos;have hg1:1<=g:=by
  rcases hc with hc | hc
  ·omega
  ·rcases Nat.eq_zero_or_pos g with h0 | h0
   ·subst h0;omega
   ·exact h0
 obtain⟨k,rfl⟩:∃ k,g=k+1:=⟨g-1,by omega⟩;rw[Nat.add_sub_cancel];rw[Nat.add_mul,Nat.one_mul]at h1;refine⟨hg1,by omega,?_,?_⟩
 ·rcases hc with hc | hc
  ·have:=Nat.mul_le_mul_left V hc;rw[Nat.mul_comm V (k+1)]at this;omega
  ·exact guess_down e (by rw[Nat.add_mul,Nat.one_mul];exact h1) hc
 ·intro hr;rcases Nat.lt_or_ge k B with hk | hk
  ·exact hk
  ·exfalso;have hk2:k=B:=by omega
   subst hk2;rw[Nat.mul_comm]at h1;have:=e.hv2;omega
def Guessed (U V g:Nat):Prop:=g<B/\U<(g+1)*V/\(0<g->(g-1)*V<=U)
theorem guess_exit {U V P top u0 v1 v2 u' v' g r:Nat} (e:Ends U V P top u0 v1 v2 u' v') (hg:Guess U V top v1 v2 g r) (hgB:g<B) (hc:g*v2<=r*B+u0):Guessed U V g :=
 ⟨hgB,hg.2.1,fun h0=>guess_stop e hg.1 hc hgB h0⟩
theorem guess_break {U V P top u0 v1 v2 u' v' g r:Nat} (e:Ends U V P top u0 v1 v2 u' v') (h1:g*v1+r=top) (h2:U<(g+1)*V) (hgB:g<B) (hr:B<=r):Guessed U V g:=by
 refine⟨hgB,h2,fun h0=>guess_stop e h1 ?_ hgB h0⟩;have h3:g*v2<=B*B:=Nat.mul_le_mul (by omega) (Nat.le_of_lt e.hv2);have h4:B*B<=r*B:=Nat.mul_le_mul_right B hr;omega
theorem sub_right {U V g W M b:Nat} (hg:Guessed U V g) (h:W+g*V=U+M*b) (hb:b=0):U / V=g/\U%V=W:=by
 subst hb;exact guess_right (M:=0) (by omega) hg.2.1
theorem sub_great {U V g W M b:Nat} (hg:Guessed U V g) (h:W+g*V=U+M*b) (hW:W<M) (hb:b=1):0<g/\U / V=g-1/\U%V+M=W+V:=by
 subst hb;have hgp:0<g:=by
  rcases Nat.eq_zero_or_pos g with h0 | h0
  ·subst h0;omega
  ·exact h0
 have h2:=hg.2.2 hgp;obtain⟨k,rfl⟩:∃ k,g=k+1:=⟨g-1,by omega⟩;rw[Nat.add_sub_cancel]at h2 ⊢
 rw[Nat.add_mul,Nat.one_mul,Nat.mul_one]at h;have hU:U<(k+1)*V:=by rw[Nat.add_mul,Nat.one_mul];omega
 have h3:=guess_right (W:=U-k*V) (M:=0) (by omega) hU;refine⟨hgp,h3.1,?_⟩;rw[h3.2];omega
end Dg
/- Plain facts on the division of digits by digits, in the form in which the walk of divide wants them. No condition. -/
namespace Dg
theorem length_le_of_val {l:List Nat} {M:Nat} (h:trimmed l) (hv:val l<B^M):l.length<=M:=by
 rcases Nat.lt_or_ge M l.length with h1 | h1
 ·exfalso;have h2:=pow_le_val h (by intro e;subst e;simp at h1);have h3:B^M<=B^(l.length-1):=Nat.pow_le_pow_right B_pos (by omega);omega
 ·exact h1
theorem val_drop_eq_zero {l:List Nat} {M:Nat} (hv:val l<B^M):val (l.drop M)=0:=by
 by_cases h:M<=l.length
 ·have:=xf l h;rcases Nat.eq_zero_or_pos (val (l.drop M))with h0 | h0
  ·exact h0
  ·have h2:B^M*1<=B^M*val (l.drop M):=Nat.mul_le_mul_left _ h0;omega
 ·rw[List.drop_of_length_le (by omega)];rfl
theorem val_take_of_lt {l:List Nat} {M:Nat} (hv:val l<B^M):val (l.take M)=val l:=by
 by_cases h:M<=l.length
 ·have:=xf l h;rw[val_drop_eq_zero hv]at this;omega
 ·rw[List.take_of_length_le (by omega)]
theorem moved {b vs : List Nat} {m s : Nat} (hb : b.length = m + 2) (ob : ok b) (hs1 : B ≤ 2 * (b[m + 1]?.getD 0 * 2 ^ s)) (hs2 : b[m + 1]?.getD 0 * 2 ^ s < B) (ov : ok vs) (hv : val vs = val b * 2 ^ s) :
  (trim vs).length=m+2/\B<=2*(trim vs)[m+1]?.getD 0/\val vs<B^(m+2)/\B^(m+1)*2^s<=val vs:=by
 have hp:0<2^s:=Nat.pow_pos (by omega);have e:val b=val (b.take (m+1))+B^(m+1)*b[m+1]?.getD 0:=by
  rw[<- val_take_succ_getD,List.take_of_length_le (by omega)]
 have hlo:=val_lt (ok_take ob (m+1));rw[List.length_take,Nat.min_eq_left (by omega)]at hlo;generalize b[m+1]?.getD 0=t at *
 -- the leading digit is at least 1
 have ht:0<t:=by
  rcases Nat.eq_zero_or_pos t with h | h
  ·subst h;have:=B_pos;omega
  ·exact h
 have hlow:B^(m+1)*(t*2^s)<=val vs:=by
  rw[hv,e,Nat.add_mul,Nat.mul_assoc];omega
 have hlt:val vs<B^(m+2):=by
  have h1:val b<B^(m+1)*(t+1):=by rw[Nat.mul_add];omega
  have h2:val vs<B^(m+1)*(t+1)*2^s:=by rw[hv];exact Nat.mul_lt_mul_of_pos_right h1 hp
  have h3:(t+1)*2^s<=B:=by
   -- 2 ^ s divides B and t * 2 ^ s < B
   rcases Nat.lt_or_ge B ((t+1)*2^s)with h | h
   ·exfalso;have hs:s<=32:=by
     rcases Nat.lt_or_ge 32 s with h6 | h6
     ·exfalso;have:2^32<=2^s:=Nat.pow_le_pow_right (by omega) (by omega);have h7:1*2^s<=t*2^s:=Nat.mul_le_mul_right _ ht;have h8:(2:Nat)^32=B:=rfl;omega
     ·exact h6
    obtain⟨q,hq⟩:=WY hs;rw[hq,Nat.mul_comm (2^s)]at h hs2;have h9:=Nat.lt_of_mul_lt_mul_right h;have h10:=Nat.lt_of_mul_lt_mul_right hs2;omega
   ·exact h
  have h4:B^(m+1)*(t+1)*2^s<=B^(m+1)*B:=by rw[Nat.mul_assoc];exact Nat.mul_le_mul_left _ h3
  rw[Nat.pow_succ B (m+1)];omega
 have h1:(trim vs).length<=m+2:=length_le_of_val (trim_trimmed vs) (by rw[val_trim];exact hlt);have hlow2:B^(m+1)*2^s<=val vs:=by
  refine Nat.le_trans (Nat.mul_le_mul_left _ ?_) hlow;have:1*2^s<=t*2^s:=Nat.mul_le_mul_right _ ht;omega
 have h2:m+1<(trim vs).length:=by
  rcases Nat.lt_or_ge (m+1) (trim vs).length with h | h
  ·exact h
  ·exfalso;have h3:=val_lt (ok_trim ov);rw[val_trim]at h3;have h4:B^(trim vs).length<=B^(m+1):=Nat.pow_le_pow_right B_pos h;have h5:B^(m+1)*1<=B^(m+1)*2^s:=Nat.mul_le_mul_left _ hp;omega
 refine⟨by omega,?_,hlt,hlow2⟩;have e2:val (trim vs)=val ((trim vs).take (m+1))+B^(m+1)*(trim vs)[m+1]?.getD 0:=by
  rw[<- val_take_succ_getD,List.take_of_length_le (by omega)]
 have hlo2:=val_lt (ok_take (ok_trim ov) (m+1));rw[List.length_take,Nat.min_eq_left (by omega)]at hlo2;rw[val_trim]at e2;generalize (trim vs)[m+1]?.getD 0=r at *
 -- B ^ (m+1) * (t * 2^s) ≤ val vs < B ^ (m+1) * (r + 1)
 have h6:B^(m+1)*(t*2^s)<B^(m+1)*(r+1):=by rw[Nat.mul_add];omega
 have h7:=Nat.lt_of_mul_lt_mul_left h6;omega
def Made (X V k:Nat) (qs us:List Nat):Prop:=X=val (qs.drop k)*B^k*V+val us/\val (us.drop k)<V
theorem made_start {a us qs : List Nat} {n m s V : Nat} (ha : a.length = n) (oa : ok a) (hn : m + 2 ≤ n) (hus : us.length = n + 1) (hv : val us = val a * 2 ^ s) (hV : B ^ (m + 1) * 2 ^ s ≤ V) (hq : qs.length = n + 1 - (m + 2)) :
  Made (val a*2^s) V (n+1-(m+2)) qs us:=by
 refine⟨by rw[List.drop_of_length_le (by omega),<- hv];simp[val],?_⟩;have h1:=val_lt oa;rw[ha]at h1;have h2:=xf us (k:=n+1-(m+2)) (by omega);rw[hv]at h2;have hp:0<2^s:=Nat.pow_pos (by omega);have h3:val a*2^s<B^n*2^s:=Nat.mul_lt_mul_of_pos_right h1 hp;have e:B^n=B^(n+1-(m+2))*B^(m+1):=by rw[<- Nat.pow_add];congr 1;omega
 rw[e,Nat.mul_assoc]at h3;have h4:B^(n+1-(m+2))*val (us.drop (n+1-(m+2)))<B^(n+1-(m+2))*(B^(m+1)*2^s):=by omega
 have:=Nat.lt_of_mul_lt_mul_left h4;omega
theorem made_pre {X V k m : Nat} {qs us : List Nat} (hk : k < us.length) (ou : ok us) (hM : Made X V (k + 1) qs us) (hV : V < B ^ (m + 2)) :
  val ((us.drop k).take (m+3))<V*B/\val ((us.drop k).take (m+3))=val (us.drop k):=by
 have e:val (us.drop k)=us[k]+B*val (us.drop (k+1)):=by rw[List.drop_eq_getElem_cons hk];rfl
 have h1:=ok_get ou hk;have h2:=hM.2;have h3:B*(val (us.drop (k+1))+1)<=B*V:=Nat.mul_le_mul_left _ h2;rw[Nat.mul_add,Nat.mul_comm B V]at h3;have h4:val (us.drop k)<V*B:=by omega
 have h5:V*B<B^(m+3):=by rw[Nat.pow_succ];exact Nat.mul_lt_mul_of_pos_right hV B_pos
 have h6:=val_take_of_lt (l:=us.drop k) (M:=m+3) (by omega);exact⟨by omega,h6⟩
theorem above {us us' : List Nat} {k M : Nat} (hlen : us'.length = us.length) (hd : us'.drop (k + M) = us.drop (k + M)) (hp : val ((us.drop k).take M) = val (us.drop k)) :
  val (us'.drop k)=val ((us'.drop k).take M):=by
 by_cases hl:M<=(us.drop k).length
 ·have h1:=xf (us.drop k) (k:=M) hl;have h2:=xf (us'.drop k) (k:=M) (by rw[List.length_drop]at hl ⊢;omega);rw[hp,List.drop_drop]at h1;rw[List.drop_drop,hd]at h2;have h0:0<B^M:=Nat.pow_pos B_pos;rcases Nat.eq_zero_or_pos (val (us.drop (k+M)))with h | h
  ·rw[h]at h2;exact h2
  ·have:=Nat.mul_pos h0 h;omega
 ·rw[List.take_of_length_le (by rw[List.length_drop]at hl ⊢;omega)]
theorem made_step {X V k m q : Nat} {qs us us' : List Nat} (hk : k < us.length) (hkq : k < qs.length) (hlen : us'.length = us.length) (hM : Made X V (k + 1) qs us) (hVp : 0 < V)
  (ht:us'.take k=us.take k) (hd:us'.drop (k+(m+3))=us.drop (k+(m+3))) (hp:val ((us.drop k).take (m+3))=val (us.drop k))
  (hq:q=val ((us.drop k).take (m+3)) / V) (hr:val ((us'.drop k).take (m+3))=val ((us.drop k).take (m+3))%V) :
  Made X V k (qs.set k q) us':=by
 have hval':=above hlen hd hp;have hU:=xf us (k:=k) (by omega);have hU':=xf us' (k:=k) (by omega);have hmod:=Nat.div_add_mod (val (us.drop k)) V;rw[hp]at hq hr;rw[hr]at hval';have hlt:=Nat.mod_lt (val (us.drop k)) hVp;refine⟨?_,by rw[hval'];exact hlt⟩;have hkq':k<(qs.set k q).length:=by rw[List.length_set];exact hkq
 have e1:val ((qs.set k q).drop k)=q+B*val (qs.drop (k+1)):=by
  rw[List.drop_eq_getElem_cons hkq',List.drop_set_of_lt (by omega)];simp[val]
 have g1:=hM.1;rw[hU,Nat.pow_succ]at g1;have g2:val us'=val (us.take k)+B^k*(val (us.drop k)%V):=by rw[hU',ht,hval']
 rw[g1,e1,g2,hq];clear g1 g2 e1 hU hU' hval' hd ht hp hr hM hq hkq' hlt;generalize val (us.drop k)=U at *;generalize val (qs.drop (k+1))=Q at *;generalize val (us.take k)=T at *;generalize U%V=r at *;generalize U / V=q at *;generalize B^k=P at *;subst hmod;rw[Nat.mul_add P,Nat.add_mul,Nat.add_mul];have e2:Q*(P*B)*V=B*Q*P*V:=by ac_rfl
 have e3:P*(V*q)=q*P*V:=by ac_rfl
 rw[e2,e3];generalize B*Q*P*V=t1;generalize q*P*V=t2;generalize P*r=t3;omega
theorem made_end {x V y s:Nat} {qs us:List Nat} (hV:V=y*2^s) (hM:Made (x*2^s) V 0 qs us):val qs=x / y/\val us / 2^s=x%y:=by
 obtain⟨h1,h2⟩:=hM;simp only[List.drop_zero,Nat.pow_zero,Nat.mul_one]at h1 h2;have hp:0<2^s:=Nat.pow_pos (by omega);subst hV
 -- the rest is a multiple of 2 ^ s
 have hy:0<y:=by
  rcases Nat.eq_zero_or_pos y with h | h
  ·subst h;omega
  ·exact h
 have e:val us=(x-val qs*y)*2^s:=by
  rw[Nat.sub_mul,Nat.mul_assoc];omega
 have hle:val qs*y<=x:=by
  have:val qs*y*2^s<=x*2^s:=by rw[Nat.mul_assoc];omega
  exact Nat.le_of_mul_le_mul_right this hp
 have hlt:x-val qs*y<y:=by
  rw[e]at h2;exact Nat.lt_of_mul_lt_mul_right h2
 have h3:=guess_right (U:=x) (V:=y) (W:=x-val qs*y) (g:=val qs) (M:=0) (by omega) (by rw[Nat.add_mul,Nat.one_mul];omega);refine⟨h3.1.symm,?_⟩;rw[e,Nat.mul_div_cancel _ hp,h3.2]
end Dg
namespace Go.Proofs.YtkmbnldginonbaaGreat
open Go.RowKit
def digsF : Nat → Nat → List Nat
 | 0,_=>[]
 | k+1,n=>if n=0 then []else n%Dg.B :: digsF k (n / Dg.B)
def qj (n:Nat):List Nat:=digsF n n
theorem VZ : ∀ (k n : Nat), n ≤ k → Dg.val (digsF k n) = n ∧ Dg.ok (digsF k n) ∧ Dg.trimmed (digsF k n)
 | 0,n,h=>by
  have:n=0:=by omega
  subst this;exact⟨rfl,Dg.ok_nil,fun d h=>by simp[digsF]at h⟩
 | k+1,n,h=>by
  simp only[digsF];split
  ·rename_i h0;subst h0;exact⟨rfl,Dg.ok_nil,fun d h=>by simp at h⟩
  ·rename_i h0;have hB:1<Dg.B:=by decide
   have hlt:n / Dg.B<n:=Nat.div_lt_self (by omega) hB;obtain⟨h1,h2,h3⟩:=VZ k (n / Dg.B) (by omega);refine⟨?_,Dg.ok_cons.2 ⟨Nat.mod_lt _ Dg.B_pos,h2⟩,?_⟩
   ·simp only[Dg.val];rw[h1];exact Nat.mod_add_div n Dg.B
   ·intro d hd;cases hl:digsF k (n / Dg.B)with
    | nil =>
     rw[hl]at hd h1;simp at hd;simp only[Dg.val]at h1;have:=Nat.mod_add_div n Dg.B;rw[<- h1]at this;omega
    | cons x l =>
     rw[hl]at hd h3;rw[List.getLast?_cons_cons]at hd;exact h3 d hd
theorem wQ (n:Nat):Dg.val (qj n)=n:=(VZ n n (Nat.le_refl _)).1
theorem zP (n:Nat):Dg.ok (qj n):=(VZ n n (Nat.le_refl _)).2.1
theorem vY (n:Nat):Dg.trimmed (qj n):=(VZ n n (Nat.le_refl _)).2.2
theorem digs_unique {l:List Nat} {n:Nat} (ho:Dg.ok l) (ht:Dg.trimmed l) (hv:Dg.val l=n):l=qj n :=
 Dg.val_inj ho (zP n) ht (vY n) (by rw[hv,wQ])
def qB (x:Int):Nat:=(qj x.natAbs).length
theorem VG {x:Int} {L:Nat} (h:x.natAbs<Dg.B^L):qB x<=L:=Dg.length_le_of_val (vY _) (by rw[wQ];exact h)
theorem VX (x:Int):x.natAbs<Dg.B^qB x:=by
 have:=Dg.val_lt (zP x.natAbs);rwa [wQ]at this
theorem zJ (x y:Int):qB (x*y)<=qB x+qB y:=by
 refine VG ?_;rw[Int.natAbs_mul,Nat.pow_add];exact Nat.mul_lt_mul'' (VX x) (VX y)
theorem zlen_add (x y:Int):qB (x+y)<=max (qB x) (qB y)+1:=by
 refine VG ?_;have h1:=VX x;have h2:=VX y;have h3:Dg.B^qB x<=Dg.B^max (qB x) (qB y):=Nat.pow_le_pow_right Dg.B_pos (by omega);have h4:Dg.B^qB y<=Dg.B^max (qB x) (qB y):=Nat.pow_le_pow_right Dg.B_pos (by omega);have h5:=Int.natAbs_add_le x y;rw[Nat.pow_succ];have hB:2<=Dg.B:=by decide
 have:Dg.B^max (qB x) (qB y)*2<=Dg.B^max (qB x) (qB y)*Dg.B:=Nat.mul_le_mul_left _ hB;omega
theorem kQ (x:Int):qB (-x)=qB x:=by unfold qB;rw[Int.natAbs_neg]
theorem jx {x y:Int} (h:x.natAbs<=y.natAbs):qB x<=qB y:=VG (Nat.lt_of_le_of_lt h (VX y))
def dsC (l:List Nat):Cell := .row 1 l.length fun i _ => .int .u32 (l.getD i 0:Nat)
structure RawZ where
 neg:Bool
 ds:List Nat
def RawZ.val (a:RawZ):Int:=sgn a.neg (Dg.val a.ds)
def zr (a:RawZ):List Cell:=[.bool a.neg,dsC a.ds]
def ofZ (x:Int):RawZ:=⟨decide (x<0),qj x.natAbs⟩
abbrev nz (x:Int):List Cell:=zr (ofZ x)
theorem qX (x:Int):(ofZ x).val=x:=by
 unfold RawZ.val ofZ sgn;simp only[wQ];by_cases h:x<0
 ·simp[h];omega
 ·simp[h];omega
theorem jV (x:Int):Dg.ok (ofZ x).ds:=zP _
theorem yw (x:Int):(ofZ x).ds.length=qB x:=rfl
theorem mixed:Tryz.prog.follows .mixedOrders=true:=by kernel_rfl
def tyTab:List (Nat × TI) :=
 (36,⟨true,2,[.bool false,.nil],32,[some (0,1),some (1,1)],none,none,3⟩) ::
 (38,⟨true,4,[.bool false,.nil,.bool false,.nil],64,[some (0,2),some (2,2)],none,none,0⟩) ::
 (34,⟨false,1,[.nil],24,[],some 119,none,0⟩) ::
 (119,⟨false,1,[.int .u32 0],4,[],none,some .u32,0⟩) ::
 (4,⟨false,1,[.bool false],1,[],none,none,1⟩) ::
 (3,⟨false,1,[.int .i64 0],8,[],none,some .i64,0⟩) ::
 (22,⟨false,1,[.nil],24,[],some 38,none,0⟩) ::
 (27,⟨false,1,[.nil],24,[],some 38,none,0⟩) ::
 (24,⟨true,3,[.int .i64 0,.int .i64 0,.nil],40,[some (0,1),some (1,1),some (2,1)],none,none,3⟩) ::
 (122,⟨false,1,[.nil],24,[],some 22,none,0⟩) ::
 (72,⟨false,1,[.nil],24,[],some 22,none,0⟩) ::
 (76,⟨false,1,[.nil],24,[],some 27,none,0⟩) ::
 (67,⟨false,1,[.nil],24,[],some 3,none,0⟩) ::
 (68,⟨false,1,[.nil],24,[],some 67,none,0⟩) ::
 (28,⟨false,1,[.int .i64 0],8,[],none,some .i64,0⟩) ::
 (147,⟨false,1,[.int .u64 0],8,[],none,some .u64,0⟩) ::
 (9,⟨false,1,[.str ⟨#[]⟩],16,[],none,none,2⟩) ::
 (152,⟨false,1,[.int .u64 0],8,[],none,some .u64,0⟩) ::
 []
def tyE (T:Nat):Option TI:=(tyTab.find? fun p=>p.1 == T).map (·.2)
theorem tyTab_ok:∀ p∈tyTab,yf Tryz.prog p.1=some p.2:=by
 unfold tyTab;repeat (refine List.forall_mem_cons.2 ⟨by kernel_rfl,?_⟩)
 exact fun p h=>absurd h List.not_mem_nil
theorem tyE_ok (T:Nat) (ti:TI) (h:tyE T=some ti):yf Tryz.prog T=some ti:=by
 unfold tyE at h;cases hf:tyTab.find? fun p=>p.1 == T with
 | none=>rw[hf]at h;cases h
 | some p =>
  rw[hf]at h;have h1:=List.find?_some hf;have h2:=tyTab_ok p (List.mem_of_find?_eq_some hf);simp at h h1;rw[<- h1,h2,h]
noncomputable def E1:Env:=⟨Tryz.prog,true,tyE,0⟩
noncomputable def E1m:Env:=⟨Tryz.prog,true,tyE,1⟩
noncomputable def E0:Env:=⟨Tryz.prog,false,tyE,0⟩
noncomputable def E0m:Env:=⟨Tryz.prog,false,tyE,1⟩
theorem E0m_ok:EnvOK E0m:=⟨tyE_ok⟩
theorem qQ:EnvOK E1:=⟨tyE_ok⟩
theorem wj:EnvOK E1m:=⟨tyE_ok⟩
theorem qw:EnvOK E0:=⟨tyE_ok⟩
end Go.Proofs.YtkmbnldginonbaaGreat
