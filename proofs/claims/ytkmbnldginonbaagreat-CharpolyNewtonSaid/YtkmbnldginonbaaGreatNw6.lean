/- Runs whose results are told cell by cell. -/
import Derived.Test.YtkmbnldginonbaaGreatNw5
import Derived.Test.YtkmbnldginonbaaGreatNw3
import Derived.Test.YtkmbnldginonbaaGreatProg
import Derived.KernelRfl
namespace Go.Proofs.YtkmbnldginonbaaGreat
open Go.RowKit
end Go.Proofs.YtkmbnldginonbaaGreat
/- Lists of machine integers: what is remembered of a state at a loop's head. -/
namespace Go.Proofs.YtkmbnldginonbaaGreat
open Go.RowKit
def injK : List (Option Nat) → Bool
 | []=>true
 | none :: l=>injK l
 | some k :: l=>!(l.any fun x=>x == some k)&&injK l
theorem injK_eq : ∀ {ks : List (Option Nat)} (_ : injK ks = true) {i j k : Nat}, ks[i]? = some (some k) → ks[j]? = some (some k) → i = j
 | [],_,i,j,k,h1,_=>by simp at h1
 | none :: l,h,i,j,k,h1,h2=>by
  cases i with
  | zero=>simp at h1
  | succ i =>
   cases j with
   | zero=>simp at h2
   | succ j=>exact congrArg Nat.succ (injK_eq (ks:=l) (k:=k) h (by simpa using h1) (by simpa using h2))
 | some m :: l,h,i,j,k,h1,h2=>by
  simp only[injK,Bool.and_eq_true,Bool.not_eq_true']at h
  cases i with
  | zero =>
   cases j with
   | zero=>rfl
   | succ j =>
    simp at h1 h2;subst h1
    have:=List.any_eq_false.1 h.1 (some m) (List.mem_of_getElem? h2)
    simp at this
  | succ i =>
   cases j with
   | zero =>
    simp at h1 h2;subst h2
    have:=List.any_eq_false.1 h.1 (some m) (List.mem_of_getElem? h1)
    simp at this
   | succ j=>exact congrArg Nat.succ (injK_eq (ks:=l) (k:=k) h.2 (by simpa using h1) (by simpa using h2))
def locK (ρ : List Loc) : Option Nat → Loc
 | some k=>{ ρ.getD k ⟨0,none,0,0⟩with u:=0 }
 | none=>⟨0,none,0,0⟩
theorem subRowG {sz n m:Nat} {f g:Nat->Nat->Cell} (h:n=m) (h2:∀ i j,i<m->j<sz->f i j=g i j):Sub (.c (.row sz n f)) (.c (.row sz m g)):=by
 subst h
 rintro D w v ⟨A,c,rfl,h1,h3⟩
 refine⟨A,c,rfl,h1,fun hn=>?_⟩
 obtain⟨b',o,hA,hb,hD,hc⟩:=h3 hn
 refine⟨b',o,hA,hb,hD,fun i j hi hj=>?_⟩
 rw[← h2 i j hi hj]
 exact hc i j hi hj
theorem subT2 {a b a' b':V} (h1:Sub a a') (h2:Sub b b'):Sub (.t2 a b) (.t2 a' b'):=by
 rintro D w v ⟨x,y,rfl,hx,hy⟩
 exact⟨x,y,rfl,h1 D w x hx,h2 D w y hy⟩
theorem loop_ints {E:Env} {c:Code} {σ:St} {R:Exit->St->Prop} {α:Type} (S:α->St) (m:α->Nat) (I:α->Prop) (x0:α) (hm:E.m0=0) (h0:Weak 0 σ (S x0)) (hI:I x0) (hr:∀ x,I x->awp E c (S x) (seqR (fun σ2=>∃ x',m x'<m x/\Weak 0 σ2 (S x')/\I x') R)):awp E (.loop c) σ R:=by
 refine loop_inv (fun k σ=>∃ x,k=m x/\I x/\σ=S x) (m x0) ⟨S x0,by rw[hm];exact h0,x0,rfl,hI,rfl⟩ ?_
 rintro k σ' ⟨x,rfl,hx,rfl⟩
 have h:=hr x hx
 have e:(fun σ2=>∃ x',m x'<m x/\Weak 0 σ2 (S x')/\I x')=(fun σ2=>∃ n',n'<m x/\∃ σ3,Weak E.m0 σ2 σ3/\∃ x,n'=m x/\I x/\σ3=S x):=by
  funext σ2
  refine propext ⟨?_,?_⟩
  ·rintro ⟨x',h1,h2,h3⟩
   exact⟨m x',h1,S x',by rw[hm];exact h2,x',rfl,h3,rfl⟩
  ·rintro ⟨n',h1,σ3,h2,x',rfl,h3,rfl⟩
   exact⟨x',h1,by rw[hm]at h2;exact h2,h3⟩
 rw[e]at h
 exact h
end Go.Proofs.YtkmbnldginonbaaGreat
/- Lists of any closed cells: what is remembered of a state at a loop's head. -/
namespace Go.Proofs.YtkmbnldginonbaaGreat
open Go.RowKit
structure Gx where
 t:Nat
 sz:Nat
 n:Nat
 f:Nat->Nat->Cell
abbrev gb (x:Gx):Blk:=⟨x.t,x.sz,x.n,0,0,x.f⟩
abbrev gst (tl:List (Nat × V)) (xs:List Gx):St:=⟨asg tl,xs.map gb⟩
def regC (q : Nat) (bl : List Blk) (ks : List (Option Nat)) : Cell → (Cell → Prop) → Prop
 | .gs j 0,e=>match q.ble j,ks[j-q]? with
  | true,some (some k)=>∃ B,bl[k]? = some B/\e (.gs k B.u)/\B.st=0
  | true,some none=>e .nil
  | _,_=>False
 | .sl j 0 sz o n,e=>match q.ble j,ks[j-q]? with
  | true,some (some k)=>∃ B n',bl[k]? = some B/\e (.sl k B.u sz o n')/\B.st=0/\n'=n
  | _,_=>False
 | .p j 0 sz i o,e=>match q.ble j,ks[j-q]? with
  | true,some (some k)=>∃ B,bl[k]? = some B/\e (.p k B.u sz i o)/\B.st=0
  | _,_=>False
 | .int K m,e=>∃ n,e (.int K n)/\n=m
 | .bool b,e=>∃ c,e (.bool c)/\c=b
 | .row sz n f,e=>(∃ n' f',e (.row sz n' f')/\n'=n/\∀ i j,i<n->j<sz->f' i j=f i j)∨(n=0/\e .nil)∨∃ k B,bl[k]? = some B/\e (.gs k B.u)/\q.ble k=true/\(ks.any fun x=>x == some k)=false/\B.st≤1/\B.sz=sz/\B.n=n/\∀ i j,i<n->j<sz->B.f i j=f i j/\(f i j).clos=true
 | .cl F m f,e=>∃ f',e (.cl F m f')/\∀ j,j<m->regC q bl ks (f j) fun x=>f' j=x
 | y,e=>e y/\y.clos=true
def regL (q : Nat) (bl : List Blk) (ks : List (Option Nat)) : List Cell → List Cell → Prop
 | [],[]=>True
 | y :: l,x :: l'=>regC q bl ks y (fun z=>x=z)/\regL q bl ks l l'
 | _,_=>False
def regV (q : Nat) (bl : List Blk) (ks : List (Option Nat)) (v : V) : V → Prop
 | .c y=>regC q bl ks y fun x=>v = .c x
 | .g l=>(v = .g l/\(l.all Cell.clos)=true)∨∃ l',v = .g l'/\regL q bl ks l l'
 | y=>v=y/\y.clos=true
theorem regE {q : Nat} {bl : List Blk} {ks : List (Option Nat)} : ∀ {y : Cell} {e : Cell → Prop}, e y → y.clos = true → regC q bl ks y e
 | .any,_,h,hc=>⟨h,hc⟩
 | .nil,_,h,hc=>⟨h,hc⟩
 | .fn _,_,h,hc=>⟨h,hc⟩
 | .str _,_,h,hc=>⟨h,hc⟩
 | .xp _ _,_,h,hc=>⟨h,hc⟩
 | .int _ _,_,h,_=>⟨_,h,rfl⟩
 | .bool _,_,h,_=>⟨_,h,rfl⟩
 | .row _ _ _,_,h,_ => .inl ⟨_,_,h,rfl,fun _ _ _ _=>rfl⟩
 | .cl F m f,_,h,hc=>⟨f,h,fun j hj=>regE rfl (by simp only[Cell.clos,List.all_eq_true,List.mem_range]at hc;exact hc j hj)⟩
 | .p ..,_,_,hc=>by simp[Cell.clos]at hc
 | .gs ..,_,_,hc=>by simp[Cell.clos]at hc
 | .sl ..,_,_,hc=>by simp[Cell.clos]at hc
def srcG (q : Nat) (bl : List Blk) (ks : List (Option Nat)) (x : Gx) : Option Nat → Prop
 | some k=>∃ B,bl[k]? = some B/\B.t=x.t/\B.sz=x.sz/\B.n=x.n/\B.st=0/\∀ i j,i<x.n->j<x.sz->regC q bl ks (x.f i j) fun y=>B.f i j=y
 | none=>x.n=0
def srcsG (q : Nat) (bl : List Blk) (ks0 : List (Option Nat)) : List (Option Nat) → List Gx → Prop
 | [],[]=>True
 | k :: ks,x :: xs=>srcG q bl ks0 x k/\srcsG q bl ks0 ks xs
 | _,_=>False
theorem srcsG_get {q : Nat} {bl : List Blk} {ks0 : List (Option Nat)} : ∀ {ks : List (Option Nat)} {xs : List Gx}, srcsG q bl ks0 ks xs → ks.length = xs.length ∧ ∀ (j : Nat) x, xs[j]? = some x → ∃ k, ks[j]? = some k ∧ srcG q bl ks0 x k
 | [],[],_=>⟨rfl,fun j x h=>by simp at h⟩
 | k :: ks,x :: xs,h=>by
  obtain⟨h1,h2⟩:=srcsG_get h.2
  refine⟨by simp[h1],fun j y hj=>?_⟩
  cases j with
  | zero=>simp at hj;subst hj;exact⟨k,rfl,h.1⟩
  | succ j=>exact h2 j y (by simpa using hj)
 | [],_ :: _,h=>h.elim
 | _ :: _,[],h=>h.elim
theorem regC_rel {q : Nat} {bl : List Blk} {ks : List (Option Nat)} {D0 : Nat → Prop} {w0 : Base} {r : Bool} {ρ ρ' : List Loc} {w : World} (hs : Sat D0 w0 r ρ bl w) {D' : Nat → Prop} (hD : ∀ b, D' b → Dof D0 ρ bl b)
  (at_j:∀ j k,q.ble j=true->ks[j-q]? = some k->ρ'[j]? = some (locK ρ k))
  (out:∀(k:Nat) (l:Loc) (B:Blk) (b:Nat),ρ[k]? = some l->bl[k]? = some B->B.st≤1->l.b=some b->q.ble k=true->(ks.any fun x=>x == some k)=false->¬ D' b) :
  ∀ {y:Cell} {e:Cell->Prop} {v:Value},regC q bl ks y e->(∀ x,e x->CRel (Dof D0 ρ bl) w ρ x v)->CRel D' w ρ' y v
 | .gs j 0,e,v,h,hv=>by
  simp only[regC]at h
  split at h
  ·rename_i k hb hk
   obtain⟨B,g1,g2,g3⟩:=h
   obtain⟨l,l1,l2,l3⟩:=hv _ g2
   refine⟨{ l with u:=0 },?_,Nat.zero_le _,fun _=>l3 (hs.at_ k l B l1 g1 (by omega)).1⟩
   rw[at_j _ _ hb hk]
   simp[locK,List.getD,l1]
  ·rename_i hb hk
   have e2:v = .slice none 0 0:=hv _ h
   exact⟨⟨0,none,0,0⟩,by rw[at_j _ _ hb hk];rfl,Nat.zero_le _,fun _=>e2⟩
  ·exact h.elim
 | .sl j 0 sz o n,e,v,h,hv=>by
  simp only[regC]at h
  split at h
  ·rename_i k hb hk
   obtain⟨B,n',g1,g2,g3,rfl⟩:=h
   obtain⟨l,l1,l2,l3⟩:=hv _ g2
   refine⟨{ l with u:=0 },?_,Nat.zero_le _,fun _=>l3 (hs.at_ k l B l1 g1 (by omega)).1⟩
   rw[at_j _ _ hb hk]
   simp[locK,List.getD,l1]
  ·exact h.elim
 | .p j 0 sz i o,e,v,h,hv=>by
  simp only[regC]at h
  split at h
  ·rename_i k hb hk
   obtain⟨B,g1,g2,g3⟩:=h
   obtain⟨l,l1,l2,l3⟩:=hv _ g2
   refine⟨{ l with u:=0 },?_,Nat.zero_le _,fun _=>l3 (hs.at_ k l B l1 g1 (by omega)).1⟩
   rw[at_j _ _ hb hk]
   simp[locK,List.getD,l1]
  ·exact h.elim
 | .int K m,e,v,h,hv=>by
  obtain⟨n,g1,rfl⟩:=h
  exact hv _ g1
 | .bool K,e,v,h,hv=>by
  obtain⟨n,g1,rfl⟩:=h
  exact hv _ g1
 | .row sz n f,e,v,h,hv=>by
  rcases h with⟨n',f',g1,rfl,g2⟩ | ⟨rfl,g1⟩ | ⟨k,B,g1,g2,g3,g4,g5,rfl,rfl,g8⟩
  ·have e3:=((hv _ g1).clos (ρ':=ρ') rfl).step (D':=D') (Ext.refl _ _) (fun b _ hb=>hD b hb) (LocsLe.refl ρ')
   obtain⟨A,c,s1,s2,s3⟩:=e3
   refine⟨A,c,s1,s2,fun hn=>?_⟩
   obtain⟨b,o,r1,r2,r3,r4⟩:=s3 hn
   exact⟨b,o,r1,r2,r3,fun i j hi hj=>by rw[← g2 i j hi hj];exact r4 i j hi hj⟩
  ·exact⟨none,0,hv _ g1,Nat.le_refl _,fun h=>absurd h (Nat.lt_irrefl _)⟩
  ·obtain⟨l,l1,l2,l3⟩:=hv _ g2
   have hat:=hs.at_ k l B l1 g1 g5
   have ev:=l3 hat.1
   rcases hat.2 with⟨p1,p2,p3⟩ | ⟨b,cap,cs,p2,p3,p4,p5,p6,p7,p8,p9⟩
   ·exact⟨none,0,by rw[ev,p3,p1],by omega,fun h=>by omega⟩
   ·refine⟨some ⟨b,0,none⟩,cap,by rw[ev,p4],p7,fun hn=>⟨b,0,rfl,heap_lt p5,out k l B b l1 g1 g5 p2 g3 g4,fun i j hi hj=>?_⟩⟩
    obtain⟨u,hu,hr⟩:=p9 i j hi hj
    obtain⟨c1,c2⟩:=g8 i j hi hj
    refine⟨u,?_,?_⟩
    ·have:=idx_lt hi hj p7
     simp only[World.cell?,p5]
     simp[hu]
    ·rw[c1]at hr
     exact(hr.clos c2).step (Ext.refl _ _) (fun b _ hb=>hD b hb) (LocsLe.refl _)
 | .cl F m f,e,v,h,hv=>by
  obtain⟨f',g1,g2⟩:=h
  obtain⟨caps,rfl,c1,c2⟩:=hv _ g1
  refine⟨caps,rfl,c1,fun j hj=>?_⟩
  obtain⟨u,hu,hr⟩:=c2 j hj
  refine⟨u,hu,regC_rel hs hD at_j out (g2 j hj) fun x hx=>?_⟩
  subst hx
  exact hr
 | .any,e,v,h,hv=>trivial
 | .nil,e,v,h,hv=>hv _ h.1
 | .fn _,e,v,h,hv=>hv _ h.1
 | .str _,e,v,h,hv=>hv _ h.1
 | .xp m f,e,v,h,hv=>((hv _ h.1).clos rfl).step (Ext.refl _ _) (fun b _ hb=>hD b hb) (LocsLe.refl _)
 | .gs _ (_+1),_,_,h,_=>by simp[regC,Cell.clos]at h
 | .sl _ (_+1) ..,_,_,h,_=>by simp[regC,Cell.clos]at h
 | .p _ (_+1) ..,_,_,h,_=>by simp[regC,Cell.clos]at h
theorem regL_rel {q : Nat} {bl : List Blk} {ks : List (Option Nat)} {D0 : Nat → Prop} {w0 : Base} {r : Bool} {ρ ρ' : List Loc} {w : World} (hs : Sat D0 w0 r ρ bl w) {D' : Nat → Prop} (hD : ∀ b, D' b → Dof D0 ρ bl b)
  (at_j:∀ j k,q.ble j=true->ks[j-q]? = some k->ρ'[j]? = some (locK ρ k))
  (out:∀(k:Nat) (l:Loc) (B:Blk) (b:Nat),ρ[k]? = some l->bl[k]? = some B->B.st≤1->l.b=some b->q.ble k=true->(ks.any fun x=>x == some k)=false->¬ D' b) :
  ∀ {l l':List Cell} {vs:List Value},regL q bl ks l l'->CRels (Dof D0 ρ bl) w ρ l' vs->CRels D' w ρ' l vs
 | [],[],[],_,_=>trivial
 | _ :: _,_ :: _,_ :: _,h,hv=>⟨regC_rel hs hD at_j out h.1 fun x hx=>by subst hx;exact hv.1,regL_rel hs hD at_j out h.2 hv.2⟩
 | [],[],_ :: _,_,hv=>hv.elim
 | [],_ :: _,_,h,_=>h.elim
 | _ :: _,[],_,h,_=>h.elim
 | _ :: _,_ :: _,[],_,hv=>hv.elim
theorem Weak.genG {tm:Nat->V} {bl:List Blk} {tl:List (Nat × V)} {xs:List Gx} (pre:List Blk) (hpre:bl.take pre.length=pre) (hst2:pre.all (fun B=>Nat.ble 2 B.st)=true) (ks:List (Option Nat)) (hi:injK ks=true) (hb:srcsG pre.length bl ks ks xs) (hl:allP tl fun p=>regV pre.length bl ks (tm p.1) p.2):Weak pre.length ⟨tm,bl⟩ ⟨asg tl,pre++xs.map gb⟩:=by
 rintro C a w hm0 ⟨ρ,hs,hN,hdf,hf⟩
 obtain⟨hlen,hget⟩:=srcsG_get hb
 have hlb:bl.length=ρ.length:=hs.len.symm
 have hq:pre.length≤ρ.length:=by
  have:=congrArg List.length hpre
  rw[List.length_take]at this
  omega
 have hql:(ρ.take pre.length).length=pre.length:=by rw[List.length_take];omega
 have get:∀(j:Nat) (l:Loc) (B:Blk),(ρ.take pre.length++ks.map (locK ρ))[j]? = some l->(pre++xs.map gb)[j]? = some B->2≤B.st∨pre.length≤j/\((∃(k:Nat) (lk:Loc) (Bk:Blk),ks[j-pre.length]? = some (some k)/\ρ[k]? = some lk/\bl[k]? = some Bk/\l={ lk with u:=0 }/\B.t=Bk.t/\B.sz=Bk.sz/\B.n=Bk.n/\Bk.st=0/\B.st=0/\B.u=0/\∀ i j,i<B.n->j<B.sz->regC pre.length bl ks (B.f i j) fun y=>Bk.f i j=y)∨(l=⟨0,none,0,0⟩/\B.n=0/\B.u=0)):=by
  intro j l B e1 e2
  rcases Nat.lt_or_ge j pre.length with hj | hj
  ·left
   rw[List.getElem?_append_left hj]at e2
   exact Nat.le_of_ble_eq_true (List.all_eq_true.1 hst2 B (List.mem_of_getElem? e2))
  right
  refine⟨hj,?_⟩
  rw[List.getElem?_append_right (by omega),hql,List.getElem?_map]at e1
  rw[List.getElem?_append_right hj,List.getElem?_map]at e2
  cases hx:xs[j-pre.length]? with
  | none=>rw[hx]at e2;cases e2
  | some x =>
   rw[hx]at e2
   simp at e2
   obtain⟨k,hk,hsrc⟩:=hget _ x hx
   rw[hk]at e1
   simp at e1
   subst e1 e2
   cases k with
   | none=>exact .inr ⟨rfl,hsrc,rfl⟩
   | some k =>
    obtain⟨Bk,q1,q2,q3,q4,q5,q6⟩:=hsrc
    have hkl:k<ρ.length:=by rw[hs.len];exact(List.getElem?_eq_some_iff.1 q1).1
    refine .inl ⟨k,ρ[k],Bk,hk,List.getElem?_eq_getElem hkl,q1,?_,q2.symm,q3.symm,q4.symm,q5,rfl,rfl,q6⟩
    simp[locK,List.getD,List.getElem?_eq_getElem hkl]
 have hD:∀ b,Dof C.D0 (ρ.take pre.length++ks.map (locK ρ)) (pre++xs.map gb) b->Dof C.D0 ρ bl b:=by
  rintro b (hx | ⟨j,l,B,e1,e2,e3,e4⟩)
  ·exact .inl hx
  ·rcases get j l B e1 e2 with q0 | ⟨_,⟨k,lk,Bk,q1,q2,q3,q4,q5,q6,q7,q8,q9,q10⟩ | ⟨q1,q2⟩⟩
   ·omega
   ·subst q4
    exact .inr ⟨k,lk,Bk,q2,q3,q8,e4⟩
   ·subst q1;cases e4
 have at_j:∀ j k,pre.length.ble j=true->ks[j-pre.length]? = some k->(ρ.take pre.length++ks.map (locK ρ))[j]? = some (locK ρ k):=fun j k h1 h2=>by
  have:=Nat.le_of_ble_eq_true h1
  rw[List.getElem?_append_right (by omega),hql,List.getElem?_map,h2];rfl
 have out:∀(k:Nat) (l:Loc) (B:Blk) (b:Nat),ρ[k]? = some l->bl[k]? = some B->B.st≤1->l.b=some b->pre.length.ble k=true->(ks.any fun x=>x == some k)=false->¬ Dof C.D0 (ρ.take pre.length++ks.map (locK ρ)) (pre++xs.map gb) b:=by
  rintro k l B b p1 p2 p3 p4 p5 p6 (hx | ⟨j,l',B',e1,e2,e3,e4⟩)
  ·have h1:=hs.own p1 p2 p3 p4
   have h2:=hs.d0 b hx
   rcases h1 with h1 | h1
   ·have:=h2.1
    have h3:C.w0.heap.size≤b:=h1
    omega
   ·exact h2.2 h1
  ·rcases get j l' B' e1 e2 with q0 | ⟨_,⟨k',lk,Bk,q1,q2,q3,q4,q5,q6,q7,q8,q9,q10⟩ | ⟨q1,q2⟩⟩
   ·omega
   ·subst q4
    have:=hs.dist k k' l lk B Bk b p1 q2 p2 q3 p3 (by omega) p4 e4
    subst this
    have:=List.any_eq_false.1 p6 (some k) (List.mem_of_getElem? q1)
    simp at this
   ·subst q1;cases e4
 refine⟨ρ.take pre.length++ks.map (locK ρ),⟨hs.below,hs.d0,by rw[List.length_append,hql];simp[hlen],fun j l B e1 e2 hst=>?_,fun i j li lj Bi Bj b e1 e2 e3 e4 e5 e6 e7 e8=>?_,fun hr b o d hb=>hs.noU hr b o d (hD b hb)⟩,⟨hN.1,fun k l h=>?_⟩,hdf,fun t=>?_⟩
 ·rcases get j l B e1 e2 with q0 | ⟨_,⟨k,lk,Bk,q1,q2,q3,q4,q5,q6,q7,q8,q9,q10,q11⟩ | ⟨q1,q2,q3⟩⟩
  ·omega
  ·subst q4
   refine⟨q10.symm,?_⟩
   rcases(hs.at_ k lk Bk q2 q3 (by omega)).2 with⟨g1,g2,g3⟩ | ⟨b,cap,cs,g2,g3,g4,g5,g6,g7,g8,g9⟩
   ·exact .inl ⟨q7.trans g1,g2,g3⟩
   ·refine .inr ⟨b,cap,cs,g2,g3,by rw[q7];exact g4,by rw[q5];exact g5,by rw[q6];exact g6,by rw[q7];exact g7,g8,fun x y hx hy=>?_⟩
    obtain⟨u,hu,hur⟩:=g9 x y (by omega) (by omega)
    refine⟨u,by rw[q6];exact hu,?_⟩
    rw[if_pos q8]at hur
    rw[if_pos q9]
    exact regC_rel hs hD at_j out (q11 x y hx hy) fun z hz=>by subst hz;exact hur
  ·subst q1
   exact⟨q3.symm,.inl ⟨q2,rfl,rfl⟩⟩
 ·rcases get i li Bi e1 e3 with q0 | ⟨hi1,⟨k,lk,Bk,q1,q2,q3,q4,q5,q6,q7,q8,q9,q10⟩ | ⟨q1,q2⟩⟩
  ·omega
  ·rcases get j lj Bj e2 e4 with p0 | ⟨hj1,⟨k',lk',Bk',p1,p2,p3,p4,p5,p6,p7,p8,p9,p10⟩ | ⟨p1,p2⟩⟩
   ·omega
   ·subst q4 p4
    have:=hs.dist k k' lk lk' Bk Bk' b q2 p2 q3 p3 (by omega) (by omega) e7 e8
    subst this
    have:=injK_eq hi q1 p1
    omega
   ·subst p1;cases e8
  ·subst q1;cases e7
 ·obtain⟨l',h1,h2⟩:=hN.2 k l h
  have hk:k<pre.length:=Nat.lt_of_lt_of_le (List.getElem?_eq_some_iff.1 h).1 hm0
  exact⟨l',by rw[List.getElem?_append_left (by omega),List.getElem?_take_of_lt hk];exact h1,h2⟩
 ·rcases asg_mem tl t with e | e
  ·show VRel _ _ _ (asg tl t) _
   rw[e];trivial
  ·have e1:=allP_mem hl _ e
   have e2:VRel (Dof C.D0 ρ bl) w ρ (tm t) (a.tmps.getD t undef):=hf t
   show VRel _ _ _ (asg tl t) _
   generalize asg tl t=y at e1 ⊢
   have e1:regV pre.length bl ks (tm t) y:=e1
   have fin:∀ y:V,tm t=y/\y.clos=true->VRel (Dof C.D0 (ρ.take pre.length++ks.map (locK ρ)) (pre++xs.map gb)) w (ρ.take pre.length++ks.map (locK ρ)) y (a.tmps.getD t undef):=fun y h=>by
    rw[h.1]at e2
    exact(e2.clos h.2).step (Ext.refl _ _) (fun b _ hb=>hD b hb) (LocsLe.refl _)
   match y,e1 with
   | .c y,e1 =>
    exact regC_rel hs hD at_j out e1 fun x hx=>by
     have hx:tm t = .c x:=hx
     rw[hx]at e2
     exact e2
   | .g l,e1 =>
    rcases e1 with⟨h1,h2⟩ | ⟨l',h1,h2⟩
    ·exact fin _ ⟨h1,h2⟩
    ·rw[h1]at e2
     obtain⟨vs,h3,h4⟩:=e2
     exact⟨vs,h3,regL_rel hs hD at_j out h2 h4⟩
   | .t2 ..,e1=>exact fin _ e1
   | .t3 ..,e1=>exact fin _ e1
   | .t4 ..,e1=>exact fin _ e1
   | .un,e1=>exact fin _ e1
theorem Weak.gen {tm:Nat->V} {bl:List Blk} {tl:List (Nat × V)} {xs:List Gx} (ks:List (Option Nat)) (hi:injK ks=true) (hb:srcsG 0 bl ks ks xs) (hl:allP tl fun p=>regV 0 bl ks (tm p.1) p.2):Weak 0 ⟨tm,bl⟩ (gst tl xs) :=
 Weak.genG [] rfl rfl ks hi hb hl
theorem updG {sz:Nat} {g g':Nat->List Cell} {k i j:Nat} {l:List Cell} (hl:l.length=sz) (hj:j<sz) (h:(if i=k then l else g i)=g' i):updF (fun i j=>(g i).getD j .any) k 0 l i j=(g' i).getD j .any:=by
 rw[← h]
 unfold updF
 by_cases e:i=k
 ·rw[if_pos ⟨e,Nat.zero_le _,by omega⟩,if_pos e];rfl
 ·rw[if_neg (fun h=>e h.1),if_neg e]
theorem appG {sz:Nat} {g g':Nat->List Cell} {k i j m:Nat} {l:List Cell} (h:(if i=k then l else g i)=g' i) (hm:m≤k+1) (hi:i<m):appF k (fun i j=>(g i).getD j .any) (rowF sz l) i j=(g' i).getD j .any:=by
 rw[← h]
 unfold appF
 by_cases e:i=k
 ·subst e;rw[if_neg (Nat.lt_irrefl _),if_pos rfl,Nat.sub_self];unfold rowF;rw[Nat.zero_mul,Nat.zero_add]
 ·rw[if_pos (by omega),if_neg e]
end Go.Proofs.YtkmbnldginonbaaGreat
/- Plain facts on lists of digits to base 2^32: their value, carries, and uniqueness without leading zeros. No condition. -/
namespace Dg
def B:Nat:=4294967296
theorem B_eq:B=4294967296:=rfl
theorem B_pos:0<B:=by decide
def val : List Nat → Nat
 | []=>0
 | d :: l=>d+B*val l
def ok (l:List Nat):Prop:=∀ d∈l,d<B
theorem ok_nil:ok []:=by intro d h;cases h
theorem ok_cons {d:Nat} {l:List Nat}:ok (d :: l)↔d<B/\ok l:=by
 simp[ok]
theorem ok_get {l:List Nat} (h:ok l) {i:Nat} (hi:i<l.length):l[i]<B:=h _ (List.getElem_mem hi)
theorem ok_getD {l:List Nat} (h:ok l) (i:Nat):l[i]?.getD 0<B:=by
 cases hi:l[i]? with
 | none=>exact B_pos
 | some v=>exact h v (List.mem_of_getElem? hi)
theorem ok_take {l:List Nat} (h:ok l) (k:Nat):ok (l.take k):=fun d hd=>h d (List.mem_of_mem_take hd)
theorem ok_drop {l:List Nat} (h:ok l) (k:Nat):ok (l.drop k):=fun d hd=>h d (List.mem_of_mem_drop hd)
theorem ok_set {l:List Nat} (h:ok l) {i d:Nat} (hd:d<B):ok (l.set i d):=by
 intro x hx
 rcases List.mem_or_eq_of_mem_set hx with h1 | h1
 ·exact h x h1
 ·exact h1 ▸ hd
theorem ok_replicate (n:Nat):ok (List.replicate n 0):=by
 intro d hd;rw[List.eq_of_mem_replicate hd];exact B_pos
theorem val_append (a b:List Nat):val (a++b)=val a+B^a.length*val b:=by
 induction a with
 | nil=>simp[val]
 | cons d l ih=>simp only[List.cons_append,val,ih,List.length_cons,Nat.pow_succ];grind
theorem val_replicate (n:Nat):val (List.replicate n 0)=0:=by
 induction n with
 | zero=>rfl
 | succ n ih=>simp[List.replicate_succ,val,ih]
theorem val_lt {l:List Nat} (h:ok l):val l<B^l.length:=by
 induction l with
 | nil=>simp[val]
 | cons d l ih =>
  rw[ok_cons]at h
  have:=ih h.2
  simp only[val,List.length_cons,Nat.pow_succ]
  have h2:B*val l+B≤B*B^l.length:=by
   have:=Nat.mul_le_mul_left B this
   rw[Nat.mul_succ]at this;exact this
  have:=h.1
  rw[Nat.mul_comm (B^_)];omega
theorem val_snoc (l:List Nat) (d:Nat):val (l++[d])=val l+B^l.length*d:=by
 rw[val_append];simp[val]
theorem val_take_succ {l:List Nat} {k:Nat} (h:k<l.length):val (l.take (k+1))=val (l.take k)+B^k*l[k]:=by
 rw[List.take_succ_eq_append_getElem h,val_snoc,List.length_take,Nat.min_eq_left (Nat.le_of_lt h)]
theorem val_take_drop (l:List Nat) {k:Nat} (h:k≤l.length):val l=val (l.take k)+B^k*val (l.drop k):=by
 conv=>lhs;rw[← List.take_append_drop k l]
 rw[val_append,List.length_take,Nat.min_eq_left h]
theorem val_set {l:List Nat} {i:Nat} (h:i<l.length) (d:Nat):val (l.set i d)+B^i*l[i]=val l+B^i*d:=by
 induction l generalizing i with
 | nil=>simp at h
 | cons x l ih =>
  cases i with
  | zero=>simp[val];omega
  | succ i =>
   have:=ih (i:=i) (by simpa using h)
   simp only[List.set_cons_succ,val,List.getElem_cons_succ,Nat.pow_succ]
   grind
def trimmed (l:List Nat):Prop:=∀ d,l.getLast? = some d->d≠0
def trim : List Nat → List Nat
 | []=>[]
 | d :: l=>match trim l with
  | []=>if d=0 then []else [d]
  | r=>d :: r
theorem val_trim (l:List Nat):val (trim l)=val l:=by
 induction l with
 | nil=>rfl
 | cons d l ih =>
  unfold trim
  split
  ·rename_i h
   rw[h]at ih
   split
   ·rename_i h0;simp[val]at ih ⊢;rw[← ih,h0];rfl
   ·simp[val]at ih ⊢;rw[← ih];rfl
  ·simp only[val];rw[ih]
theorem trim_trimmed (l:List Nat):trimmed (trim l):=by
 induction l with
 | nil=>intro d h;simp[trim]at h
 | cons d l ih =>
  unfold trim
  split
  ·split
   ·intro d h;simp at h
   ·intro x h;simp at h;omega
  ·rename_i r h
   intro x hx
   rw[List.getLast?_cons]at hx
   cases hr:(trim l).getLast? with
   | none=>simp at hr;exact absurd hr h
   | some y=>rw[hr]at hx;simp at hx;subst hx;exact ih y hr
theorem ok_trim {l:List Nat} (h:ok l):ok (trim l):=by
 induction l with
 | nil=>exact h
 | cons d l ih =>
  rw[ok_cons]at h
  unfold trim
  split
  ·split
   ·exact ok_nil
   ·exact ok_cons.2 ⟨h.1,ok_nil⟩
  ·exact ok_cons.2 ⟨h.1,ih h.2⟩
theorem val_eq_zero {l:List Nat} (h:trimmed l):val l=0↔l=[]:=by
 refine⟨fun hv=>?_,fun h=>by rw[h];rfl⟩
 cases hl:l.getLast? with
 | none=>simpa using hl
 | some d =>
  exfalso
  obtain⟨m,rfl⟩:=List.getLast?_eq_some_iff.1 hl
  rw[val_snoc]at hv
  have hd:=h d hl
  have:0<B^m.length*d:=Nat.mul_pos (Nat.pow_pos B_pos) (by omega)
  omega
theorem trimmed_tail {d:Nat} {l:List Nat} (h:trimmed (d :: l)):trimmed l:=by
 intro x hx
 refine h x ?_
 rw[List.getLast?_cons,hx];rfl
theorem val_inj {a b:List Nat} (ha:ok a) (hb:ok b) (ta:trimmed a) (tb:trimmed b) (h:val a=val b):a=b:=by
 induction a generalizing b with
 | nil=>exact((val_eq_zero tb).1 h.symm).symm
 | cons d l ih =>
  cases b with
  | nil=>exact(val_eq_zero ta).1 h
  | cons e m =>
   rw[ok_cons]at ha hb
   simp only[val]at h
   have h1:d=e:=by
    have:=congrArg (·%B) h
    simp only[Nat.add_mul_mod_self_left]at this
    rwa [Nat.mod_eq_of_lt ha.1,Nat.mod_eq_of_lt hb.1]at this
   subst h1
   have h2:val l=val m:=Nat.eq_of_mul_eq_mul_left B_pos (by omega)
   rw[ih ha.2 hb.2 (trimmed_tail ta) (trimmed_tail tb) h2]
theorem trim_of_trimmed {l:List Nat} (ho:ok l) (h:trimmed l):trim l=l :=
 val_inj (ok_trim ho) ho (trim_trimmed l) h (val_trim l)
theorem pow_le_val {l:List Nat} (h:trimmed l) (hn:l≠[]):B^(l.length-1)≤val l:=by
 cases hl:l.getLast? with
 | none=>exact absurd (by simpa using hl) hn
 | some d =>
  obtain⟨m,rfl⟩:=List.getLast?_eq_some_iff.1 hl
  rw[val_snoc]
  have hd:=h d hl
  have h2:B^m.length*1≤B^m.length*d:=Nat.mul_le_mul_left _ (by omega)
  simp;omega
theorem val_lt_of_length {a b:List Nat} (ha:ok a) (tb:trimmed b) (h:a.length<b.length):val a<val b:=by
 have h1:=val_lt ha
 have h2:=pow_le_val tb (by intro e;subst e;simp at h)
 have h3:B^a.length≤B^(b.length-1):=Nat.pow_le_pow_right B_pos (by omega)
 omega
end Dg
namespace Go.Proofs.YtkmbnldginonbaaGreat
def sgn (neg:Bool) (k:Nat):Int:=if neg then -(k:Int)else k
end Go.Proofs.YtkmbnldginonbaaGreat
/- Plain facts on sums, differences, products and quotients of lists of digits, one step of a loop at a time. No condition. -/
namespace Dg
theorem take_set_succ {o:List Nat} {k:Nat} (h:k<o.length) (d:Nat):(o.set k d).take (k+1)=o.take k++[d]:=by
 rw[List.take_succ_eq_append_getElem (by simpa using h),List.take_set_of_le (Nat.le_refl k)]
 simp
theorem val_take_set_succ {o:List Nat} {k:Nat} (h:k<o.length) (d:Nat):val ((o.set k d).take (k+1))=val (o.take k)+B^k*d:=by
 rw[take_set_succ h,val_snoc,List.length_take,Nat.min_eq_left (Nat.le_of_lt h)]
theorem val_take_succ_getD (l:List Nat) (k:Nat):val (l.take (k+1))=val (l.take k)+B^k*(l[k]?.getD 0):=by
 by_cases h:k<l.length
 ·rw[val_take_succ h];simp[h]
 ·rw[List.take_of_length_le (by omega),List.take_of_length_le (by omega)];simp[h]
theorem take_all {l:List Nat} {k:Nat} (h:l.length≤k):l.take k=l:=List.take_of_length_le h

theorem plus_step {a b o : List Nat} {k c : Nat} (hk : k < o.length) (hI : val (o.take k) + B ^ k * c = val (a.take k) + val (b.take k)) :
  val ((o.set k ((a[k]?.getD 0+b[k]?.getD 0+c)%B)).take (k+1))+B^(k+1)*((a[k]?.getD 0+b[k]?.getD 0+c) / B)=val (a.take (k+1))+val (b.take (k+1)):=by
 rw[val_take_set_succ hk,val_take_succ_getD,val_take_succ_getD]
 generalize a[k]?.getD 0=x at *
 generalize b[k]?.getD 0=y at *
 have h:=Nat.div_add_mod (x+y+c) B
 rw[Nat.pow_succ]
 generalize (x+y+c) / B=q at *
 generalize (x+y+c)%B=r at *
 generalize B^k=P at *
 grind
theorem less_step {a b o : List Nat} {k c d c' : Nat} (hk : k < o.length) (hI : val (o.take k) + val (b.take k) = val (a.take k) + B ^ k * c)
  (h:d+b[k]?.getD 0+c=a[k]?.getD 0+B*c') :
  val ((o.set k d).take (k+1))+val (b.take (k+1))=val (a.take (k+1))+B^(k+1)*c':=by
 rw[val_take_set_succ hk,val_take_succ_getD,val_take_succ_getD,Nat.pow_succ]
 generalize a[k]?.getD 0=x at *
 generalize b[k]?.getD 0=y at *
 generalize B^k=P at *
 have:=congrArg (P*·) h
 grind

theorem times_step {o : List Nat} {V x y i j c : Nat} (hk : i + j < o.length) (b : List Nat) (hy : b[j]?.getD 0 = y)
  (hI:val o+B^(i+j)*c=V+B^i*(x*val (b.take j))) :
  val (o.set (i+j) ((x*y+o[i+j]?.getD 0+c)%B))+B^(i+(j+1))*((x*y+o[i+j]?.getD 0+c) / B)=V+B^i*(x*val (b.take (j+1))):=by
 have hs:=val_set hk ((x*y+o[i+j]?.getD 0+c)%B)
 rw[val_take_succ_getD,hy]
 have hg:o[i+j]?.getD 0=o[i+j]:=by simp[hk]
 rw[hg]at hs ⊢
 generalize o[i+j]=z at *
 have h:=Nat.div_add_mod (x*y+z+c) B
 generalize (x*y+z+c) / B=q at *
 generalize (x*y+z+c)%B=r at *
 generalize val (o.set (i+j) r)=W at *
 generalize val (b.take j)=Y at *
 have e:B^(i+(j+1))*q=B^(i+j)*(B*q):=by rw[← Nat.add_assoc,Nat.pow_succ,Nat.mul_assoc]
 have e3:B^i*(x*(Y+B^j*y))=B^i*(x*Y)+B^(i+j)*(x*y):=by
  rw[Nat.pow_add,Nat.mul_add,Nat.mul_add]
  congr 1
  ac_rfl
 have e4:B^(i+j)*(B*q)+B^(i+j)*r=B^(i+j)*(x*y)+B^(i+j)*z+B^(i+j)*c:=by
  rw[← Nat.mul_add,h,Nat.mul_add,Nat.mul_add]
 rw[e,e3]
 generalize B^(i+j)*(B*q)=t1 at *
 generalize B^(i+j)*r=t2 at *
 generalize B^(i+j)*(x*y)=t3 at *
 generalize B^(i+j)*z=t4 at *
 generalize B^(i+j)*c=t5 at *
 omega
theorem times_bound {x y z c:Nat} (hx:x<B) (hy:y<B) (hz:z<B) (hc:c<B):x*y+z+c<B*B:=by
 have h1:x*y≤(B-1)*(B-1):=Nat.mul_le_mul (by omega) (by omega)
 have h2:(B-1)*(B-1)+(B-1)+(B-1)<B*B:=by simp only[B_eq];omega
 omega
theorem div_lt_B {t:Nat} (h:t<B*B):t / B<B:=Nat.div_lt_of_lt_mul h

theorem short_step {x d r:Nat} (X Q:Nat) (h:X=Q*d+r):x+B*X=((r*B+x) / d+B*Q)*d+(r*B+x)%d:=by
 have h1:=Nat.div_add_mod (r*B+x) d
 have e:B*X=B*Q*d+r*B:=by rw[h,Nat.mul_add,Nat.mul_assoc,Nat.mul_comm B r]
 rw[Nat.add_mul,Nat.mul_comm _ d,e]
 generalize B*Q*d=t at *
 generalize d*((r*B+x) / d)=u at *
 generalize r*B=z at *
 omega
theorem short_lt {x d r:Nat} (hx:x<B) (hr:r<d):(r*B+x) / d<B:=by
 apply Nat.div_lt_of_lt_mul
 have:(r+1)*B≤d*B:=Nat.mul_le_mul_right B hr
 rw[Nat.add_mul]at this;omega
end Dg
/- Plain facts on the division of lists of digits: the guess at a digit of the quotient, its correction, the subtraction of a multiple. No condition. -/
namespace Dg
theorem mulsub_step {u v o : List Nat} {g k c c' b b' d : Nat} (hk : k < o.length)
  (hI:val (o.take k)+g*val (v.take k)=val (u.take k)+B^k*(c+b))
  (ht:g*v[k]?.getD 0+c=(g*v[k]?.getD 0+c)%B+B*c')
  (h:d+(g*v[k]?.getD 0+c)%B+b=u[k]?.getD 0+B*b') :
  val ((o.set k d).take (k+1))+g*val (v.take (k+1))=val (u.take (k+1))+B^(k+1)*(c'+b'):=by
 rw[val_take_set_succ hk,val_take_succ_getD,val_take_succ_getD]
 generalize (g*v[k]?.getD 0+c)%B=lo at *
 have e:g*(val (v.take k)+B^k*v[k]?.getD 0)=g*val (v.take k)+B^k*(g*v[k]?.getD 0):=by
  rw[Nat.mul_add];congr 1;ac_rfl
 have e2:B^(k+1)*(c'+b')=B^k*(B*c')+B^k*(B*b'):=by
  rw[Nat.pow_succ,Nat.mul_add,Nat.mul_assoc,Nat.mul_assoc]
 have h3:B^k*(g*v[k]?.getD 0)+B^k*c=B^k*lo+B^k*(B*c'):=by rw[← Nat.mul_add,ht,Nat.mul_add]
 have h4:B^k*d+B^k*lo+B^k*b=B^k*u[k]?.getD 0+B^k*(B*b'):=by rw[← Nat.mul_add,← Nat.mul_add,h,Nat.mul_add]
 rw[e,e2]
 rw[Nat.mul_add]at hI
 generalize B^k*(g*v[k]?.getD 0)=t1 at *
 generalize B^k*(B*c')=t2 at *
 generalize B^k*(B*b')=t3 at *
 generalize B^k*d=t4 at *
 generalize B^k*lo=t5 at *
 generalize B^k*u[k]?.getD 0=t6 at *
 generalize B^k*c=t7 at *
 generalize B^k*b=t8 at *
 omega

structure Ends (U V P top u0 v1 v2 u' v' : Nat) : Prop where
 hU:U=(top*B+u0)*P+u'
 hV:V=(v1*B+v2)*P+v'
 hu:u'<P
 hv:v'<P
 hu0:u0<B
 hv2:v2<B
 hv1:v1<B
 norm:B≤2*v1

theorem guess_down {U V P top u0 v1 v2 u' v' g rest:Nat} (e:Ends U V P top u0 v1 v2 u' v') (hg:g*v1+rest=top) (hc:rest*B+u0<g*v2):U<g*V:=by
 have h1:top*B+u0+1≤g*(v1*B+v2):=by
  have e1:g*(v1*B+v2)=g*v1*B+g*v2:=by rw[Nat.mul_add,Nat.mul_assoc]
  have e2:top*B=g*v1*B+rest*B:=by rw[← hg,Nat.add_mul]
  omega
 have h2:(top*B+u0+1)*P≤g*(v1*B+v2)*P:=Nat.mul_le_mul_right P h1
 have h3:g*V=g*(v1*B+v2)*P+g*v':=by rw[e.hV,Nat.mul_add,Nat.mul_assoc]
 have h4:=e.hU
 have h5:=e.hu
 rw[Nat.add_mul,Nat.one_mul]at h2
 omega

theorem guess_stop {U V P top u0 v1 v2 u' v' g rest : Nat} (e : Ends U V P top u0 v1 v2 u' v') (hg : g * v1 + rest = top) (hc : g * v2 ≤ rest * B + u0) (hgB : g < B) (hg1 : 0 < g) :
  (g-1)*V≤U:=by
 have h1:g*(v1*B+v2)≤top*B+u0:=by
  have e1:g*(v1*B+v2)=g*v1*B+g*v2:=by rw[Nat.mul_add,Nat.mul_assoc]
  have e2:top*B=g*v1*B+rest*B:=by rw[← hg,Nat.add_mul]
  omega
 have h2:g*(v1*B+v2)*P≤(top*B+u0)*P:=Nat.mul_le_mul_right P h1
 have hU:=e.hU
 have hV:V≤(v1*B+v2+1)*P:=by rw[e.hV,Nat.add_mul (_+_),Nat.one_mul];have:=e.hv;omega
 have h3:(g-1)*V≤(g-1)*((v1*B+v2+1)*P):=Nat.mul_le_mul_left _ hV
 have h4:(g-1)*(v1*B+v2+1)≤g*(v1*B+v2):=by
  obtain⟨k,rfl⟩:∃ k,g=k+1:=⟨g-1,by omega⟩
  rw[Nat.add_sub_cancel,Nat.add_mul,Nat.mul_add,Nat.mul_one,Nat.one_mul]
  have:B*1≤v1*B:=by
   rw[Nat.mul_comm v1]
   refine Nat.mul_le_mul_left B ?_
   have:=e.norm
   have hB:2≤B:=by decide
   omega
  omega
 have h5:=Nat.mul_le_mul_right P h4
 rw[Nat.mul_assoc]at h5
 omega

theorem guess_start {U V P top u0 v1 v2 u' v':Nat} (e:Ends U V P top u0 v1 v2 u' v') (hUV:U<V*B):U<(top / v1+1)*V/\top / v1≤B+1/\top / v1*v1+top%v1=top/\top%v1<v1:=by
 have hv1:0<v1:=by have:=e.norm;have:=B_pos;omega
 have hm:=Nat.div_add_mod top v1
 have hl:=Nat.mod_lt top hv1
 rw[Nat.mul_comm]at hm
 refine⟨?_,?_,hm,hl⟩
 ·have h1:top<(top / v1+1)*v1:=by rw[Nat.add_mul,Nat.one_mul];omega
  have h2:(top+1)*B≤(top / v1+1)*v1*B:=Nat.mul_le_mul_right B h1
  have h3:(top*B+u0+1)*P≤(top / v1+1)*v1*B*P:=Nat.mul_le_mul_right P (by rw[Nat.add_mul,Nat.one_mul]at h2;have:=e.hu0;omega)
  have h4:(top / v1+1)*v1*B*P≤(top / v1+1)*V:=by
   rw[Nat.mul_assoc,Nat.mul_assoc]
   refine Nat.mul_le_mul_left _ ?_
   rw[e.hV,← Nat.mul_assoc,Nat.add_mul (v1*B)]
   omega
  have hU:=e.hU
  have:=e.hu
  rw[Nat.add_mul (_+_),Nat.one_mul]at h3
  omega
 ·apply Nat.le_of_lt_succ
  apply Nat.div_lt_of_lt_mul
  -- top * B * P <= U < V * B <= (v1 * B + v2 + 1) * P * B
  have h1:top*B*P≤U:=by rw[e.hU,Nat.add_mul (top*B)];omega
  have hV:V<(v1*B+v2+1)*P:=by rw[e.hV,Nat.add_mul (_+_),Nat.one_mul];have:=e.hv;omega
  have h2:V*B≤(v1*B+v2+1)*P*B:=Nat.mul_le_mul_right B (Nat.le_of_lt hV)
  have h3:top*(B*P)<(v1*B+v2+1)*(B*P):=by
   have e1:top*(B*P)=top*B*P:=by rw[Nat.mul_assoc]
   have e2:(v1*B+v2+1)*(B*P)=(v1*B+v2+1)*P*B:=by ac_rfl
   omega
  have h4:top<v1*B+v2+1:=Nat.lt_of_mul_lt_mul_right h3
  have:=e.hv2
  have:=e.norm
  have e5:v1*(B+1+1)=v1*B+2*v1:=by rw[Nat.mul_add,Nat.mul_add];omega
  show top<v1*(B+1+1)
  omega

theorem guess_right {U V W g M:Nat} (h:W+g*V=U) (hU:U<(g+1)*V):U / V=g/\U%V=W:=by
 have hV:W<V:=by rw[Nat.add_mul,Nat.one_mul]at hU;omega
 have:=M
 subst h
 rw[Nat.add_mul_div_right _ _ (by omega),Nat.div_eq_of_lt hV,Nat.add_mul_mod_self_right,Nat.mod_eq_of_lt hV]
 simp
end Dg
/- Plain facts on lists of digits that are moved by binary places, and on their order. No condition. -/
namespace Dg
theorem pow_dvd_B {s:Nat} (hs:s≤32):∃ m,B=2^s*m:=by
 refine⟨2^(32-s),?_⟩
 rw[← Nat.pow_add,show s+(32-s)=32 from by omega];rfl
theorem low_dvd {s x:Nat} (hs:s≤32):x*2^s%B=2^s*(x*2^s%B / 2^s):=by
 obtain⟨m,hm⟩:=pow_dvd_B hs
 rw[Nat.mul_div_cancel']
 rw[hm,Nat.mul_comm x,Nat.mul_mod_mul_left]
 exact Nat.dvd_mul_right _ _
theorem or_low {s x h:Nat} (hs:s≤32) (hh:h<2^s):h ||| (x*2^s%B)=h+x*2^s%B:=by
 rw[low_dvd hs,Nat.or_comm,Nat.add_comm,Nat.two_pow_add_eq_or_of_lt hh]
theorem or_high {x h:Nat} (hh:x<B):x ||| (h*B)=x+h*B:=by
 have:=Nat.two_pow_add_eq_or_of_lt (i:=32) (b:=x) hh h
 rw[show(2^32:Nat)=B from rfl]at this
 rw[Nat.or_comm,Nat.add_comm,Nat.mul_comm,this]
theorem high_lt {s x:Nat} (hx:x<B):x*2^s / B<2^s:=by
 apply Nat.div_lt_of_lt_mul
 exact Nat.mul_lt_mul_of_pos_right hx (Nat.pow_pos (by omega))
theorem pow_le_half {s:Nat} (hs:s≤31):2^s≤2147483648:=by
 have:=Nat.pow_le_pow_right (n:=2) (by omega) hs;exact this

theorem shifted_step {a o : List Nat} {i s : Nat} (hs : s ≤ 31) (hi : i + 1 < o.length) (hx : a[i]?.getD 0 < B)
  (hI:val (o.take (i+1))=val (a.take i)*2^s) (ho:o[i]?.getD 0<2^s) :
  val (((o.set i (o[i]?.getD 0 ||| (a[i]?.getD 0*2^s%B))).set (i+1) (a[i]?.getD 0*2^s / B)).take (i+1+1))=val (a.take (i+1))*2^s /\
  a[i]?.getD 0*2^s / B<2^s/\(o[i]?.getD 0 ||| (a[i]?.getD 0*2^s%B))<B:=by
 rw[val_take_set_succ (by simpa using hi),val_take_set_succ (by omega),val_take_succ_getD,or_low (by omega) ho]
 rw[val_take_succ_getD]at hI
 generalize a[i]?.getD 0=x at *
 generalize o[i]?.getD 0=z at *
 have hdm:=Nat.div_add_mod (x*2^s) B
 have hlow:=low_dvd (s:=s) (x:=x) (by omega)
 obtain⟨m,hm⟩:=pow_dvd_B (s:=s) (by omega)
 have hml:x*2^s%B<B:=Nat.mod_lt _ B_pos
 refine⟨?_,high_lt hx,?_⟩
 ·have e:B^(i+1)*(x*2^s / B)=B^i*(B*(x*2^s / B)):=by rw[Nat.pow_succ,Nat.mul_assoc]
  have e2:(val (a.take i)+B^i*x)*2^s=val (a.take i)*2^s+B^i*(x*2^s):=by rw[Nat.add_mul,Nat.mul_assoc]
  have e3:B^i*(x*2^s)=B^i*(B*(x*2^s / B))+B^i*(x*2^s%B):=by rw[← Nat.mul_add,hdm]
  rw[e,e2,e3,Nat.mul_add (B^i) z]
  generalize B^i*(B*(x*2^s / B))=t1 at *
  generalize B^i*(x*2^s%B)=t2 at *
  omega
 ·generalize x*2^s%B=lo at *
  have h1:lo / 2^s<m:=by
   apply Nat.div_lt_of_lt_mul;rw[← hm];exact hml
  have h2:2^s*(lo / 2^s+1)≤2^s*m:=Nat.mul_le_mul_left _ h1
  rw[Nat.mul_add,← hlow,← hm,Nat.mul_one]at h2
  generalize 2^s=P at *
  omega

def unsh (s : Nat) : List Nat → List Nat
 | []=>[]
 | x :: l=>(x+(l[0]?.getD 0)*B) / 2^s%B :: unsh s l
theorem unsh_length (s:Nat) (l:List Nat):(unsh s l).length=l.length:=by
 induction l with
 | nil=>rfl
 | cons x l ih=>simp[unsh,ih]
theorem unsh_get (s:Nat) (l:List Nat) (i:Nat) (h:i<l.length):(unsh s l)[i]? = some ((l[i]+(l[i+1]?.getD 0)*B) / 2^s%B):=by
 induction l generalizing i with
 | nil=>simp at h
 | cons x l ih =>
  cases i with
  | zero=>simp only[unsh,List.getElem?_cons_zero,List.getElem_cons_zero,List.getElem?_cons_succ,Nat.zero_add]
  | succ i=>simp only[unsh,List.getElem?_cons_succ,List.getElem_cons_succ];exact ih i (by simpa using h)
theorem val_unsh {s:Nat} (hs:s≤31) {l:List Nat} (h:ok l):val (unsh s l)=val l / 2^s:=by
 obtain⟨m,hm⟩:=pow_dvd_B (s:=s) (by omega)
 have hP:0<2^s:=Nat.pow_pos (by omega)
 induction l with
 | nil=>simp[unsh,val]
 | cons x l ih =>
  rw[ok_cons]at h
  simp only[unsh,val,ih h.2]
  -- val l = hd + B * r
  obtain⟨hd,r,hv,hhd,hlt⟩:∃ hd r,val l=hd+B*r/\l[0]?.getD 0=hd/\hd<B:=by
   cases l with
   | nil=>exact⟨0,0,by simp[val],rfl,B_pos⟩
   | cons y k=>exact⟨y,val k,rfl,rfl,(ok_cons.1 h.2).1⟩
  rw[hhd,hv]
  have h1:=h.1
  generalize hPe:2^s=P at *
  -- hd = P * a + b
  have hdm:=Nat.div_add_mod hd P
  have hb:=Nat.mod_lt hd hP
  generalize hd / P=a at *
  generalize hd%P=b at *
  subst hdm
  have e1:x+(P*a+b)*B=(x+b*B)+P*(a*B):=by rw[Nat.add_mul,Nat.mul_assoc];omega
  have e2:P*a+b+B*r=b+P*(a+m*r):=by rw[Nat.mul_add,← Nat.mul_assoc,← hm];omega
  have e3:x+B*(b+P*(a+m*r))=(x+b*B)+P*(B*(a+m*r)):=by
   rw[Nat.mul_add B b,Nat.mul_left_comm B P,Nat.mul_comm b B,Nat.add_assoc]
  rw[e1,e2,e3,Nat.add_mul_div_left _ _ hP,Nat.add_mul_div_left _ _ hP,Nat.add_mul_div_left _ _ hP,Nat.div_eq_of_lt hb,Nat.add_mul_mod_self_right]
  clear e1 e2 e3
  have h4:(x+b*B) / P<B:=by
   apply Nat.div_lt_of_lt_mul
   have:(b+1)*B≤P*B:=Nat.mul_le_mul_right B hb
   rw[Nat.add_mul]at this
   omega
  rw[Nat.mod_eq_of_lt h4,Nat.zero_add]

theorem lt_of_top {a b:List Nat} {i:Nat} (ha:ok a) (hab:a.length=b.length) (hi:i<a.length) (hd:a.drop (i+1)=b.drop (i+1)) (h:a[i]<b[i]'(by omega)):val a<val b:=by
 rw[val_take_drop a (k:=i+1) (by omega),val_take_drop b (k:=i+1) (by omega),hd,val_take_succ hi,val_take_succ (by omega)]
 have h1:=val_lt (ok_take ha i)
 rw[List.length_take,Nat.min_eq_left (by omega)]at h1
 have h2:B^i*(a[i]+1)≤B^i*(b[i]'(by omega)):=Nat.mul_le_mul_left _ h
 rw[Nat.mul_add]at h2
 omega
end Dg
/- Plain facts on one digit of a quotient, in the form in which the walk of digit wants them. No condition. -/
namespace Dg
theorem getD_eq {l:List Nat} {i:Nat} (h:i<l.length):l[i]?.getD 0=l[i]:=by rw[List.getElem?_eq_getElem h];rfl
theorem take_getD (l:List Nat) (k:Nat):val (l.take (k+1))=val (l.take k)+B^k*l[k]?.getD 0:=val_take_succ_getD l k
theorem ends_of {O v : List Nat} {m : Nat} (hv : v.length = m + 2) (oO : ok O) (ov : ok v) (norm : B ≤ 2 * v[m + 1]?.getD 0) :
  Ends (val (O.take (m+3))) (val v) (B^m) (O[m+2]?.getD 0*B+O[m+1]?.getD 0) (O[m]?.getD 0) (v[m+1]?.getD 0) (v[m]?.getD 0) (val (O.take m)) (val (v.take m)):=by
 refine⟨?_,?_,?_,?_,ok_getD oO m,ok_getD ov m,ok_getD ov (m+1),norm⟩
 ·rw[take_getD,take_getD,take_getD,Nat.pow_succ B (m+1),Nat.pow_succ B m]
  generalize B^m=P
  rw[Nat.add_mul (_*_),Nat.add_mul (_*_),Nat.add_mul (_*_)]
  have e1:P*B*B*O[m+2]?.getD 0=O[m+2]?.getD 0*B*B*P:=by ac_rfl
  have e2:P*B*O[m+1]?.getD 0=O[m+1]?.getD 0*B*P:=by ac_rfl
  have e3:P*O[m]?.getD 0=O[m]?.getD 0*P:=by ac_rfl
  rw[e1,e2,e3];omega
 ·have h:val v=val (v.take (m+1+1)):=by rw[List.take_of_length_le (by omega)]
  rw[h,take_getD,take_getD,Nat.pow_succ]
  generalize B^m=P
  rw[Nat.add_mul]
  have e2:P*B*v[m+1]?.getD 0=v[m+1]?.getD 0*B*P:=by ac_rfl
  have e3:P*v[m]?.getD 0=v[m]?.getD 0*P:=by ac_rfl
  rw[e2,e3];omega
 ·have:=val_lt (ok_take oO m)
  rw[List.length_take]at this
  exact Nat.lt_of_lt_of_le this (Nat.pow_le_pow_right B_pos (by omega))
 ·have:=val_lt (ok_take ov m)
  rw[List.length_take]at this
  exact Nat.lt_of_lt_of_le this (Nat.pow_le_pow_right B_pos (by omega))
def Guess (U V top v1 v2 g r:Nat):Prop:=g*v1+r=top/\U<(g+1)*V/\g≤B+1/\r<B/\top≤v1*B+v2
theorem guess_init {U V P top u0 v1 v2 u' v':Nat} (e:Ends U V P top u0 v1 v2 u' v') (h:U<V*B):Guess U V top v1 v2 (top / v1) (top%v1):=by
 obtain⟨h1,h2,h3,h4⟩:=guess_start e h
 refine⟨h3,h1,h2,Nat.lt_trans h4 e.hv1,?_⟩
 have hh1:top*B*P≤U:=by rw[e.hU,Nat.add_mul (top*B)];omega
 have hV:V<(v1*B+v2+1)*P:=by rw[e.hV,Nat.add_mul (_+_),Nat.one_mul];have:=e.hv;omega
 have hh2:V*B≤(v1*B+v2+1)*P*B:=Nat.mul_le_mul_right B (Nat.le_of_lt hV)
 have hh3:top*(B*P)<(v1*B+v2+1)*(B*P):=by
  have e1:top*(B*P)=top*B*P:=by rw[Nat.mul_assoc]
  have e2:(v1*B+v2+1)*(B*P)=(v1*B+v2+1)*P*B:=by ac_rfl
  omega
 have:=Nat.lt_of_mul_lt_mul_right hh3
 omega
theorem guess_round {U V P top u0 v1 v2 u' v' g r : Nat} (e : Ends U V P top u0 v1 v2 u' v') (h : U < V * B) (hg : Guess U V top v1 v2 g r) (hc : B ≤ g ∨ r * B + u0 < g * v2) :
  1≤g/\(g-1)*v1+(r+v1)=top/\U<(g-1+1)*V/\(B≤r+v1->g-1<B):=by
 obtain⟨h1,h2,h3,h4,h5⟩:=hg
 have hB:=B_pos
 have hg1:1≤g:=by
  rcases hc with hc | hc
  ·omega
  ·rcases Nat.eq_zero_or_pos g with h0 | h0
   ·subst h0;omega
   ·exact h0
 obtain⟨k,rfl⟩:∃ k,g=k+1:=⟨g-1,by omega⟩
 rw[Nat.add_sub_cancel]
 rw[Nat.add_mul,Nat.one_mul]at h1
 refine⟨hg1,by omega,?_,?_⟩
 ·rcases hc with hc | hc
  ·have:=Nat.mul_le_mul_left V hc
   rw[Nat.mul_comm V (k+1)]at this
   omega
  ·exact guess_down e (by rw[Nat.add_mul,Nat.one_mul];exact h1) hc
 ·intro hr
  rcases Nat.lt_or_ge k B with hk | hk
  ·exact hk
  ·exfalso
   have hk2:k=B:=by omega
   subst hk2
   rw[Nat.mul_comm]at h1
   have:=e.hv2
   omega
def Guessed (U V g:Nat):Prop:=g<B/\U<(g+1)*V/\(0<g->(g-1)*V≤U)
theorem guess_exit {U V P top u0 v1 v2 u' v' g r:Nat} (e:Ends U V P top u0 v1 v2 u' v') (hg:Guess U V top v1 v2 g r) (hgB:g<B) (hc:g*v2≤r*B+u0):Guessed U V g :=
 ⟨hgB,hg.2.1,fun h0=>guess_stop e hg.1 hc hgB h0⟩
theorem guess_break {U V P top u0 v1 v2 u' v' g r:Nat} (e:Ends U V P top u0 v1 v2 u' v') (h1:g*v1+r=top) (h2:U<(g+1)*V) (hgB:g<B) (hr:B≤r):Guessed U V g:=by
 refine⟨hgB,h2,fun h0=>guess_stop e h1 ?_ hgB h0⟩
 have h3:g*v2≤B*B:=Nat.mul_le_mul (by omega) (Nat.le_of_lt e.hv2)
 have h4:B*B≤r*B:=Nat.mul_le_mul_right B hr
 omega
theorem sub_right {U V g W M b:Nat} (hg:Guessed U V g) (h:W+g*V=U+M*b) (hb:b=0):U / V=g/\U%V=W:=by
 subst hb
 exact guess_right (M:=0) (by omega) hg.2.1
theorem sub_great {U V g W M b:Nat} (hg:Guessed U V g) (h:W+g*V=U+M*b) (hW:W<M) (hb:b=1):0<g/\U / V=g-1/\U%V+M=W+V:=by
 subst hb
 have hgp:0<g:=by
  rcases Nat.eq_zero_or_pos g with h0 | h0
  ·subst h0;omega
  ·exact h0
 have h2:=hg.2.2 hgp
 obtain⟨k,rfl⟩:∃ k,g=k+1:=⟨g-1,by omega⟩
 rw[Nat.add_sub_cancel]at h2 ⊢
 rw[Nat.add_mul,Nat.one_mul,Nat.mul_one]at h
 have hU:U<(k+1)*V:=by rw[Nat.add_mul,Nat.one_mul];omega
 have h3:=guess_right (W:=U-k*V) (M:=0) (by omega) hU
 refine⟨hgp,h3.1,?_⟩
 rw[h3.2];omega
end Dg
/- Plain facts on the division of digits by digits, in the form in which the walk of divide wants them. No condition. -/
namespace Dg
theorem length_le_of_val {l:List Nat} {M:Nat} (h:trimmed l) (hv:val l<B^M):l.length≤M:=by
 rcases Nat.lt_or_ge M l.length with h1 | h1
 ·exfalso
  have h2:=pow_le_val h (by intro e;subst e;simp at h1)
  have h3:B^M≤B^(l.length-1):=Nat.pow_le_pow_right B_pos (by omega)
  omega
 ·exact h1
theorem val_drop_eq_zero {l:List Nat} {M:Nat} (hv:val l<B^M):val (l.drop M)=0:=by
 by_cases h:M≤l.length
 ·have:=val_take_drop l h
  rcases Nat.eq_zero_or_pos (val (l.drop M))with h0 | h0
  ·exact h0
  ·have h2:B^M*1≤B^M*val (l.drop M):=Nat.mul_le_mul_left _ h0
   omega
 ·rw[List.drop_of_length_le (by omega)];rfl
theorem val_take_of_lt {l:List Nat} {M:Nat} (hv:val l<B^M):val (l.take M)=val l:=by
 by_cases h:M≤l.length
 ·have:=val_take_drop l h
  rw[val_drop_eq_zero hv]at this;omega
 ·rw[List.take_of_length_le (by omega)]
theorem moved {b vs : List Nat} {m s : Nat} (hb : b.length = m + 2) (ob : ok b) (hs1 : B ≤ 2 * (b[m + 1]?.getD 0 * 2 ^ s)) (hs2 : b[m + 1]?.getD 0 * 2 ^ s < B) (ov : ok vs) (hv : val vs = val b * 2 ^ s) :
  (trim vs).length=m+2/\B≤2*(trim vs)[m+1]?.getD 0/\val vs<B^(m+2)/\B^(m+1)*2^s≤val vs:=by
 have hp:0<2^s:=Nat.pow_pos (by omega)
 have e:val b=val (b.take (m+1))+B^(m+1)*b[m+1]?.getD 0:=by
  rw[← val_take_succ_getD,List.take_of_length_le (by omega)]
 have hlo:=val_lt (ok_take ob (m+1))
 rw[List.length_take,Nat.min_eq_left (by omega)]at hlo
 generalize b[m+1]?.getD 0=t at *
 -- the leading digit is at least 1
 have ht:0<t:=by
  rcases Nat.eq_zero_or_pos t with h | h
  ·subst h;have:=B_pos;omega
  ·exact h
 have hlow:B^(m+1)*(t*2^s)≤val vs:=by
  rw[hv,e,Nat.add_mul,Nat.mul_assoc];omega
 have hlt:val vs<B^(m+2):=by
  have h1:val b<B^(m+1)*(t+1):=by rw[Nat.mul_add];omega
  have h2:val vs<B^(m+1)*(t+1)*2^s:=by rw[hv];exact Nat.mul_lt_mul_of_pos_right h1 hp
  have h3:(t+1)*2^s≤B:=by
   -- 2 ^ s divides B and t * 2 ^ s < B
   rcases Nat.lt_or_ge B ((t+1)*2^s)with h | h
   ·exfalso
    have hs:s≤32:=by
     rcases Nat.lt_or_ge 32 s with h6 | h6
     ·exfalso
      have:2^32≤2^s:=Nat.pow_le_pow_right (by omega) (by omega)
      have h7:1*2^s≤t*2^s:=Nat.mul_le_mul_right _ ht
      have h8:(2:Nat)^32=B:=rfl
      omega
     ·exact h6
    obtain⟨q,hq⟩:=pow_dvd_B hs
    rw[hq,Nat.mul_comm (2^s)]at h hs2
    have h9:=Nat.lt_of_mul_lt_mul_right h
    have h10:=Nat.lt_of_mul_lt_mul_right hs2
    omega
   ·exact h
  have h4:B^(m+1)*(t+1)*2^s≤B^(m+1)*B:=by rw[Nat.mul_assoc];exact Nat.mul_le_mul_left _ h3
  rw[Nat.pow_succ B (m+1)]
  omega
 have h1:(trim vs).length≤m+2:=length_le_of_val (trim_trimmed vs) (by rw[val_trim];exact hlt)
 have hlow2:B^(m+1)*2^s≤val vs:=by
  refine Nat.le_trans (Nat.mul_le_mul_left _ ?_) hlow
  have:1*2^s≤t*2^s:=Nat.mul_le_mul_right _ ht
  omega
 have h2:m+1<(trim vs).length:=by
  rcases Nat.lt_or_ge (m+1) (trim vs).length with h | h
  ·exact h
  ·exfalso
   have h3:=val_lt (ok_trim ov)
   rw[val_trim]at h3
   have h4:B^(trim vs).length≤B^(m+1):=Nat.pow_le_pow_right B_pos h
   have h5:B^(m+1)*1≤B^(m+1)*2^s:=Nat.mul_le_mul_left _ hp
   omega
 refine⟨by omega,?_,hlt,hlow2⟩
 have e2:val (trim vs)=val ((trim vs).take (m+1))+B^(m+1)*(trim vs)[m+1]?.getD 0:=by
  rw[← val_take_succ_getD,List.take_of_length_le (by omega)]
 have hlo2:=val_lt (ok_take (ok_trim ov) (m+1))
 rw[List.length_take,Nat.min_eq_left (by omega)]at hlo2
 rw[val_trim]at e2
 generalize (trim vs)[m+1]?.getD 0=r at *
 -- B ^ (m+1) * (t * 2^s) ≤ val vs < B ^ (m+1) * (r + 1)
 have h6:B^(m+1)*(t*2^s)<B^(m+1)*(r+1):=by rw[Nat.mul_add];omega
 have h7:=Nat.lt_of_mul_lt_mul_left h6
 omega
def Made (X V k:Nat) (qs us:List Nat):Prop:=X=val (qs.drop k)*B^k*V+val us/\val (us.drop k)<V
theorem made_start {a us qs : List Nat} {n m s V : Nat} (ha : a.length = n) (oa : ok a) (hn : m + 2 ≤ n) (hus : us.length = n + 1) (hv : val us = val a * 2 ^ s) (hV : B ^ (m + 1) * 2 ^ s ≤ V) (hq : qs.length = n + 1 - (m + 2)) :
  Made (val a*2^s) V (n+1-(m+2)) qs us:=by
 refine⟨by rw[List.drop_of_length_le (by omega),← hv];simp[val],?_⟩
 have h1:=val_lt oa
 rw[ha]at h1
 have h2:=val_take_drop us (k:=n+1-(m+2)) (by omega)
 rw[hv]at h2
 have hp:0<2^s:=Nat.pow_pos (by omega)
 have h3:val a*2^s<B^n*2^s:=Nat.mul_lt_mul_of_pos_right h1 hp
 have e:B^n=B^(n+1-(m+2))*B^(m+1):=by rw[← Nat.pow_add];congr 1;omega
 rw[e,Nat.mul_assoc]at h3
 have h4:B^(n+1-(m+2))*val (us.drop (n+1-(m+2)))<B^(n+1-(m+2))*(B^(m+1)*2^s):=by omega
 have:=Nat.lt_of_mul_lt_mul_left h4
 omega
theorem made_pre {X V k m : Nat} {qs us : List Nat} (hk : k < us.length) (ou : ok us) (hM : Made X V (k + 1) qs us) (hV : V < B ^ (m + 2)) :
  val ((us.drop k).take (m+3))<V*B/\val ((us.drop k).take (m+3))=val (us.drop k):=by
 have e:val (us.drop k)=us[k]+B*val (us.drop (k+1)):=by rw[List.drop_eq_getElem_cons hk];rfl
 have h1:=ok_get ou hk
 have h2:=hM.2
 have h3:B*(val (us.drop (k+1))+1)≤B*V:=Nat.mul_le_mul_left _ h2
 rw[Nat.mul_add,Nat.mul_comm B V]at h3
 have h4:val (us.drop k)<V*B:=by omega
 have h5:V*B<B^(m+3):=by rw[Nat.pow_succ];exact Nat.mul_lt_mul_of_pos_right hV B_pos
 have h6:=val_take_of_lt (l:=us.drop k) (M:=m+3) (by omega)
 exact⟨by omega,h6⟩
theorem above {us us' : List Nat} {k M : Nat} (hlen : us'.length = us.length) (hd : us'.drop (k + M) = us.drop (k + M)) (hp : val ((us.drop k).take M) = val (us.drop k)) :
  val (us'.drop k)=val ((us'.drop k).take M):=by
 by_cases hl:M≤(us.drop k).length
 ·have h1:=val_take_drop (us.drop k) (k:=M) hl
  have h2:=val_take_drop (us'.drop k) (k:=M) (by rw[List.length_drop]at hl ⊢;omega)
  rw[hp,List.drop_drop]at h1
  rw[List.drop_drop,hd]at h2
  have h0:0<B^M:=Nat.pow_pos B_pos
  rcases Nat.eq_zero_or_pos (val (us.drop (k+M)))with h | h
  ·rw[h]at h2;exact h2
  ·have:=Nat.mul_pos h0 h;omega
 ·rw[List.take_of_length_le (by rw[List.length_drop]at hl ⊢;omega)]
theorem made_step {X V k m q : Nat} {qs us us' : List Nat} (hk : k < us.length) (hkq : k < qs.length) (hlen : us'.length = us.length) (hM : Made X V (k + 1) qs us) (hVp : 0 < V)
  (ht:us'.take k=us.take k) (hd:us'.drop (k+(m+3))=us.drop (k+(m+3))) (hp:val ((us.drop k).take (m+3))=val (us.drop k))
  (hq:q=val ((us.drop k).take (m+3)) / V) (hr:val ((us'.drop k).take (m+3))=val ((us.drop k).take (m+3))%V) :
  Made X V k (qs.set k q) us':=by
 have hval':=above hlen hd hp
 have hU:=val_take_drop us (k:=k) (by omega)
 have hU':=val_take_drop us' (k:=k) (by omega)
 have hmod:=Nat.div_add_mod (val (us.drop k)) V
 rw[hp]at hq hr
 rw[hr]at hval'
 have hlt:=Nat.mod_lt (val (us.drop k)) hVp
 refine⟨?_,by rw[hval'];exact hlt⟩
 have hkq':k<(qs.set k q).length:=by rw[List.length_set];exact hkq
 have e1:val ((qs.set k q).drop k)=q+B*val (qs.drop (k+1)):=by
  rw[List.drop_eq_getElem_cons hkq',List.drop_set_of_lt (by omega)];simp[val]
 have g1:=hM.1
 rw[hU,Nat.pow_succ]at g1
 have g2:val us'=val (us.take k)+B^k*(val (us.drop k)%V):=by rw[hU',ht,hval']
 rw[g1,e1,g2,hq]
 clear g1 g2 e1 hU hU' hval' hd ht hp hr hM hq hkq' hlt
 generalize val (us.drop k)=U at *
 generalize val (qs.drop (k+1))=Q at *
 generalize val (us.take k)=T at *
 generalize U%V=r at *
 generalize U / V=q at *
 generalize B^k=P at *
 subst hmod
 rw[Nat.mul_add P,Nat.add_mul,Nat.add_mul]
 have e2:Q*(P*B)*V=B*Q*P*V:=by ac_rfl
 have e3:P*(V*q)=q*P*V:=by ac_rfl
 rw[e2,e3]
 generalize B*Q*P*V=t1
 generalize q*P*V=t2
 generalize P*r=t3
 omega
theorem made_end {x V y s:Nat} {qs us:List Nat} (hV:V=y*2^s) (hM:Made (x*2^s) V 0 qs us):val qs=x / y/\val us / 2^s=x%y:=by
 obtain⟨h1,h2⟩:=hM
 simp only[List.drop_zero,Nat.pow_zero,Nat.mul_one]at h1 h2
 have hp:0<2^s:=Nat.pow_pos (by omega)
 subst hV
 -- the rest is a multiple of 2 ^ s
 have hy:0<y:=by
  rcases Nat.eq_zero_or_pos y with h | h
  ·subst h;omega
  ·exact h
 have e:val us=(x-val qs*y)*2^s:=by
  rw[Nat.sub_mul,Nat.mul_assoc];omega
 have hle:val qs*y≤x:=by
  have:val qs*y*2^s≤x*2^s:=by rw[Nat.mul_assoc];omega
  exact Nat.le_of_mul_le_mul_right this hp
 have hlt:x-val qs*y<y:=by
  rw[e]at h2
  exact Nat.lt_of_mul_lt_mul_right h2
 have h3:=guess_right (U:=x) (V:=y) (W:=x-val qs*y) (g:=val qs) (M:=0) (by omega) (by rw[Nat.add_mul,Nat.one_mul];omega)
 refine⟨h3.1.symm,?_⟩
 rw[e,Nat.mul_div_cancel _ hp,h3.2]
end Dg
/- The digits of a number; an integer as the fields of its struct. -/
namespace Go.Proofs.YtkmbnldginonbaaGreat
open Go.RowKit
def digsF : Nat → Nat → List Nat
 | 0,_=>[]
 | k+1,n=>if n=0 then []else n%Dg.B :: digsF k (n / Dg.B)
def digs (n:Nat):List Nat:=digsF n n
theorem digsF_spec : ∀ (k n : Nat), n ≤ k → Dg.val (digsF k n) = n ∧ Dg.ok (digsF k n) ∧ Dg.trimmed (digsF k n)
 | 0,n,h=>by
  have:n=0:=by omega
  subst this
  exact⟨rfl,Dg.ok_nil,fun d h=>by simp[digsF]at h⟩
 | k+1,n,h=>by
  simp only[digsF]
  split
  ·rename_i h0;subst h0;exact⟨rfl,Dg.ok_nil,fun d h=>by simp at h⟩
  ·rename_i h0
   have hB:1<Dg.B:=by decide
   have hlt:n / Dg.B<n:=Nat.div_lt_self (by omega) hB
   obtain⟨h1,h2,h3⟩:=digsF_spec k (n / Dg.B) (by omega)
   refine⟨?_,Dg.ok_cons.2 ⟨Nat.mod_lt _ Dg.B_pos,h2⟩,?_⟩
   ·simp only[Dg.val];rw[h1];exact Nat.mod_add_div n Dg.B
   ·intro d hd
    cases hl:digsF k (n / Dg.B)with
    | nil =>
     rw[hl]at hd h1
     simp at hd
     simp only[Dg.val]at h1
     have:=Nat.mod_add_div n Dg.B
     rw[← h1]at this
     omega
    | cons x l =>
     rw[hl]at hd h3
     rw[List.getLast?_cons_cons]at hd
     exact h3 d hd
theorem digs_val (n:Nat):Dg.val (digs n)=n:=(digsF_spec n n (Nat.le_refl _)).1
theorem digs_ok (n:Nat):Dg.ok (digs n):=(digsF_spec n n (Nat.le_refl _)).2.1
theorem digs_trimmed (n:Nat):Dg.trimmed (digs n):=(digsF_spec n n (Nat.le_refl _)).2.2
theorem digs_unique {l:List Nat} {n:Nat} (ho:Dg.ok l) (ht:Dg.trimmed l) (hv:Dg.val l=n):l=digs n :=
 Dg.val_inj ho (digs_ok n) ht (digs_trimmed n) (by rw[hv,digs_val])
def zlen (x:Int):Nat:=(digs x.natAbs).length
theorem zlen_le {x:Int} {L:Nat} (h:x.natAbs<Dg.B^L):zlen x≤L:=Dg.length_le_of_val (digs_trimmed _) (by rw[digs_val];exact h)
theorem zlen_lt (x:Int):x.natAbs<Dg.B^zlen x:=by
 have:=Dg.val_lt (digs_ok x.natAbs)
 rwa [digs_val]at this
theorem zlen_mul (x y:Int):zlen (x*y)≤zlen x+zlen y:=by
 refine zlen_le ?_
 rw[Int.natAbs_mul,Nat.pow_add]
 exact Nat.mul_lt_mul'' (zlen_lt x) (zlen_lt y)
theorem zlen_add (x y:Int):zlen (x+y)≤max (zlen x) (zlen y)+1:=by
 refine zlen_le ?_
 have h1:=zlen_lt x
 have h2:=zlen_lt y
 have h3:Dg.B^zlen x≤Dg.B^max (zlen x) (zlen y):=Nat.pow_le_pow_right Dg.B_pos (by omega)
 have h4:Dg.B^zlen y≤Dg.B^max (zlen x) (zlen y):=Nat.pow_le_pow_right Dg.B_pos (by omega)
 have h5:=Int.natAbs_add_le x y
 rw[Nat.pow_succ]
 have hB:2≤Dg.B:=by decide
 have:Dg.B^max (zlen x) (zlen y)*2≤Dg.B^max (zlen x) (zlen y)*Dg.B:=Nat.mul_le_mul_left _ hB
 omega
theorem zlen_neg (x:Int):zlen (-x)=zlen x:=by unfold zlen;rw[Int.natAbs_neg]
theorem zlen_natAbs_le {x y:Int} (h:x.natAbs≤y.natAbs):zlen x≤zlen y:=zlen_le (Nat.lt_of_le_of_lt h (zlen_lt y))
def dsC (l:List Nat):Cell := .row 1 l.length fun i _ => .int .u32 (l.getD i 0:Nat)
structure RawZ where
 neg:Bool
 ds:List Nat
def RawZ.val (a:RawZ):Int:=sgn a.neg (Dg.val a.ds)
def zr (a:RawZ):List Cell:=[.bool a.neg,dsC a.ds]
def ofZ (x:Int):RawZ:=⟨decide (x<0),digs x.natAbs⟩
abbrev nz (x:Int):List Cell:=zr (ofZ x)
theorem ofZ_val (x:Int):(ofZ x).val=x:=by
 unfold RawZ.val ofZ sgn
 simp only[digs_val]
 by_cases h:x<0
 ·simp[h];omega
 ·simp[h];omega
theorem ofZ_ok (x:Int):Dg.ok (ofZ x).ds:=digs_ok _
theorem ofZ_len (x:Int):(ofZ x).ds.length=zlen x:=rfl
end Go.Proofs.YtkmbnldginonbaaGreat
/- Types of the program, as a table; the program as an environment of abstract runs. -/
namespace Go.Proofs.YtkmbnldginonbaaGreat
open Go.RowKit
theorem mixed:Tryz.prog.follows .mixedOrders=true:=by kernel_rfl
def tyTab:List (Nat × TI) :=
 (36,⟨true,2,[.bool false,.nil],32,[some (0,1),some (1,1)],none,none,3⟩) ::
 (38,⟨true,4,[.bool false,.nil,.bool false,.nil],64,[some (0,2),some (2,2)],none,none,0⟩) ::
 (34,⟨false,1,[.nil],24,[],some 119,none,0⟩) ::
 (119,⟨false,1,[.int .u32 0],4,[],none,some .u32,0⟩) ::
 (4,⟨false,1,[.bool false],1,[],none,none,1⟩) ::
 (3,⟨false,1,[.int .i64 0],8,[],none,some .i64,0⟩) ::
 (22,⟨false,1,[.nil],24,[],some 38,none,0⟩) ::
 (27,⟨false,1,[.nil],24,[],some 38,none,0⟩) ::
 (24,⟨true,3,[.int .i64 0,.int .i64 0,.nil],40,[some (0,1),some (1,1),some (2,1)],none,none,3⟩) ::
 (122,⟨false,1,[.nil],24,[],some 22,none,0⟩) ::
 (72,⟨false,1,[.nil],24,[],some 22,none,0⟩) ::
 (76,⟨false,1,[.nil],24,[],some 27,none,0⟩) ::
 (67,⟨false,1,[.nil],24,[],some 3,none,0⟩) ::
 (68,⟨false,1,[.nil],24,[],some 67,none,0⟩) ::
 (28,⟨false,1,[.int .i64 0],8,[],none,some .i64,0⟩) ::
 (147,⟨false,1,[.int .u64 0],8,[],none,some .u64,0⟩) ::
 (9,⟨false,1,[.str ⟨#[]⟩],16,[],none,none,2⟩) ::
 (152,⟨false,1,[.int .u64 0],8,[],none,some .u64,0⟩) ::
 []
def tyE (T:Nat):Option TI:=(tyTab.find? fun p=>p.1 == T).map (·.2)
theorem tyTab_ok:∀ p∈tyTab,tyOf Tryz.prog p.1=some p.2:=by
 unfold tyTab
 repeat (refine List.forall_mem_cons.2 ⟨by kernel_rfl,?_⟩)
 exact fun p h=>absurd h List.not_mem_nil
theorem tyE_ok (T:Nat) (ti:TI) (h:tyE T=some ti):tyOf Tryz.prog T=some ti:=by
 unfold tyE at h
 cases hf:tyTab.find? fun p=>p.1 == T with
 | none=>rw[hf]at h;cases h
 | some p =>
  rw[hf]at h
  have h1:=List.find?_some hf
  have h2:=tyTab_ok p (List.mem_of_find?_eq_some hf)
  simp at h h1
  rw[← h1,h2,h]
noncomputable def E1:Env:=⟨Tryz.prog,true,tyE,0⟩
noncomputable def E1m:Env:=⟨Tryz.prog,true,tyE,1⟩
noncomputable def E0:Env:=⟨Tryz.prog,false,tyE,0⟩
theorem E1_ok:EnvOK E1:=⟨tyE_ok⟩
theorem E1m_ok:EnvOK E1m:=⟨tyE_ok⟩
theorem E0_ok:EnvOK E0:=⟨tyE_ok⟩
end Go.Proofs.YtkmbnldginonbaaGreat
/- Digits to base 2^32 as functions: their value, the digits of a number, leading zeros. No condition. -/
namespace Go.Proofs.YtkmbnldginonbaaGreat
open Go.RowKit
namespace Rf
abbrev BB:Nat:=4294967296
def nv (d : Nat → Nat) : Nat → Nat
  | 0=>0
  | q+1=>nv d q+BB^q*d q
def dg (x i:Nat):Nat:=x / BB^i%BB
def tn (d : Nat → Nat) : Nat → Nat
  | 0=>0
  | n+1=>if d n=0 then tn d n else n+1
def DOk (q:Nat) (d:Nat->Nat):Prop:=∀ i,i<q->d i<BB
theorem BB_pos (i:Nat):0<BB^i:=Nat.pow_pos (by decide)
theorem DOk.mono {q r:Nat} {d:Nat->Nat} (h:DOk q d) (hr:r≤q):DOk r d:=fun i hi=>h i (by omega)
theorem nv_congr {d e : Nat → Nat} : ∀ {q : Nat}, (∀ i, i < q → d i = e i) → nv d q = nv e q
  | 0,_=>rfl
  | q+1,h=>by
    unfold nv
    rw[h q (by omega),nv_congr fun i hi=>h i (by omega)]
theorem nv_lt {d : Nat → Nat} : ∀ {q : Nat}, DOk q d → nv d q < BB ^ q
  | 0,_=>by simp[nv]
  | q+1,h=>by
    have h1:=nv_lt (h.mono (Nat.le_succ q))
    have h2:BB^q*d q≤BB^q*(BB-1):=Nat.mul_le_mul_left _ (by have:=h q (by omega);omega)
    have h3:BB^q*(BB-1)+BB^q=BB^(q+1):=by rw[Nat.pow_succ,← Nat.mul_succ];rfl
    unfold nv
    omega
theorem dg_lt (x i:Nat):dg x i<BB:=Nat.mod_lt _ (by decide)
theorem dg_ok (x q:Nat):DOk q (dg x):=fun i _=>dg_lt x i
theorem nv_dg (x : Nat) : ∀ q, nv (dg x) q = x % BB ^ q
  | 0=>by simp[nv,Nat.mod_one]
  | q+1=>by
    unfold nv
    rw[nv_dg x q,Nat.mod_pow_succ]
    rfl
theorem dg_nv {d : Nat → Nat} : ∀ {q i : Nat}, DOk q d → i < q → dg (nv d q) i = d i
  | 0,_,_,h=>by omega
  | q+1,i,h,hi=>by
    have h1:=nv_lt (h.mono (Nat.le_succ q))
    unfold nv dg
    rcases Nat.lt_or_ge i q with e | e
    · have:=dg_nv (h.mono (Nat.le_succ q)) e
      unfold dg at this
      have hp:BB^q*d q=BB^i*(BB*(BB^(q-i-1)*d q)):=by
        rw[← Nat.mul_assoc,← Nat.mul_assoc,← Nat.pow_succ,← Nat.pow_add]
        congr 2
        omega
      rw[hp,Nat.add_mul_div_left _ _ (BB_pos i),Nat.add_mul_mod_self_left]
      exact this
    · obtain rfl:i=q:=by omega
      rw[Nat.add_mul_div_left _ _ (BB_pos i),Nat.div_eq_of_lt h1,Nat.zero_add]
      exact Nat.mod_eq_of_lt (h i (by omega))
theorem nv_mod {d:Nat->Nat} {q i:Nat} (h:DOk q d) (hi:i≤q):nv d q%BB^i=nv d i:=by
  rw[← nv_dg]
  exact nv_congr fun j hj=>dg_nv h (by omega)
theorem tn_le (d : Nat → Nat) : ∀ n, tn d n ≤ n
  | 0=>Nat.le_refl _
  | n+1=>by
    unfold tn
    split
    · exact Nat.le_succ_of_le (tn_le d n)
    · exact Nat.le_refl _
theorem nv_tn (d : Nat → Nat) : ∀ n, nv d (tn d n) = nv d n
  | 0=>rfl
  | n+1=>by
    unfold tn
    split
    · rename_i h
      rw[nv_tn d n]
      show _=nv d n+BB^n*d n
      rw[h];rfl
    · rfl
theorem tn_top {d : Nat → Nat} : ∀ {n k : Nat}, tn d n = k + 1 → d k ≠ 0
  | 0,_,h=>by simp[tn]at h
  | n+1,k,h=>by
    unfold tn at h
    split at h
    · exact tn_top h
    · rename_i h0
      obtain rfl:n=k:=by omega
      exact h0
theorem nv_top {d:Nat->Nat} {k:Nat} (h:d k≠0):BB^k≤nv d (k+1):=by
  unfold nv
  have:BB^k*1≤BB^k*d k:=Nat.mul_le_mul_left _ (by omega)
  omega
abbrev ld (l:List Nat):Nat->Nat:=fun i=>l.getD i 0
theorem ld_ok {l:List Nat} (h:Dg.ok l) (q:Nat):DOk q (ld l):=fun i _=>Dg.ok_getD h i
theorem nv_take (l : List Nat) : ∀ {k : Nat}, k ≤ l.length → nv (ld l) k = Dg.val (l.take k)
  | 0,_=>by simp[nv,Dg.val]
  | k+1,h=>by
    unfold nv
    rw[nv_take l (by omega),Dg.val_take_succ (by omega)]
    simp[ld,List.getD,List.getElem?_eq_getElem (show k<l.length by omega),Dg.B]
theorem nv_ld (l:List Nat):nv (ld l) l.length=Dg.val l:=by rw[nv_take l (Nat.le_refl _),List.take_length]
def lr (d:Nat->Nat) (q:Nat):List Nat:=(List.range q).map d
theorem lr_val (d : Nat → Nat) : ∀ q, Dg.val (lr d q) = nv d q
  | 0=>rfl
  | q+1=>by
    unfold lr nv
    rw[List.range_succ,List.map_append,List.map_singleton,Dg.val_snoc]
    have:=lr_val d q
    unfold lr at this
    rw[this,List.length_map,List.length_range]
    rfl
theorem lr_get (d:Nat->Nat) {q i:Nat} (h:i<q):(lr d q).getD i 0=d i:=by
  simp[lr,List.getD,h]
theorem digs_of {d:Nat->Nat} {q x:Nat} (h:DOk q d) (ht:∀ k,q=k+1->d k≠0) (hx:nv d q=x):q=(digs x).length/\∀ i,i<q->d i=ld (digs x) i:=by
  have e:lr d q=digs x:=digs_unique (fun y hy=>by
      simp only[lr,List.mem_map,List.mem_range]at hy
      obtain⟨i,hi,rfl⟩:=hy
      exact h i hi) (fun y hy=>by
      cases q with
      | zero=>simp[lr]at hy
      | succ k =>
        have:(lr d (k+1)).getLast? = some (d k):=by simp[lr,List.range_succ]
        rw[this]at hy
        injection hy with hy
        subst hy
        exact ht k rfl) ((lr_val d q).trans hx)
  refine⟨by rw[← e];simp[lr],fun i hi=>?_⟩
  rw[← e]
  exact(lr_get d hi).symm
theorem tn_digs {d:Nat->Nat} {n:Nat} (h:DOk n d):tn d n=(digs (nv d n)).length/\∀ i,i<tn d n->d i=ld (digs (nv d n)) i :=
  digs_of (h.mono (tn_le d n)) (fun _ hk=>tn_top hk) (nv_tn d n)
theorem digs_top {x k:Nat} (h:(digs x).length=k+1):ld (digs x) k≠0:=by
  refine digs_trimmed x _ ?_
  rw[List.getLast?_eq_getElem?,h,Nat.add_sub_cancel]
  show _=some ((digs x)[k]?.getD 0)
  rw[List.getElem?_eq_getElem (show k<(digs x).length by omega)]
  rfl
theorem nv_digs (x:Nat):nv (ld (digs x)) (digs x).length=x:=by rw[nv_ld,digs_val]
theorem digs_lt {x k:Nat} (h:x<BB^k):(digs x).length≤k:=Dg.length_le_of_val (digs_trimmed _) (by rw[digs_val];exact h)
theorem lt_digs (x:Nat):x<BB^(digs x).length:=by
  have:=Dg.val_lt (digs_ok x)
  rwa [digs_val]at this
theorem digs_le {x y:Nat} (h:x≤y):(digs x).length≤(digs y).length:=digs_lt (Nat.lt_of_le_of_lt h (lt_digs y))
theorem digs_pow {x k:Nat} (h:(digs x).length=k+1):BB^k≤x:=by
  have:=nv_top (digs_top h)
  rw[← h,nv_digs]at this
  exact this
theorem digs_zero {x:Nat}:(digs x).length=0↔x=0:=by
  refine⟨fun h=>?_,fun h=>?_⟩
  · have:=nv_digs x
    rw[h]at this
    exact this.symm
  · subst h;rfl
end Rf
end Go.Proofs.YtkmbnldginonbaaGreat
/- Sums, differences and products of digits: plain laws. No condition. -/
namespace Go.Proofs.YtkmbnldginonbaaGreat
open Go.RowKit
namespace Rf
def ext (n:Nat) (a:Nat->Nat) (i:Nat):Nat:=if i<n then a i else 0
theorem ext_ok {n:Nat} {a:Nat->Nat} (h:DOk n a) (q:Nat):DOk q (ext n a):=fun i _=>by
  unfold ext
  split
  · exact h i ‹_›
  · decide
theorem ext_nv {n : Nat} {a : Nat → Nat} : ∀ {q : Nat}, n ≤ q → nv (ext n a) q = nv a n
  | 0, h => by obtain rfl : n = 0 := by omega
               rfl
  | q+1,h=>by
    rcases Nat.lt_or_ge q n with e | e
    · obtain rfl:n=q+1:=by omega
      exact nv_congr fun i hi=>if_pos hi
    · show nv (ext n a) q+BB^q*ext n a q=nv a n
      rw[ext_nv e,show ext n a q=0 from if_neg (by omega),Nat.mul_zero,Nat.add_zero]
theorem nv_hi {d:Nat->Nat} {q i:Nat} (h:DOk q d) (hi:i≤q):nv d q=nv d i+BB^i*(nv d q / BB^i):=by
  have:=Nat.mod_add_div (nv d q) (BB^i)
  rw[nv_mod h hi]at this
  omega
theorem dg_hi (x y i:Nat):dg (x+BB^(i+1)*y) i=x / BB^i%BB:=by
  unfold dg
  rw[Nat.pow_succ,Nat.mul_assoc,Nat.add_mul_div_left _ _ (BB_pos i),Nat.add_mul_mod_self_left]
theorem part_div (x t i:Nat):(x+BB^i*t) / BB^i=x / BB^i+t:=Nat.add_mul_div_left _ _ (BB_pos i)
theorem sum_dig {A B:Nat->Nat} {M i:Nat} (hA:DOk M A) (hB:DOk M B) (hi:i<M):dg (nv A M+nv B M) i=((nv A i+nv B i) / BB^i+A i+B i)%BB:=by
  rw[nv_hi hA (show i+1≤M by omega),nv_hi hB (show i+1≤M by omega)]
  have e:∀ p q r s:Nat,nv A (i+1)+p*q+(nv B (i+1)+p*s)=(nv A (i+1)+nv B (i+1))+p*(q+s):=fun p q r s=>by rw[Nat.mul_add];omega
  rw[e _ _ 0 _,dg_hi]
  have e2:nv A (i+1)+nv B (i+1)=(nv A i+nv B i)+BB^i*(A i+B i):=by
    show nv A i+BB^i*A i+(nv B i+BB^i*B i)=_
    rw[Nat.mul_add];omega
  rw[e2,part_div,← Nat.add_assoc]
theorem sum_car (A B:Nat->Nat) (i:Nat):(nv A (i+1)+nv B (i+1)) / BB^(i+1)=((nv A i+nv B i) / BB^i+A i+B i) / BB:=by
  have e2:nv A (i+1)+nv B (i+1)=(nv A i+nv B i)+BB^i*(A i+B i):=by
    show nv A i+BB^i*A i+(nv B i+BB^i*B i)=_
    rw[Nat.mul_add];omega
  rw[e2,Nat.pow_succ,← Nat.div_div_eq_div_mul,part_div,← Nat.add_assoc]
theorem sum_le1 {A B:Nat->Nat} {i:Nat} (hA:DOk i A) (hB:DOk i B):(nv A i+nv B i) / BB^i≤1:=by
  have h1:=nv_lt hA
  have h2:=nv_lt hB
  have:(nv A i+nv B i) / BB^i<2:=(Nat.div_lt_iff_lt_mul (BB_pos i)).2 (by omega)
  omega
theorem sum_top {A B:Nat->Nat} {M:Nat} (hA:DOk M A) (hB:DOk M B):dg (nv A M+nv B M) M=(nv A M+nv B M) / BB^M:=by
  unfold dg
  exact Nat.mod_eq_of_lt (Nat.lt_of_le_of_lt (sum_le1 hA hB) (by decide))
def bor (A B:Nat->Nat) (i:Nat):Nat:=if nv A i<nv B i then 1 else 0
theorem dif_split {P b z br br' a0 b0 s t u v:Nat} (h3:b0≤a0+P*br) (h4:z+(br+t)=s+b*br') (h5:v+br'≤u):(a0+P*s+P*b*u)-(b0+P*t+P*b*v)=(a0+P*br-b0)+P*z+P*b*(u-v-br'):=by
  obtain⟨w,rfl⟩:∃ w,u=v+br'+w:=⟨u-(v+br'),by omega⟩
  rw[show v+br'+w-v-br'=w by omega]
  have h6:P*s+P*(b*br')=P*z+P*br+P*t:=by
    rw[← Nat.mul_add,← h4,Nat.mul_add,Nat.mul_add];omega
  have e1:P*b*(v+br'+w)=P*b*v+P*(b*br')+P*b*w:=by
    rw[Nat.mul_add,Nat.mul_add,Nat.mul_assoc P b br']
  rw[e1]
  generalize P*b*v=x1 at *
  generalize P*(b*br')=x2 at *
  generalize P*b*w=x3 at *
  generalize P*br=x4 at *
  omega
theorem top_lt {P s t a0 b0:Nat} (ha:a0<P) (hb:b0<P):(s<t->a0+P*s<b0+P*t)/\(s=t->(a0+P*s<b0+P*t↔a0<b0))/\(t<s->¬ a0+P*s<b0+P*t):=by
  refine⟨fun h=>?_,fun h=>?_,fun h=>?_⟩
  · have:=Nat.mul_le_mul_left P (show s+1≤t from h)
    rw[Nat.mul_add]at this
    omega
  · subst h;omega
  · have:=Nat.mul_le_mul_left P (show t+1≤s from h)
    rw[Nat.mul_add]at this
    omega
theorem top_le {P s t a0 b0:Nat} (ha:a0<P) (h:b0+P*t≤a0+P*s):t≤s:=by
  rcases Nat.lt_or_ge s t with e | e
  · have:=Nat.mul_le_mul_left P (show s+1≤t from e)
    rw[Nat.mul_add]at this
    omega
  · exact e
theorem dif_place {A B:Nat->Nat} {M i z br br' u v:Nat} (a1:nv A M=nv A i+BB^i*A i+BB^i*BB*u) (b1:nv B M=nv B i+BB^i*B i+BB^i*BB*v) (hz:z<BB) (h2:nv A i+BB^i*br-nv B i<BB^i) (h3:nv B i≤nv A i+BB^i*br) (h4:z+(br+B i)=A i+BB*br') (h5:v+br'≤u):dg (nv A M-nv B M) i=z:=by
  rw[a1,b1,dif_split h3 h4 h5,← Nat.pow_succ,dg_hi,part_div,Nat.div_eq_of_lt h2,Nat.zero_add]
  exact Nat.mod_eq_of_lt hz
theorem dif_dig {A B : Nat → Nat} {M i : Nat} (hA : DOk M A) (hB : DOk M B) (hi : i < M) (hle : nv B M ≤ nv A M) :
    (A i<bor A B i+B i->bor A B (i+1)=1/\dg (nv A M-nv B M) i+(bor A B i+B i)=A i+BB)/\(¬ A i<bor A B i+B i->bor A B (i+1)=0/\dg (nv A M-nv B M) i+(bor A B i+B i)=A i):=by
  obtain⟨u,a1⟩:∃ u,nv A M=nv A (i+1)+BB^(i+1)*u:=⟨_,nv_hi hA (show i+1≤M by omega)⟩
  obtain⟨v,b1⟩:∃ v,nv B M=nv B (i+1)+BB^(i+1)*v:=⟨_,nv_hi hB (show i+1≤M by omega)⟩
  have lA:=nv_lt (hA.mono (show i≤M by omega))
  have lB:=nv_lt (hB.mono (show i≤M by omega))
  have lA':=nv_lt (hA.mono (show i+1≤M by omega))
  have lB':=nv_lt (hB.mono (show i+1≤M by omega))
  have oA:=hA i hi
  have oB:=hB i hi
  have a2:nv A (i+1)=nv A i+BB^i*A i:=rfl
  have b2:nv B (i+1)=nv B i+BB^i*B i:=rfl
  have hv0:v≤u:=top_le (s:=u) (t:=v) lA' (by rw[← a1,← b1];exact hle)
  have hv:nv A (i+1)<nv B (i+1)->v+1≤u:=fun h=>by
    rcases Nat.lt_or_ge v u with e | e
    · exact e
    · obtain rfl:u=v:=by omega
      rw[a1,b1]at hle
      omega
  have ht:=top_lt (s:=A i) (t:=B i) lA lB
  rw[← a2,← b2]at ht
  have a3:=a1
  have b3:=b1
  rw[a2,Nat.pow_succ]at a3
  rw[b2,Nat.pow_succ]at b3
  have key:∀ z br br',z<BB->nv A i+BB^i*br-nv B i<BB^i->nv B i≤nv A i+BB^i*br->z+(br+B i)=A i+BB*br'->v+br'≤u->dg (nv A M-nv B M) i=z:=fun z br br' k1 k2 k3 k4 k5=>dif_place a3 b3 k1 k2 k3 k4 k5
  clear a3 b3 a1 b1 hle a2 b2
  unfold bor
  generalize dg (nv A M-nv B M) i=d at key ⊢
  generalize nv A (i+1)=a1 at ht hv ⊢
  generalize nv B (i+1)=b1 at ht hv ⊢
  generalize BB^i=P at *
  by_cases c:nv A i<nv B i
  · rw[if_pos c]
    refine⟨fun h=>?_,fun h=>?_⟩
    · have hlt:a1<b1:=by
        rcases Nat.lt_or_ge (A i) (B i)with e | e
        · exact ht.1 e
        · exact(ht.2.1 (by omega)).2 c
      rw[if_pos hlt]
      have:=key (A i+BB-(1+B i)) 1 1 (by omega) (by rw[Nat.mul_one];omega) (by rw[Nat.mul_one];omega) (by omega) (hv hlt)
      exact⟨rfl,by omega⟩
    · have hlt:¬ a1<b1:=ht.2.2 (by omega)
      rw[if_neg hlt]
      have:=key (A i-(1+B i)) 1 0 (by omega) (by rw[Nat.mul_one];omega) (by rw[Nat.mul_one];omega) (by omega) hv0
      exact⟨rfl,by omega⟩
  · rw[if_neg c]
    refine⟨fun h=>?_,fun h=>?_⟩
    · have hlt:a1<b1:=ht.1 (by omega)
      rw[if_pos hlt]
      have:=key (A i+BB-B i) 0 1 (by omega) (by rw[Nat.mul_zero];omega) (by rw[Nat.mul_zero];omega) (by omega) (hv hlt)
      exact⟨rfl,by omega⟩
    · have hlt:¬ a1<b1:=by
        rcases Nat.lt_or_ge (B i) (A i)with e | e
        · exact ht.2.2 e
        · exact fun h=>c ((ht.2.1 (by omega)).1 h)
      rw[if_neg hlt]
      have:=key (A i-B i) 0 0 (by omega) (by rw[Nat.mul_zero];omega) (by rw[Nat.mul_zero];omega) (by omega) hv0
      exact⟨rfl,by omega⟩
def upd (d:Nat->Nat) (j v i:Nat):Nat:=if i=j then v else d i
theorem upd_ok {d:Nat->Nat} {q j v:Nat} (h:DOk q d) (hv:v<BB):DOk q (upd d j v):=fun i hi=>by
  unfold upd
  split
  · exact hv
  · exact h i hi
theorem nv_upd {d : Nat → Nat} {j v : Nat} : ∀ {q : Nat}, j < q → nv (upd d j v) q + BB ^ j * d j = nv d q + BB ^ j * v
  | 0,h=>by omega
  | q+1,h=>by
    unfold nv
    rcases Nat.lt_or_ge j q with e | e
    · have h1:=nv_upd (d:=d) (v:=v) e
      have h2:upd d j v q=d q:=if_neg (by omega)
      rw[h2]
      omega
    · obtain rfl:j=q:=by omega
      have h1:nv (upd d j v) j=nv d j:=nv_congr fun i hi=>if_neg (by omega)
      have h2:upd d j v j=v:=if_pos rfl
      rw[h1,h2]
      omega
end Rf
end Go.Proofs.YtkmbnldginonbaaGreat
/- The document's integers: trim, Norm, Sign, signed, Abs, Neg, Of. -/
namespace Go.Proofs.YtkmbnldginonbaaGreat
open Go.RowKit
namespace Rf
theorem i64 {n:Int} (h1 : -9223372036854775808≤n) (h2:n<9223372036854775808):inR .i64 n:=⟨h1,h2⟩
abbrev dn (q:Nat) (d:Nat->Nat):Cell := .row 1 q fun i _ => .int .u32 (d i:Nat)
abbrev bn (s:Bool) (q:Nat) (d:Nat->Nat):V := .g [.bool s,dn q d]
theorem subDn {n m:Nat} {a b:Nat->Nat} (h:n=m) (h2:∀ i,i<m->a i=b i):Sub (.c (dn n a)) (.c (dn m b)) :=
  subRowG h fun i _ hi _=>by show Cell.int .u32 (a i:Nat) = .int .u32 (b i:Nat);rw[h2 i hi]
theorem subBn {s s':Bool} {n m:Nat} {a b:Nat->Nat} (hs:s=s') (h:n=m) (h2:∀ i,i<m->a i=b i):Sub (bn s n a) (bn s' m b):=by
  subst hs
  rintro D w v ⟨vs,e,hr⟩
  refine⟨vs,e,?_⟩
  match hvs:vs.toList with
  | [_,_] =>
    rw[hvs]at hr
    exact⟨hr.1,subDn h h2 D w _ hr.2.1,trivial⟩
  | [] | [_] | _ :: _ :: _ :: _=>rw[hvs]at hr;simp[CRels]at hr
theorem sub_bool {a b:Bool} (h:a=b):Sub (.c (.bool a)) (.c (.bool b)):=by subst h;exact Sub.refl _
theorem sub_int {k:IntKind} {a b:Int} (h:a=b):Sub (.c (.int k a)) (.c (.int k b)):=by subst h;exact Sub.refl _
theorem appZ (f g:Nat->Nat->Cell) (x y:Nat):appF 0 f g x y=g x y:=by
  unfold appF
  rw[if_neg (Nat.not_lt_zero _),Nat.sub_zero]
theorem sgn_neg (s:Bool) (x:Nat):decide (sgn s x<0)=(s&&decide (0<x)):=by
  cases s <;> simp[sgn]
theorem sgn_abs (s:Bool) (x:Nat):(sgn s x).natAbs=x:=by
  cases s <;> simp[sgn]
theorem nz_sgn (s:Bool) (x:Nat):nz (sgn s x)=[.bool (s&&decide (0<x)),dsC (digs x)]:=by
  show [Cell.bool (decide (sgn s x<0)),dsC (digs (sgn s x).natAbs)]=_
  rw[sgn_neg,sgn_abs]
theorem sgn_sign (s:Bool) (x:Nat):(sgn s x).sign=if x=0 then 0 else if s then -1 else 1:=by
  by_cases h:x=0
  · subst h;cases s <;> rfl
  · rw[if_neg h]
    cases s with
    | true=>exact Int.sign_eq_neg_one_of_neg (by simp[sgn];omega)
    | false=>exact Int.sign_eq_one_of_pos (by simp[sgn];omega)
set_option maxHeartbeats 4000000 in
theorem rtrim_ok {n:Nat} {a:Nat->Nat} (hd:DOk n a) (hn:n≤1048576):FnOK Tryz.prog false 150 [.c (dn n a)] (.c (dsC (digs (nv a n)))):=by
  obtain⟨hT1,hT2⟩:=tn_digs hd
  refine fn_ok (E:=E0) E0_ok Tryz.func150 rfl mixed (by kernel_rfl) (by kernel_rfl) ?_
  conv=>whnf
  refine loop_ints (fun m:Nat=>gst [(0,.c (dn n a)),(3,.c (.int .i64 m))] []) (fun m=>m) (fun m=>m≤n/\tn a m=tn a n) n rfl (Weak.gen [] rfl trivial ⟨.inl ⟨_,_,rfl,rfl,fun _ _ _ _=>rfl⟩,⟨_,rfl,rfl⟩,trivial⟩) ⟨by omega,rfl⟩ fun m ⟨hm,ht⟩=>?_
  conv=>whnf
  refine bcase (fun(h:gw true (decide ((0:Int)<m))=true)=>?_) fun(h:gw true (decide ((0:Int)<m))=false)=>?_
  · have h:=of_decide_eq_true (gw_true.1 h)
    obtain⟨k,rfl⟩:∃ k,m=k+1:=⟨m-1,by omega⟩
    have ek:(((k+1:Nat):Int)-1).toNat=k:=by omega
    conv=>whnf
    refine⟨i64 (by omega) (by omega),?_⟩
    conv=>whnf
    refine⟨by omega,by omega,?_⟩
    conv=>whnf
    refine bcase (fun(h1:decide ((a (((k+1:Nat):Int)-1).toNat:Int)=0)=true)=>?_) fun(h1:decide ((a (((k+1:Nat):Int)-1).toNat:Int)=0)=false)=>?_
    · have h1:=of_decide_eq_true h1
      rw[ek]at h1
      conv=>whnf
      refine⟨i64 (by omega) (by omega),?_⟩
      conv=>whnf
      exact⟨k,by omega,Weak.gen [] rfl trivial ⟨.inl ⟨_,_,rfl,rfl,fun _ _ _ _=>rfl⟩,⟨_,rfl,by omega⟩,trivial⟩,by omega,by rw[← ht];simp[tn,show a k=0 by omega]⟩
    · have h1:=of_decide_eq_false h1
      rw[ek]at h1
      have hx:tn a n=k+1:=by rw[← ht];simp[tn,show a k≠0 by omega]
      rw[hx]at hT1 hT2
      conv=>whnf
      refine⟨by omega,by omega,?_⟩
      conv=>whnf
      refine⟨by omega,?_⟩
      conv=>whnf
      refine⟨by show 0+(((k+1:Nat):Int)-0).toNat≤16777216;omega,fun x y hx hy=>⟨rfl,fun h=>by cases h⟩,?_⟩
      conv=>whnf
      refine⟨fun i j hi hj=>?_,?_⟩
      · show(appF 0 (rowF 1 []) (fun i _=>Cell.int .u32 (a (Int.toNat 0+i):Nat)) i j).clos=true
        rw[appZ]
        rfl
      conv=>whnf
      refine⟨rfl,subRowG (by show 0+(((k+1:Nat):Int)-0).toNat=_;omega) fun i j hi hj=>?_⟩
      show appF 0 (rowF 1 []) (fun i _=>Cell.int .u32 (a (Int.toNat 0+i):Nat)) i j=_
      rw[appZ,show Int.toNat 0+i=i by omega,hT2 i (by omega)]
  · have h:¬(0:Int)<m:=of_decide_eq_false (gw_false.1 h)
    obtain rfl:m=0:=by omega
    have hx:tn a n=0:=by rw[← ht];rfl
    rw[hx]at hT1 hT2
    conv=>whnf
    refine⟨by omega,by omega,?_⟩
    conv=>whnf
    refine⟨by omega,?_⟩
    conv=>whnf
    refine⟨by show 0+(((0:Nat):Int)-0).toNat≤16777216;omega,fun x y hx hy=>⟨rfl,fun h=>by cases h⟩,?_⟩
    conv=>whnf
    refine⟨fun i j hi hj=>?_,?_⟩
    · show(appF 0 (rowF 1 []) (fun i _=>Cell.int .u32 (a (Int.toNat 0+i):Nat)) i j).clos=true
      rw[appZ]
      rfl
    conv=>whnf
    refine⟨rfl,subRowG (by show 0+(((0:Nat):Int)-0).toNat=_;omega) fun i j hi hj=>?_⟩
    omega
set_option maxHeartbeats 4000000 in
theorem rnorm_ok {n:Nat} {a:Nat->Nat} {s:Bool} (hd:DOk n a) (hn:n≤1048576):FnOK Tryz.prog false 145 [bn s n a] (.g (nz (sgn s (nv a n)))):=by
  have h:=rtrim_ok hd hn
  have h0:=@digs_zero (nv a n)
  rw[nz_sgn]
  refine fn_ok (E:=E0) E0_ok Tryz.func145 rfl mixed (by kernel_rfl) (by kernel_rfl) ?_
  cases s with
  | true =>
    conv=>whnf
    refine⟨_,h,?_⟩
    conv=>whnf
    refine⟨rfl,subBn ?_ rfl fun _ _=>rfl⟩
    rw[Bool.true_and]
    exact decide_eq_decide.2 ⟨fun h=>by omega,fun h=>by omega⟩
  | false =>
    conv=>whnf
    refine⟨_,h,?_⟩
    conv=>whnf
    exact⟨rfl,subBn rfl rfl fun _ _=>rfl⟩
set_option maxHeartbeats 4000000 in
theorem rsigned_ok {n:Nat} {a:Nat->Nat} {s:Bool} (hd:DOk n a) (hn:n≤1048576):FnOK Tryz.prog false 141 [.c (.bool s),.c (dn n a)] (.g (nz (sgn s (nv a n)))):=by
  have h:=rnorm_ok (s:=s) hd hn
  refine fn_ok (E:=E0) E0_ok Tryz.func141 rfl mixed (by kernel_rfl) (by kernel_rfl) ?_
  conv=>whnf
  refine⟨_,h,?_⟩
  conv=>whnf
  exact⟨rfl,Sub.refl _⟩
set_option maxHeartbeats 4000000 in
theorem rsign_ok {n:Nat} {a:Nat->Nat} {s:Bool} (hd:DOk n a) (hn:n≤1048576):FnOK Tryz.prog false 142 [bn s n a] (.c (.int .i64 (sgn s (nv a n)).sign)):=by
  have h:=rnorm_ok (s:=s) hd hn
  have h0:=@digs_zero (nv a n)
  rw[nz_sgn]at h
  rw[sgn_sign]
  refine fn_ok (E:=E0) E0_ok Tryz.func142 rfl mixed (by kernel_rfl) (by kernel_rfl) ?_
  conv=>whnf
  refine⟨_,h,?_⟩
  conv=>whnf
  refine bcase (fun(h1:decide (((digs (nv a n)).length:Int)=0)=true)=>?_) fun(h1:decide (((digs (nv a n)).length:Int)=0)=false)=>?_
  · have h1:=of_decide_eq_true h1
    rw[if_pos (by omega)]
    conv=>whnf
    exact⟨rfl,Sub.refl _⟩
  · have h1:=of_decide_eq_false h1
    rw[if_neg (by omega)]
    cases s with
    | true =>
      conv=>whnf
      refine bpos (show decide (0<nv a n)=true by simp;omega) ?_
      conv=>whnf
      exact⟨rfl,Sub.refl _⟩
    | false =>
      conv=>whnf
      exact⟨rfl,Sub.refl _⟩
set_option maxHeartbeats 4000000 in
theorem rabs_ok {n:Nat} {a:Nat->Nat} {s:Bool} (hd:DOk n a) (hn:n≤1048576):FnOK Tryz.prog false 163 [bn s n a] (.g (nz (nv a n:Nat))):=by
  have h:=rsigned_ok (s:=false) hd hn
  refine fn_ok (E:=E0) E0_ok Tryz.func163 rfl mixed (by kernel_rfl) (by kernel_rfl) ?_
  conv=>whnf
  refine⟨_,h,?_⟩
  conv=>whnf
  exact⟨rfl,Sub.refl _⟩
set_option maxHeartbeats 4000000 in
theorem rneg_ok {n:Nat} {a:Nat->Nat} {s:Bool} (hd:DOk n a) (hn:n≤1048576):FnOK Tryz.prog false 144 [bn s n a] (.g (nz (sgn (!s) (nv a n)))):=by
  have h:=rsigned_ok (s:=!s) hd hn
  refine fn_ok (E:=E0) E0_ok Tryz.func144 rfl mixed (by kernel_rfl) (by kernel_rfl) ?_
  conv=>whnf
  refine⟨_,h,?_⟩
  conv=>whnf
  exact⟨rfl,Sub.refl _⟩
theorem nv_raw (a:RawZ):sgn a.neg (nv (ld a.ds) a.ds.length)=a.val:=by rw[nv_ld];rfl
def wr (a:RawZ):Prop:=Dg.ok a.ds/\a.ds.length≤1048576
theorem znorm_ok {a:RawZ} (h:wr a):FnOK Tryz.prog false 145 [.g (zr a)] (.g (nz a.val)):=by
  have:=rnorm_ok (s:=a.neg) (ld_ok h.1 a.ds.length) h.2
  rwa [nv_raw]at this
theorem zsign_ok {a:RawZ} (h:wr a):FnOK Tryz.prog false 142 [.g (zr a)] (.c (.int .i64 a.val.sign)):=by
  have:=rsign_ok (s:=a.neg) (ld_ok h.1 a.ds.length) h.2
  rwa [nv_raw]at this
theorem zabs_ok {a:RawZ} (h:wr a):FnOK Tryz.prog false 163 [.g (zr a)] (.g (nz (a.val.natAbs:Nat))):=by
  have:=rabs_ok (s:=a.neg) (ld_ok h.1 a.ds.length) h.2
  rwa [show nv (ld a.ds) a.ds.length=a.val.natAbs by rw[← nv_raw,sgn_abs]]at this
theorem sgn_not (s:Bool) (x:Nat):sgn (!s) x = -sgn s x:=by
  cases s <;> simp[sgn]
theorem zneg_ok {a:RawZ} (h:wr a):FnOK Tryz.prog false 144 [.g (zr a)] (.g (nz (-a.val))):=by
  have:=rneg_ok (s:=a.neg) (ld_ok h.1 a.ds.length) h.2
  rwa [sgn_not,nv_raw]at this
theorem arg_ok {P:Program} {r:Bool} {f:FuncId} {args args':List V} {X:V} (h:FnOK P r f args X) (hs:∀ D w vs,VRels D w [] args' vs->VRels D w [] args vs):FnOK P r f args' X :=
  ⟨h.1,fun D w vs h1 h2 h3=>h.2 D w vs h1 h2 (hs D w vs h3)⟩
theorem w32_lo (m:Nat):IntKind.u32.wrap (m:Int)=(dg m 0:Nat):=by
  simp[IntKind.wrap,IntKind.signed,IntKind.bits,dg]
theorem w32_hi (m:Nat):IntKind.u32.wrap (Int.fdiv (m:Int) (2^32))=(dg m 1:Nat):=by
  rw[Int.fdiv_eq_ediv_of_nonneg _ (by decide)]
  simp[IntKind.wrap,IntKind.signed,IntKind.bits,dg]
set_option maxHeartbeats 4000000 in
theorem rof_ok {x:Int} (h0 : -9223372036854775808≤x) (h1:x<9223372036854775808):FnOK Tryz.prog false 101 [.c (.int .i64 x)] (.g (nz x)):=by
  have hk:∀ s:Bool,decide (x<0)=s->FnOK Tryz.prog false 141 [.c (.bool s),.c (dn 2 fun i=>dg x.natAbs i)] (.g (nz x)):=by
    intro s hs
    have:=rsigned_ok (s:=s) (dg_ok x.natAbs 2) (by omega)
    rw[nv_dg,Nat.mod_eq_of_lt (show x.natAbs<4294967296^2 by omega)]at this
    rwa [show sgn s x.natAbs=x by subst hs;unfold sgn;by_cases c:x<0 <;> simp[c] <;> omega]at this
  have w1:0≤x->IntKind.u64.wrap x=(x.natAbs:Nat):=fun h=>by
    simp[IntKind.wrap,IntKind.signed,IntKind.bits];omega
  have w2:x<0->IntKind.u64.wrap (-IntKind.u64.wrap x)=(x.natAbs:Nat):=fun h=>by
    simp[IntKind.wrap,IntKind.signed,IntKind.bits];omega
  have hk:=arg_ok (args':=[.c (.bool (decide (x<0))),.c (.row 1 2 fun i _=>if i=0 then .int .u32 (IntKind.u32.wrap (x.natAbs:Nat))else .int .u32 (IntKind.u32.wrap (Int.fdiv (x.natAbs:Nat) (2^32))))]) (hk _ rfl) fun D w vs h=>by
    match vs,h with
    | [v0,v1],⟨h0,h1,_⟩ =>
      refine⟨h0,subRowG rfl (fun i j hi hj=>?_) D w v1 h1,trivial⟩
      match i,hi with
      | 0,_=>show Cell.int .u32 _ = .int .u32 _;rw[w32_lo]
      | 1,_=>show Cell.int .u32 _ = .int .u32 _;rw[w32_hi]
  refine fn_ok (E:=E0) E0_ok Tryz.func101 rfl mixed (by kernel_rfl) (by kernel_rfl) ?_
  conv=>whnf
  refine bcase (fun(h:decide (x<0)=true)=>?_) fun(h:decide (x<0)=false)=>?_
  · have w2:=w2 (of_decide_eq_true h)
    rw[← w2]at hk
    conv=>whnf
    refine⟨by omega,?_⟩
    conv=>whnf
    refine⟨fun i j hi hj=>?_,?_⟩
    · match i,j,hi,hj with
      | 0,0,_,_=>rfl
      | 1,0,_,_=>rfl
    conv=>whnf
    refine⟨_,arg_ok hk (fun D w vs h=>?_),?_⟩
    · match vs,h with
      | [v0,v1],⟨h0,h1,_⟩ =>
        refine⟨h0,subRowG rfl (fun i j hi hj=>?_) D w v1 h1,trivial⟩
        match i,j,hi,hj with
        | 0,0,_,_=>rfl
        | 1,0,_,_=>rfl
    conv=>whnf
    exact⟨rfl,Sub.refl _⟩
  · have w1:=w1 (Int.not_lt.1 (of_decide_eq_false h))
    rw[← w1]at hk
    conv=>whnf
    refine⟨by omega,?_⟩
    conv=>whnf
    refine⟨fun i j hi hj=>?_,?_⟩
    · match i,j,hi,hj with
      | 0,0,_,_=>rfl
      | 1,0,_,_=>rfl
    conv=>whnf
    refine⟨_,arg_ok hk (fun D w vs h=>?_),?_⟩
    · match vs,h with
      | [v0,v1],⟨h0,h1,_⟩ =>
        refine⟨h0,subRowG rfl (fun i j hi hj=>?_) D w v1 h1,trivial⟩
        match i,j,hi,hj with
        | 0,0,_,_=>rfl
        | 1,0,_,_=>rfl
    conv=>whnf
    exact⟨rfl,Sub.refl _⟩
end Rf
end Go.Proofs.YtkmbnldginonbaaGreat
/- The document's sums and differences of digits. -/
namespace Go.Proofs.YtkmbnldginonbaaGreat
open Go.RowKit
namespace Rf
theorem w64 {x:Int} (h0:0≤x) (h1:x<18446744073709551616):IntKind.u64.wrap x=x:=by
  simp[IntKind.wrap,IntKind.signed,IntKind.bits];omega
theorem w32 (s:Nat):IntKind.u32.wrap (s:Int)=(s%BB:Nat):=by
  simp[IntKind.wrap,IntKind.signed,IntKind.bits]
theorem sh32 (s:Nat):Int.fdiv (s:Int) (2^32)=(s / BB:Nat):=by
  rw[Int.fdiv_eq_ediv_of_nonneg _ (by decide)]
  simp
theorem appN {d:Nat->Nat} {i j k m:Nat} {v:Int} (hj:j<m) (hm:m≤i+1) (hk:k<1) (h:v=(d i:Nat)):appF i (fun j _ => .int .u32 (d j:Nat)) (rowF 1 [.int .u32 v]) j k = .int .u32 (d j:Nat):=by
  unfold appF
  by_cases e:j<i
  · rw[if_pos e]
  · obtain rfl:j=i:=by omega
    obtain rfl:k=0:=by omega
    rw[if_neg e,Nat.sub_self,h]
    rfl
theorem one_row {bl:List Blk} {F:Nat->Nat->Cell} {x y:Nat} (hx:x<1) (hy:y<1) (h:St.one bl (F 0 0)=true):St.one bl (F x y)=true:=by
  obtain rfl:=Nat.lt_one_iff.1 hx
  obtain rfl:=Nat.lt_one_iff.1 hy
  exact h
theorem rowF_clos {sz x y:Nat} {l:List Cell} (h:l.all Cell.clos=true):(rowF sz l x y).clos=true:=by
  unfold rowF
  rw[List.getD_eq_getElem?_getD]
  cases e:l[x*sz+y]? with
  | none=>rfl
  | some c=>exact List.all_eq_true.1 h _ (List.mem_of_getElem? e)
theorem appF_clos {n:Nat} {f g:Nat->Nat->Cell} (hf:∀ x y,(f x y).clos=true) (hg:∀ x y,(g x y).clos=true) (x y:Nat):(appF n f g x y).clos=true:=by
  unfold appF
  split
  · exact hf _ _
  · exact hg _ _
abbrev gd (q:Nat) (d:Nat->Nat):Gx:=⟨119,1,q,fun i _ => .int .u32 (d i:Nat)⟩
set_option maxHeartbeats 4000000 in
theorem plus_ok {n m:Nat} {a b:Nat->Nat} (ha:DOk n a) (hb:DOk m b) (hn:n≤1048576) (hm:m≤1048576):FnOK Tryz.prog false 147 [.c (dn n a),.c (dn m b)] (.c (dn (max n m+1) (dg (nv a n+nv b m)))):=by
  obtain⟨M,hM⟩:∃ M,M=max n m:=⟨_,rfl⟩
  rw[← hM]
  have eS:nv (ext n a) M+nv (ext m b) M=nv a n+nv b m:=by rw[ext_nv (by omega),ext_nv (by omega)]
  have hA:=ext_ok ha
  have hB:=ext_ok hb
  obtain⟨c,hc⟩:∃ c:Nat->Nat,c=fun i=>(nv (ext n a) i+nv (ext m b) i) / BB^i:=⟨_,rfl⟩
  have c0:c 0=0:=by rw[hc];simp[nv]
  have c1:∀ i,c i≤1:=fun i=>by rw[hc];exact sum_le1 (hA i) (hB i)
  have cs:∀ i,c (i+1)=(c i+ext n a i+ext m b i) / BB:=fun i=>by rw[hc];exact sum_car _ _ i
  have ds:∀ i,i<M->dg (nv a n+nv b m) i=(c i+ext n a i+ext m b i)%BB:=fun i hi=>by rw[← eS,hc];exact sum_dig (hA M) (hB M) hi
  have dt:dg (nv a n+nv b m) M=c M:=by rw[← eS,hc];exact sum_top (hA M) (hB M)
  clear hc eS
  refine fn_ok (E:=E0) E0_ok Tryz.func147 rfl mixed (by kernel_rfl) (by kernel_rfl) ?_
  conv=>whnf
  refine loop_ints (fun i:Nat=>gst [(0,.c (dn n a)),(1,.c (dn m b)),(5,.c (.gs 0 0)),(6,.c (.int .u64 (c i:Nat))),(7,.c (.int .i64 i))] [gd i (dg (nv a n+nv b m))]) (fun i=>M-i) (fun i=>i≤M) 0 rfl ?_ (Nat.zero_le _) fun i hi=>?_
  · exact Weak.gen [none] rfl ⟨rfl,trivial⟩ ⟨.inl ⟨_,_,rfl,rfl,fun _ _ _ _=>rfl⟩,.inl ⟨_,_,rfl,rfl,fun _ _ _ _=>rfl⟩,rfl,⟨_,rfl,by rw[c0];rfl⟩,⟨_,rfl,rfl⟩,trivial⟩
  have hci:=c1 i
  conv=>whnf
  refine bcase (fun(h:gw false (decide ((i:Int)<n))=true)=>?_) fun(h:gw false (decide ((i:Int)<n))=false)=>?_
  · have h1:decide ((i:Int)<n)=false:=gwf h
    have h1':=of_decide_eq_false h1
    conv=>whnf
    refine bcase (fun(h2:decide ((i:Int)<m)=true)=>?_) fun(h2:decide ((i:Int)<m)=false)=>?_
    · have h2':=of_decide_eq_true h2
      have eA:ext n a i=0:=if_neg (by omega)
      have eB:ext m b i=b i:=if_pos (by omega)
      have ob:b i<4294967296:=hb i (by omega)
      have e:IntKind.u64.wrap ((c i:Int)+IntKind.u64.wrap (b i:Nat))=((c i+0+b i:Nat):Int):=by rw[w64 (x:=(b i:Nat)) (by omega) (by omega),w64 (by omega) (by omega)];omega
      conv=>whnf
      refine bneg h1 ?_
      conv=>whnf
      refine bpos h2 ?_
      conv=>whnf
      refine⟨by omega,by omega,?_⟩
      conv=>whnf
      refine⟨by show i+1≤16777216;omega,fun x y hx hy=>?_,?_⟩
      · conv at hx=>rhs;whnf
        conv at hy=>rhs;whnf
        refine⟨one_row hx hy ?_,fun h=>nomatch h⟩
        conv=>lhs;whnf
      conv=>whnf
      refine⟨by omega,?_⟩
      conv=>whnf
      refine⟨i64 (by omega) (by omega),?_⟩
      conv=>whnf
      refine⟨i+1,by omega,Weak.gen [some 0] rfl ⟨⟨_,rfl,rfl,rfl,rfl,rfl,fun j k hj hk=>⟨_,appN hj (Nat.le_refl _) hk ?_,rfl⟩⟩,trivial⟩ ⟨.inl ⟨_,_,rfl,rfl,fun _ _ _ _=>rfl⟩,.inl ⟨_,_,rfl,rfl,fun _ _ _ _=>rfl⟩,⟨_,rfl,rfl,rfl⟩,⟨_,rfl,?_⟩,⟨_,rfl,by omega⟩,trivial⟩,by omega⟩
      · show IntKind.u32.wrap (IntKind.u64.wrap ((c i:Int)+IntKind.u64.wrap (b i:Nat)))=(dg (nv a n+nv b m) i:Nat)
        rw[e,w32,ds i (by omega),eA,eB]
      · show Int.fdiv (IntKind.u64.wrap ((c i:Int)+IntKind.u64.wrap (b i:Nat))) (2^32)=(c (i+1):Nat)
        rw[e,sh32,cs i,eA,eB]
    · have h2':=of_decide_eq_false h2
      obtain rfl:i=M:=by omega
      conv=>whnf
      refine⟨by show i+1≤16777216;omega,fun x y hx hy=>?_,?_⟩
      · conv at hx=>rhs;whnf
        conv at hy=>rhs;whnf
        refine⟨one_row hx hy ?_,fun h=>nomatch h⟩
        conv=>lhs;whnf
      conv=>whnf
      refine⟨fun x y _ _=>appF_clos (fun _ _=>rfl) (fun _ _=>rowF_clos rfl) x y,?_⟩
      conv=>whnf
      refine⟨rfl,subRowG rfl fun x y hx hy=>appN hx (Nat.le_refl _) hy ?_⟩
      show IntKind.u32.wrap (c i:Nat)=(dg (nv a n+nv b m) i:Nat)
      rw[w32,dt,Nat.mod_eq_of_lt (show c i<4294967296 by omega)]
  · have h1:decide ((i:Int)<n)=true:=gwf' h
    have h1':=of_decide_eq_true h1
    have eA:ext n a i=a i:=if_pos (by omega)
    have oa:a i<4294967296:=ha i (by omega)
    have e0:IntKind.u64.wrap ((c i:Int)+IntKind.u64.wrap (a i:Nat))=((c i+a i:Nat):Int):=by rw[w64 (x:=(a i:Nat)) (by omega) (by omega),w64 (by omega) (by omega)];omega
    conv=>whnf
    refine bpos h1 ?_
    conv=>whnf
    refine⟨by omega,by omega,?_⟩
    conv=>whnf
    refine bcase (fun(h2:decide ((i:Int)<m)=true)=>?_) fun(h2:decide ((i:Int)<m)=false)=>?_
    · have h2':=of_decide_eq_true h2
      have eB:ext m b i=b i:=if_pos (by omega)
      have ob:b i<4294967296:=hb i (by omega)
      have e:IntKind.u64.wrap (IntKind.u64.wrap ((c i:Int)+IntKind.u64.wrap (a i:Nat))+IntKind.u64.wrap (b i:Nat))=((c i+a i+b i:Nat):Int):=by rw[e0,w64 (x:=(b i:Nat)) (by omega) (by omega),w64 (by omega) (by omega)];omega
      conv=>whnf
      refine⟨by omega,by omega,?_⟩
      conv=>whnf
      refine⟨by show i+1≤16777216;omega,fun x y hx hy=>?_,?_⟩
      · conv at hx=>rhs;whnf
        conv at hy=>rhs;whnf
        refine⟨one_row hx hy ?_,fun h=>nomatch h⟩
        conv=>lhs;whnf
      conv=>whnf
      refine⟨by omega,?_⟩
      conv=>whnf
      refine⟨i64 (by omega) (by omega),?_⟩
      conv=>whnf
      refine⟨i+1,by omega,Weak.gen [some 0] rfl ⟨⟨_,rfl,rfl,rfl,rfl,rfl,fun j k hj hk=>⟨_,appN hj (Nat.le_refl _) hk ?_,rfl⟩⟩,trivial⟩ ⟨.inl ⟨_,_,rfl,rfl,fun _ _ _ _=>rfl⟩,.inl ⟨_,_,rfl,rfl,fun _ _ _ _=>rfl⟩,⟨_,rfl,rfl,rfl⟩,⟨_,rfl,?_⟩,⟨_,rfl,by omega⟩,trivial⟩,by omega⟩
      · show IntKind.u32.wrap (IntKind.u64.wrap (IntKind.u64.wrap ((c i:Int)+IntKind.u64.wrap (a i:Nat))+IntKind.u64.wrap (b i:Nat)))=(dg (nv a n+nv b m) i:Nat)
        rw[e,w32,ds i (by omega),eA,eB]
      · show Int.fdiv (IntKind.u64.wrap (IntKind.u64.wrap ((c i:Int)+IntKind.u64.wrap (a i:Nat))+IntKind.u64.wrap (b i:Nat))) (2^32)=(c (i+1):Nat)
        rw[e,sh32,cs i,eA,eB]
    · have h2':=of_decide_eq_false h2
      have eB:ext m b i=0:=if_neg (by omega)
      conv=>whnf
      refine⟨by show i+1≤16777216;omega,fun x y hx hy=>?_,?_⟩
      · conv at hx=>rhs;whnf
        conv at hy=>rhs;whnf
        refine⟨one_row hx hy ?_,fun h=>nomatch h⟩
        conv=>lhs;whnf
      conv=>whnf
      refine⟨by omega,?_⟩
      conv=>whnf
      refine⟨i64 (by omega) (by omega),?_⟩
      conv=>whnf
      refine⟨i+1,by omega,Weak.gen [some 0] rfl ⟨⟨_,rfl,rfl,rfl,rfl,rfl,fun j k hj hk=>⟨_,appN hj (Nat.le_refl _) hk ?_,rfl⟩⟩,trivial⟩ ⟨.inl ⟨_,_,rfl,rfl,fun _ _ _ _=>rfl⟩,.inl ⟨_,_,rfl,rfl,fun _ _ _ _=>rfl⟩,⟨_,rfl,rfl,rfl⟩,⟨_,rfl,?_⟩,⟨_,rfl,by omega⟩,trivial⟩,by omega⟩
      · show IntKind.u32.wrap (IntKind.u64.wrap ((c i:Int)+IntKind.u64.wrap (a i:Nat)))=(dg (nv a n+nv b m) i:Nat)
        rw[e0,w32,ds i (by omega),eA,eB,Nat.add_zero]
      · show Int.fdiv (IntKind.u64.wrap ((c i:Int)+IntKind.u64.wrap (a i:Nat))) (2^32)=(c (i+1):Nat)
        rw[e0,sh32,cs i,eA,eB,Nat.add_zero]
theorem sub_hi {x s z:Nat} (h:z+s=x+4294967296) (hz:z<4294967296) (hx:x<4294967296):IntKind.u32.wrap (IntKind.u64.wrap (IntKind.u64.wrap (IntKind.u64.wrap (x:Nat)+4294967296)-(s:Nat)))=(z:Nat):=by
  rw[w64 (x:=(x:Nat)) (by omega) (by omega),w64 (x:=(x:Nat)+4294967296) (by omega) (by omega),w64 (x:=(x:Nat)+4294967296-(s:Nat)) (by omega) (by omega),show(x:Int)+4294967296-s=(z:Nat)by omega,w32,Nat.mod_eq_of_lt hz]
theorem sub_lo {x s z:Nat} (h:z+s=x) (hx:x<4294967296):IntKind.u32.wrap (IntKind.u64.wrap (IntKind.u64.wrap (x:Nat)-(s:Nat)))=(z:Nat):=by
  rw[w64 (x:=(x:Nat)) (by omega) (by omega),w64 (by omega) (by omega),show(x:Int)-s=(z:Nat)by omega,w32,Nat.mod_eq_of_lt (show z<4294967296 by omega)]
set_option maxHeartbeats 4000000 in
theorem minus_ok {n m:Nat} {a b:Nat->Nat} (ha:DOk n a) (hb:DOk m b) (hn:n≤1048576) (hm:m≤n) (hle:nv b m≤nv a n):FnOK Tryz.prog false 149 [.c (dn n a),.c (dn m b)] (.c (dn n (dg (nv a n-nv b m)))):=by
  have eB:nv (ext m b) n=nv b m:=ext_nv hm
  have hB:=ext_ok hb
  obtain⟨c,hc⟩:∃ c:Nat->Nat,c=bor a (ext m b):=⟨_,rfl⟩
  have c0:c 0=0:=by rw[hc];simp[bor,nv]
  have c1:∀ i,c i≤1:=fun i=>by rw[hc];unfold bor;split <;> omega
  have cd:∀ i,i<n->(a i<c i+ext m b i->c (i+1)=1/\dg (nv a n-nv b m) i+(c i+ext m b i)=a i+4294967296)/\(¬ a i<c i+ext m b i->c (i+1)=0/\dg (nv a n-nv b m) i+(c i+ext m b i)=a i):=fun i hi=>by
    rw[← eB,hc]
    exact dif_dig ha (hB n) hi (by rw[eB];exact hle)
  clear hc eB
  refine fn_ok (E:=E0) E0_ok Tryz.func149 rfl mixed (by kernel_rfl) (by kernel_rfl) ?_
  conv=>whnf
  refine loop_ints (fun i:Nat=>gst [(0,.c (dn n a)),(1,.c (dn m b)),(5,.c (.gs 0 0)),(6,.c (.int .u64 (c i:Nat))),(7,.c (.int .i64 i))] [gd i (dg (nv a n-nv b m))]) (fun i=>n-i) (fun i=>i≤n) 0 rfl ?_ (Nat.zero_le _) fun i hi=>?_
  · exact Weak.gen [none] rfl ⟨rfl,trivial⟩ ⟨.inl ⟨_,_,rfl,rfl,fun _ _ _ _=>rfl⟩,.inl ⟨_,_,rfl,rfl,fun _ _ _ _=>rfl⟩,rfl,⟨_,rfl,by rw[c0];rfl⟩,⟨_,rfl,rfl⟩,trivial⟩
  have hci:=c1 i
  have hd0:=cd i
  have hb0:=hb i
  have ha0:=ha i
  conv=>whnf
  refine bcase (fun(h1:decide ((i:Int)<n)=true)=>?_) fun(h1:decide ((i:Int)<n)=false)=>?_
  · have h1':=of_decide_eq_true h1
    have oa:a i<4294967296:=ha0 (by omega)
    have wa:IntKind.u64.wrap (a i:Nat)=(a i:Nat):=w64 (by omega) (by omega)
    conv=>whnf
    refine bcase (fun(h2:decide ((i:Int)<m)=true)=>?_) fun(h2:decide ((i:Int)<m)=false)=>?_
    · have h2':=of_decide_eq_true h2
      have eX:ext m b i=b i:=if_pos (by omega)
      have ob:b i<4294967296:=hb0 (by omega)
      have dd:=hd0 (by omega)
      rw[eX]at dd
      have e:IntKind.u64.wrap ((c i:Int)+IntKind.u64.wrap (b i:Nat))=((c i+b i:Nat):Int):=by rw[w64 (x:=(b i:Nat)) (by omega) (by omega),w64 (by omega) (by omega)];omega
      conv=>whnf
      refine⟨by omega,by omega,?_⟩
      conv=>whnf
      refine⟨by omega,by omega,?_⟩
      conv=>whnf
      refine bcase (fun(h3:decide (IntKind.u64.wrap (a i:Nat)<IntKind.u64.wrap ((c i:Int)+IntKind.u64.wrap (b i:Nat)))=true)=>?_) fun(h3:decide (IntKind.u64.wrap (a i:Nat)<IntKind.u64.wrap ((c i:Int)+IntKind.u64.wrap (b i:Nat)))=false)=>?_
      · have h3':=of_decide_eq_true h3
        rw[e,wa]at h3'
        obtain⟨k1,k2⟩:=dd.1 (by omega)
        conv=>whnf
        refine⟨by show i+1≤16777216;omega,fun x y hx hy=>?_,?_⟩
        · conv at hx=>rhs;whnf
          conv at hy=>rhs;whnf
          refine⟨one_row hx hy ?_,fun h=>nomatch h⟩
          conv=>lhs;whnf
        conv=>whnf
        refine⟨i64 (by omega) (by omega),?_⟩
        conv=>whnf
        exact⟨i+1,by omega,Weak.gen [some 0] rfl ⟨⟨_,rfl,rfl,rfl,rfl,rfl,fun j k hj hk=>⟨_,appN hj (Nat.le_refl _) hk (by show IntKind.u32.wrap (IntKind.u64.wrap (IntKind.u64.wrap (IntKind.u64.wrap (a i:Nat)+4294967296)-IntKind.u64.wrap ((c i:Int)+IntKind.u64.wrap (b i:Nat))))=_;rw[e];exact sub_hi k2 (dg_lt _ _) oa),rfl⟩⟩,trivial⟩ ⟨.inl ⟨_,_,rfl,rfl,fun _ _ _ _=>rfl⟩,.inl ⟨_,_,rfl,rfl,fun _ _ _ _=>rfl⟩,⟨_,rfl,rfl,rfl⟩,⟨_,rfl,by rw[k1];rfl⟩,⟨_,rfl,by omega⟩,trivial⟩,by omega⟩
      · have h3':=of_decide_eq_false h3
        rw[e,wa]at h3'
        obtain⟨k1,k2⟩:=dd.2 (by omega)
        conv=>whnf
        refine⟨by show i+1≤16777216;omega,fun x y hx hy=>?_,?_⟩
        · conv at hx=>rhs;whnf
          conv at hy=>rhs;whnf
          refine⟨one_row hx hy ?_,fun h=>nomatch h⟩
          conv=>lhs;whnf
        conv=>whnf
        refine⟨i64 (by omega) (by omega),?_⟩
        conv=>whnf
        exact⟨i+1,by omega,Weak.gen [some 0] rfl ⟨⟨_,rfl,rfl,rfl,rfl,rfl,fun j k hj hk=>⟨_,appN hj (Nat.le_refl _) hk (by show IntKind.u32.wrap (IntKind.u64.wrap (IntKind.u64.wrap (a i:Nat)-IntKind.u64.wrap ((c i:Int)+IntKind.u64.wrap (b i:Nat))))=_;rw[e];exact sub_lo k2 oa),rfl⟩⟩,trivial⟩ ⟨.inl ⟨_,_,rfl,rfl,fun _ _ _ _=>rfl⟩,.inl ⟨_,_,rfl,rfl,fun _ _ _ _=>rfl⟩,⟨_,rfl,rfl,rfl⟩,⟨_,rfl,by rw[k1];rfl⟩,⟨_,rfl,by omega⟩,trivial⟩,by omega⟩
    · have h2':=of_decide_eq_false h2
      have eX:ext m b i=0:=if_neg (by omega)
      have dd:=hd0 (by omega)
      rw[eX,Nat.add_zero]at dd
      have e:((c i:Nat):Int)=((c i:Nat):Int):=rfl
      conv=>whnf
      refine⟨by omega,by omega,?_⟩
      conv=>whnf
      refine bcase (fun(h3:decide (IntKind.u64.wrap (a i:Nat)<(c i:Int))=true)=>?_) fun(h3:decide (IntKind.u64.wrap (a i:Nat)<(c i:Int))=false)=>?_
      · have h3':=of_decide_eq_true h3
        rw[wa]at h3'
        obtain⟨k1,k2⟩:=dd.1 (by omega)
        conv=>whnf
        refine⟨by show i+1≤16777216;omega,fun x y hx hy=>?_,?_⟩
        · conv at hx=>rhs;whnf
          conv at hy=>rhs;whnf
          refine⟨one_row hx hy ?_,fun h=>nomatch h⟩
          conv=>lhs;whnf
        conv=>whnf
        refine⟨i64 (by omega) (by omega),?_⟩
        conv=>whnf
        exact⟨i+1,by omega,Weak.gen [some 0] rfl ⟨⟨_,rfl,rfl,rfl,rfl,rfl,fun j k hj hk=>⟨_,appN hj (Nat.le_refl _) hk (by exact sub_hi k2 (dg_lt _ _) oa),rfl⟩⟩,trivial⟩ ⟨.inl ⟨_,_,rfl,rfl,fun _ _ _ _=>rfl⟩,.inl ⟨_,_,rfl,rfl,fun _ _ _ _=>rfl⟩,⟨_,rfl,rfl,rfl⟩,⟨_,rfl,by rw[k1];rfl⟩,⟨_,rfl,by omega⟩,trivial⟩,by omega⟩
      · have h3':=of_decide_eq_false h3
        rw[wa]at h3'
        obtain⟨k1,k2⟩:=dd.2 (by omega)
        conv=>whnf
        refine⟨by show i+1≤16777216;omega,fun x y hx hy=>?_,?_⟩
        · conv at hx=>rhs;whnf
          conv at hy=>rhs;whnf
          refine⟨one_row hx hy ?_,fun h=>nomatch h⟩
          conv=>lhs;whnf
        conv=>whnf
        refine⟨i64 (by omega) (by omega),?_⟩
        conv=>whnf
        exact⟨i+1,by omega,Weak.gen [some 0] rfl ⟨⟨_,rfl,rfl,rfl,rfl,rfl,fun j k hj hk=>⟨_,appN hj (Nat.le_refl _) hk (by exact sub_lo k2 oa),rfl⟩⟩,trivial⟩ ⟨.inl ⟨_,_,rfl,rfl,fun _ _ _ _=>rfl⟩,.inl ⟨_,_,rfl,rfl,fun _ _ _ _=>rfl⟩,⟨_,rfl,rfl,rfl⟩,⟨_,rfl,by rw[k1];rfl⟩,⟨_,rfl,by omega⟩,trivial⟩,by omega⟩
  · have h1':=of_decide_eq_false h1
    obtain rfl:i=n:=by omega
    conv=>whnf
    refine⟨fun x y _ _=>rfl,?_⟩
    conv=>whnf
    exact⟨rfl,Sub.refl _⟩
end Rf
end Go.Proofs.YtkmbnldginonbaaGreat
