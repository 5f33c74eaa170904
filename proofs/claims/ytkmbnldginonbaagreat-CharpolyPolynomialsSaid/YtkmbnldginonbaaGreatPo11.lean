/- A run of code asl a function, and what it tells of the call: shared blocks, calls by contract or by running them. -/
import Derived.Test.YtkmbnldginonbaaGreatPo10
namespace Go.Proofs.YtkmbnldginonbaaGreat
open Go.RowKit
def nmC : Cell → List Nat
 | .p k .. | .gs k _ | .sl k .. => [k]
 | .cl _ m f=>(List.range m).flatMap fun j=>nmC (f j)
 | _=>[]
def nmV : V → List Nat
 | .c x=>nmC x
 | .g l=>l.flatMap nmC
 | .t2 a b=>nmV a++nmV b
 | .t3 a b d=>nmV a++(nmV b++nmV d)
 | .t4 a b d e=>nmV a++(nmV b++(nmV d++nmV e))
 | .un=>[]
def frzK (k:Nat) (σ:St):St:=match σ.bl[k]? with
 | some B=>match B.st with
  | 0=>match allIJ B.n B.sz fun i j=>(St.closeC σ.bl (B.f i j)).clos with
   | true=>{ σ with bl:=σ.bl.set k { B with st:=1,f:=fun i j=>St.closeC σ.bl (B.f i j) } }
   | false=>σ
  | _=>σ
 | none=>σ
theorem closeds_refl (b0 : List Blk) : ∀ l : List Blk, closeds b0 l l
 | []=>trivial
 | B :: l=>⟨Blk.closed.refl b0 B,closeds_refl b0 l⟩
theorem closeds_set {b0 : List Blk} {B B' : Blk} (h : B.closed b0 B') : ∀ {l : List Blk} {k : Nat}, l[k]? = some B → closeds b0 l (l.set k B')
 | [],k,hk=>by simp at hk
 | x :: l,0,hk=>by simp at hk;subst hk;exact⟨h,closeds_refl b0 l⟩
 | x :: l,k+1,hk=>⟨Blk.closed.refl b0 x,closeds_set h (by simpa using hk)⟩
theorem Lax.frzK (k:Nat) (σ:St):Lax σ (frzK k σ):=by
 unfold Go.Proofs.YtkmbnldginonbaaGreat.frzK;split
 ·rename_i B hB;split
  ·rename_i hst;split
   ·rename_i hall;have hkl:k<σ.bl.length:=(List.getElem?_eq_some_iff.1 hB).1;have h1:Lax ⟨σ.tm,σ.bl⟩ ⟨σ.tm,σ.bl.set k { B with f:=fun i j=>St.closeC σ.bl (B.f i j) }⟩ :=
     Weak.lax fun m0=>Weak.close (closeds_set ⟨rfl,fun h=>absurd hst h,fun i j _ _ => .inr rfl⟩ hB) fun t => .inl rfl
    have h2:Lax ⟨σ.tm,σ.bl.set k { B with f:=fun i j=>St.closeC σ.bl (B.f i j) }⟩ ⟨σ.tm,(σ.bl.set k { B with f:=fun i j=>St.closeC σ.bl (B.f i j) }).set k { B with st:=1,f:=fun i j=>St.closeC σ.bl (B.f i j) }⟩ :=
     Weak.lax fun m0=>Weak.freeze k (B:={ B with f:=fun i j=>St.closeC σ.bl (B.f i j) }) (by rw[List.getElem?_set_self hkl]) hst fun i j hi hj=>Wx hall hi hj
    rw[List.set_set]at h2;exact h1.trans h2
   ·exact Lax.refl _
  ·exact Lax.refl _
 ·exact Lax.refl _
def dfz : Nat → Nat → St → St
 | 0,_,σ=>σ
 | d+1,k,σ=>match σ.bl[k]? with
  | some B=>match B.st with
   | 0=>Go.Proofs.YtkmbnldginonbaaGreat.frzK k (((List.range B.n).flatMap fun i=>(List.range B.sz).flatMap fun j=>nmC (B.f i j)).foldl (fun s k'=>dfz d k' s) σ)
   | _=>σ
  | none=>σ
theorem foldl_lax {α : Type} {g : St → α → St} (hg : ∀ s x, Lax s (g s x)) : ∀ (l : List α) (σ : St), Lax σ (l.foldl g σ)
 | [],σ=>Lax.refl σ
 | x :: l,σ=>(hg σ x).trans (foldl_lax hg l (g σ x))
theorem Lax.dfz : ∀ (d k : Nat) (σ : St), Lax σ (dfz d k σ)
 | 0,_,σ=>Lax.refl σ
 | d+1,k,σ=>by
  simp only[Go.Proofs.YtkmbnldginonbaaGreat.dfz];split
  ·split
   ·exact(foldl_lax (fun s k'=>Lax.dfz d k' s) _ σ).trans (Lax.frzK k _)
   ·exact Lax.refl σ
  ·exact Lax.refl σ
def dfzL (l:List Nat) (σ:St):St:=l.foldl (fun s k=>dfz 8 k s) σ
theorem Lax.dfzL (l:List Nat) (σ:St):Lax σ (dfzL l σ):=foldl_lax (fun s k=>Lax.dfz 8 k s) l σ
/-! Calls that share the caller's blocks -/
def killB (bl:List Blk) (B:Blk):Blk:=match B.st with
 | 0=>{ B with f:=fun i j=>St.closeC bl (B.f i j) }
 | _=>phB
def yk (σ:St):St:=⟨fun t=>x6 σ.bl (σ.tm t),σ.bl.map (killB σ.bl)⟩
theorem closeAll_sat {D0:Nat->Prop} {w0:Base} {w:World} {r:Bool} {ρ:List Loc} {σ:St} (hs:Sat D0 w0 r ρ σ.bl w):Sat D0 w0 r ρ (yk σ).bl w/\(∀ b,Dof D0 ρ (yk σ).bl b->Dof D0 ρ σ.bl b) :=
 hs.less (killB σ.bl) (fun B hb=>by
  obtain⟨t,sz,n,u,st,f⟩:=B;match st,hb with
  | 0,_=>exact⟨rfl,rfl,rfl,rfl,rfl⟩
  | _+1,hb=>exact absurd hb (by simp[killB,phB])) (fun B hB hb i j hi hj v hv=>by
  obtain⟨t,sz,n,u,st,f⟩:=B;match st,hb with
  | 0,_=>simp only[if_true]at hv ⊢;exact v5 hs hv
  | _+1,hb=>exact absurd hb (by simp[killB,phB]))
theorem closeAll_st {σ:St} {B:Blk} (h:B∈(yk σ).bl):B.st=0∨2<=B.st:=by
 obtain⟨B0,_,rfl⟩:=List.mem_map.1 h;unfold killB;split
 ·rename_i e;exact .inl e
 ·exact .inr (Nat.le_refl 2)
def liveM (ρ:List Loc) (bl:List Blk) (b:Nat):Prop:=∃(k:Nat) (l:Loc) (B:Blk),ρ[k]? = some l/\bl[k]? = some B/\B.st=0/\l.b=some b
theorem Sat.rebase {D0 : Nat → Prop} {w0 : Base} {w : World} {r : Bool} {ρ : List Loc} {bl : List Blk} (hs : Sat D0 w0 r ρ bl w) (hst : ∀ B ∈ bl, B.st = 0 ∨ 2 ≤ B.st) : Sat D0 ⟨w, liveM ρ bl⟩ r ρ bl w where
 below:=⟨rfl,rfl,rfl,Nat.le_refl _,fun _ _ _=>rfl⟩
 d0 b hb:=⟨Nat.lt_of_lt_of_le (hs.d0 b hb).1 hs.below.size,fun⟨k,l,B,h1,h2,h3,h4⟩=>by
  rcases hs.own h1 h2 (by omega) h4 with e | e
  ·have:=(hs.d0 b hb).1;omega
  ·exact(hs.d0 b hb).2 e⟩
 len:=hs.len
 at_ k l B h1 h2:=by
  intro hb;obtain⟨g0,g1⟩:=hs.at_ k l B h1 h2 hb;refine⟨g0,?_⟩;rcases g1 with g1 | ⟨b,cap,cs,g2,g3,g4,g5,g6,g7,g8,g9⟩
  ·exact .inl g1
  ·exact .inr ⟨b,cap,cs,g2,.inr ⟨k,l,B,h1,h2,by rcases hst B (List.mem_of_getElem? h2)with e | e <;> omega,g2⟩,g4,g5,g6,g7,g8,g9⟩
 dist:=hs.dist
 noU:=hs.noU
theorem Sat.unbase {D0 : Nat → Prop} {w0 : Base} {w w' : World} {r : Bool} {ρ ρ' : List Loc} {bl bl' : List Blk} (h : Sat D0 w0 r ρ bl w) (h' : Sat D0 ⟨w, liveM ρ bl⟩ r ρ' bl' w') :
  Sat D0 w0 r ρ' bl' w'/\Ext (Dof D0 ρ bl) w w'/\(∀ b,b<w.heap.size->Dof D0 ρ' bl' b->Dof D0 ρ bl b):=by
 have hM:∀ b,liveM ρ bl b->w0.mine b/\Dof D0 ρ bl b:=fun b ⟨k,l,B,h1,h2,h3,h4⟩=>⟨h.own h1 h2 (by omega) h4,.inr ⟨k,l,B,h1,h2,h3,h4⟩⟩;refine⟨⟨⟨h'.below.os.trans h.below.os,h'.below.tape.trans h.below.tape,h'.below.output.trans h.below.output,Nat.le_trans h.below.size h'.below.size,fun k hk hm=>?_⟩,h.d0,h'.len,fun k l B h1 h2 hb=>?_,h'.dist,h'.noU⟩,⟨h'.below.size,fun b hb hn=>h'.below.block b hb fun hm=>hn (hM b hm).2⟩,fun b hb hd=>?_⟩
 ·refine(h'.below.block k (Nat.lt_of_lt_of_le hk h.below.size) fun hm'=>?_).trans (h.below.block k hk hm);rcases(hM k hm').1 with e | e
  ·omega
  ·exact hm e
 ·obtain⟨g0,g1⟩:=h'.at_ k l B h1 h2 hb;refine⟨g0,?_⟩;rcases g1 with g1 | ⟨b,cap,cs,g2,g3,g4,g5,g6,g7,g8,g9⟩
  ·exact .inl g1
  ·refine .inr ⟨b,cap,cs,g2,?_,g4,g5,g6,g7,g8,g9⟩;rcases g3 with e | e
   ·exact .inl (Nat.le_trans h.below.size e)
   ·exact(hM b e).1
 ·rcases hd with hd | ⟨k,l,B,h1,h2,h3,h4⟩
  ·exact .inl hd
  ·rcases h'.own h1 h2 (by omega) h4 with e | e
   ·have e:w.heap.size<=b:=e;omega
   ·exact(hM b e).2
theorem FnS.nil {P:Program} {r:Bool} {f:FuncId} {args:List V} {X Y:V} {bl':List Blk} (h:FnS P r f [] args X bl') {σ:St} (hσ:Lax ⟨asg [(0,X)],bl'⟩ σ) (h1:wJ (x6 σ.bl (σ.tm 0))=true) (hY:∀ D w v,VRel D w [] (x6 σ.bl (σ.tm 0)) v->VRel D w [] Y v):FnOK P r f args Y:=by
 refine⟨h.1,fun D w vs hD hU hargs=>?_⟩;have hDof:∀ b,Dof D [] [] b->D b:=by
  rintro b (h | ⟨k,l,B,h1,_⟩)
  ·exact h
  ·simp at h1
 have hs0:Sat D ⟨w,fun _=>False⟩ r [] [] w:=⟨⟨rfl,rfl,rfl,Nat.le_refl _,fun _ _ _=>rfl⟩,fun b hb=>⟨hD b hb,id⟩,rfl,fun k l B h1 _=>by simp at h1,fun i j li lj Bi Bj b h1=>by simp at h1,fun hr b o d hb=>hU hr b o d (hDof b hb)⟩;have hargs':VRels (Dof D [] []) w [] args vs:=VRels.step (fun b _ hb=>hDof b hb) hargs;refine(h.2 D _ [] w vs hs0 hargs').mono ?_;rintro e w' ⟨v,ρ',rfl,hs,_,hv⟩;have hrel:Rel ⟨D,⟨w,fun _=>False⟩,r,0,[]⟩ ⟨asg [(0,X)],bl'⟩ ⟨#[v],[]⟩ w':=by
  refine⟨ρ',hs,⟨Nat.zero_le _,fun i l hi=>by simp at hi⟩,rfl,fun t=>?_⟩;show VRel _ _ _ (if t=0 then X else .c .any) _;split
  ·rename_i e;subst e;exact hv
  ·trivial
 obtain⟨ρ2,hs2,_,_,hf2⟩:=hσ _ _ _ hrel;have h3:VRel (Dof D ρ2 σ.bl) w' ρ2 (σ.tm 0) v:=hf2 0;have h4:=xW (ρ':=[]) (xx hs2 h3) h1;exact⟨v,rfl,hY D w' v (h4.step (Ext.refl _ _) (fun b _ hb => .inl hb) (LocsLe.refl _)),⟨hs2.below.os,hs2.below.tape,hs2.below.output,hs2.below.size,fun k hk=>hs2.below.block k hk id⟩⟩
def calleeX (σ:St) (g:Operand):Option (FuncId × List Cell):=match kg σ g with
 | some f=>some (f,[])
 | none=>capsA σ g
theorem calleeX_eval {D:Nat->Prop} {w:World} {ρ:List Loc} {σ:St} {a:Act} {g:Operand} {f:FuncId} {cs:List Cell} (h:calleeX σ g=some (f,cs)) (hx:VRel D w ρ (σ.ev g) (a.eval g)):∃ caps:Array Value,a.eval g = .func (.func f) #[] caps/\CRels D w ρ cs caps.toList:=by
 unfold calleeX at h;split at h
 ·rename_i f' hf;cases h;exact⟨#[],V8 hf hx,trivial⟩
 ·exact(caps_eval h hx).2
def OpGo (E:Env) (o:Oper) (σ σ':St):Prop:=∀ {C:Ctx} {a:Act} {w:World} {next:Act->World->Prop} {Q:Exit->Act->World->Prop},C.r=E.r->yX C.N o.dst->Rel C σ a w->(∀ a' w',Rel C σ' a' w'->next a' w')->o.wp E.P a w next Q
theorem OpGo.lax {E:Env} {o:Oper} {σ σ1 σ':St} (h:Lax σ σ1) (k:OpGo E o σ1 σ'):OpGo E o σ σ':=fun hC hd hr hn=>k hC hd (h _ _ _ hr) hn
theorem OpGo.aop {E:Env} (hE:EnvOK E) {o:Oper} {σ σ':St} (h:aop E o σ fun s=>s=σ'):OpGo E o σ σ':=fun hC hd hr hn=>UK hE hC h hd hr fun s a w hs hrel=>hn a w (by rw[<- hs];exact hrel)
theorem OpGo.call {E : Env} {o : Oper} {σ : St} {g : Operand} {args : Array Operand} {ts : Array TypeId} (hx : o.op = .call { callee := .value g, args, argTypes := ts }) {f : FuncId} {cs : List Cell} (hg : calleeX σ g = some (f, cs)) {X : V} {bl' : List Blk}
  (hS:FnS E.P E.r f (yk σ).bl ((args.toList.map fun x=>x6 σ.bl (σ.ev x))++cs.map fun c=>V.c (St.closeC σ.bl c)) X bl'):OpGo E o σ (St.put ⟨(yk σ).tm,bl'⟩ o.dst X):=by
 intro C a w next Q hC hd hr hn
 obtain⟨ρ0,hs0,hN,hdf,hf0⟩:=hr;have hev:∀ x,VRel (Dof C.D0 ρ0 σ.bl) w ρ0 (σ.ev x) (a.eval x):=fun x=>kX hf0 x;obtain⟨caps,hca,hcr⟩:=calleeX_eval hg (hev g);obtain⟨s1,s2⟩:=closeAll_sat hs0;have s3:=s1.rebase fun B hB=>closeAll_st hB;have hv1:VRels (Dof C.D0 ρ0 σ.bl) w ρ0 ((args.toList.map fun x=>x6 σ.bl (σ.ev x))++cs.map fun c=>V.c (St.closeC σ.bl c)) (args.toList.map a.eval++caps.toList) :=
  (VRels.map args.toList fun x _=>xx hs0 (hev x)).append (VRels.cells (gX hs0 hcr))
 have hv2:=VRels.step (fun b _ hb=>s2 b hb) hv1;rw[<- hC]at hS;unfold Oper.wp;rw[exec_callc hx hca hS.1,Oper.upon_enter];have:=hS.2 _ _ _ _ _ s3 hv2;rw[show(args.toList.map a.eval++caps.toList).toArray=args.map a.eval++caps by
  rw[<- Array.toList_map,<- Array.toList_append,Array.toArray_toList]]at this
 refine this.mono ?_;rintro e w' ⟨v,ρ',rfl,q1,q2,q3⟩;obtain⟨b1,b2,b3⟩:=s1.unbase q1;refine hn _ _ ?_;have hf1:∀ t,VRel (Dof C.D0 ρ' bl') w' ρ' ((yk σ).tm t) (a.tmps.getD t undef):=fun t =>
  ((xx hs0 (hf0 t)).step (Ext.refl _ _) (fun b _ hb=>s2 b hb) (LocsLe.refl _)).step b2 b3 q2
 exact Rel.put (σ:=⟨(yk σ).tm,bl'⟩) b1 ⟨hN.1,hN.2.trans q2⟩ hdf hf1 hd q3
end Go.Proofs.YtkmbnldginonbaaGreat
/- A run of code asl a function: regions, branches, loops, calls. -/
namespace Go.Proofs.YtkmbnldginonbaaGreat
open Go.RowKit
def opX (E:Env) (q:FuncId->List V->Option V) (qs:FuncId->List Blk->List V->Option (V × List Blk)) (inl:FuncId->Bool) (o:Oper) (σ:St):Option St :=
 match o.op with
 | .call { callee := .value g,args,.. }=>match calleeX σ g with
  | some (f,cs)=>match inl f with
   | true=>match qs f (yk σ).bl ((args.toList.map fun x=>x6 σ.bl (σ.ev x))++cs.map fun c=>V.c (St.closeC σ.bl c))with
    | some (X,bl')=>some (St.put ⟨(yk σ).tm,bl'⟩ o.dst X)
    | none=>none
   | false=>aopX E q o (dfzL ((args.toList.flatMap fun x=>nmV (σ.ev x))++cs.flatMap nmC) σ)
  | none=>none
 | _=>aopX E q o σ
theorem opX_ok {E:Env} (hE:EnvOK E) {q:FuncId->List V->Option V} {qs:FuncId->List Blk->List V->Option (V × List Blk)} (hq:∀ f asl X,q f asl=some X->FnOK E.P E.r f asl X) (hqs:∀ f bl asl X bl',qs f bl asl=some (X,bl')->FnS E.P E.r f bl asl X bl') {inl:FuncId->Bool} {o:Oper} {σ σ':St} (h:opX E q qs inl o σ=some σ'):OpGo E o σ σ':=by
 unfold opX at h;split at h
 ·rename_i g args ts hx;split at h
  ·rename_i f cs hg;split at h
   ·split at h
    ·rename_i X bl' hr;cases h;exact OpGo.call hx hg (hqs _ _ _ _ _ hr)
    ·cases h
   ·exact OpGo.lax (Lax.dfzL _ σ) (OpGo.aop hE (aopX_ok hq h rfl))
  ·cases h
 ·exact OpGo.aop hE (aopX_ok hq h rfl)
def regX (E : Env) (q : FuncId → List V → Option V) (qs : FuncId → List Blk → List V → Option (V × List Blk)) (inl : FuncId → Bool) (ops : Array Oper) : List Oper → St → Option St
 | [],σ=>some σ
 | o :: rest,σ=>match o.guard with
  | none=>match opX E q qs inl o σ with
   | some σ'=>regX E q qs inl ops rest σ'
   | none=>none
  | some (g,want)=>match Uv σ ops g with
   | some (d,b)=>match gw want b with
    | true=>match opX E q qs inl o (σ.put (some d) (.c (.bool want)))with
     | some σ'=>regX E q qs inl ops rest σ'
     | none=>none
    | false=>regX E q qs inl ops rest ((σ.put (some d) (.c (.bool !want))).put o.dst .un)
   | none=>match V9 σ ops g with
    | true=>regX E q qs inl ops rest (σ.put o.dst .un)
    | false=>none
theorem regX_ok {E : Env} (hE : EnvOK E) {q : FuncId → List V → Option V} {qs : FuncId → List Blk → List V → Option (V × List Blk)} (hq : ∀ f asl X, q f asl = some X → FnOK E.P E.r f asl X) (hqs : ∀ f bl asl X bl', qs f bl asl = some (X, bl') → FnS E.P E.r f bl asl X bl') {inl : FuncId → Bool} {ops : Array Oper} {C : Ctx} (hC : C.r = E.r) {Q : Exit → Act → World → Prop} {σ1 : St} (hQ : ∀ a w, Rel C σ1 a w → Q .normal a w) :
  ∀(l:List Oper) (σ:St) (a:Act) (w:World),(∀ o∈l,yX C.N o.dst)->regX E q qs inl ops l σ=some σ1->Rel C σ a w->wpList E.P ops Q l a w
 | [],σ,a,w,_,h,hr=>by cases h;exact hQ a w hr
 | o :: rest,σ,a,w,hd,h,hr=>by
  have ih:=fun σ a w=>regX_ok (inl:=inl) (ops:=ops) hE hq hqs hC hQ rest σ a w (fun o ho=>hd o (by simp[ho]));unfold wpList;simp only[regX]at h;split at h
  ·rename_i hg;rw[if_pos (by simp[Region.wanted,hg])];split at h
   ·rename_i σ2 h2;exact .inl (opX_ok hE hq hqs h2 hC (hd o (by simp)) hr fun a' w' hrel=>ih σ2 a' w' h hrel)
   ·cases h
  ·rename_i g want hg;split at h
   ·rename_i d b hgv;obtain⟨hy,hv,hlt,htm⟩:=WF (a:=a) (w:=w) hgv (by obtain⟨ρ,hs,hN,hdf,hf⟩:=hr;exact fun d _=>⟨_,ρ,hf d⟩);have hwt:Region.wanted o (yielded ops a.tmps)=(b == want):=by
     unfold Region.wanted;rw[hg];simp only[hy];rfl
    rw[hwt];split at h
    ·rename_i hb;have e:=xK.1 hb;rw[if_pos (by simp[e])];split at h
     ·rename_i σ2 h2;refine .inl (opX_ok hE hq hqs h2 hC (hd o (by simp)) (UP hr fun D ρ=>?_) fun a' w' hrel=>ih σ2 a' w' h hrel);rw[hv,e];rfl
     ·cases h
    ·rename_i hb;have e':=jv.1 hb;have e:¬ b=want:=by rw[e'];cases want <;> simp
     rw[if_neg (by simpa using e)];have h2:Rel C (σ.put (some d) (.c (.bool !want))) a w:=UP hr fun D ρ=>by rw[hv,e'];rfl
     obtain⟨ρ,hs,hN,hdf,hf⟩:=h2;exact ih _ _ _ h (Rel.put hs hN hdf hf (hd o (by simp)) rfl)
   ·split at h
    ·rename_i hgu;have hy:=guard_un (a:=a) (w:=w) hgu (by obtain⟨ρ,hs,hN,hdf,hf⟩:=hr;exact fun d _=>⟨_,ρ,hf d⟩);have hwt:Region.wanted o (yielded ops a.tmps)=false:=by
      unfold Region.wanted;rw[hg];simp only[hy];rfl
     rw[hwt,if_neg (by simp)];obtain⟨ρ,hs,hN,hdf,hf⟩:=hr;exact ih _ _ _ h (Rel.put hs hN hdf hf (hd o (by simp)) rfl)
    ·cases h
def loopX (N : Nat) (body : St → Option (Exit × St)) : Nat → St → Option (Exit × St)
 | 0,_=>none
 | n+1,σ=>fSt N σ fun σ=>match body σ with
  | some (.normal,σ')=>loopX N body n σ'
  | r=>r
def gZ (E : Env) (q : FuncId → List V → Option V) (qs : FuncId → List Blk → List V → Option (V × List Blk)) (inl : FuncId → Bool) (N lf : Nat) : Code → St → Option (Exit × St)
 | .skip,σ=>some (.normal,σ)
 | .region _ ops draw,σ=>match draw with
  | true=>match aheadX E q ops σ.bl.length ops.toList 0 { σ with bl:=σ.bl++List.replicate (Ux ops.toList) phB } with
   | some σ'=>some (.normal,σ')
   | none=>none
  | false=>match regX E q qs inl ops ops.toList σ with
   | some σ'=>some (.normal,σ')
   | none=>none
 | .seq a b,σ=>match gZ E q qs inl N lf a σ with
  | some (.normal,σ')=>gZ E q qs inl N lf b σ'
  | r=>r
 | .cond c x y,σ=>match σ.ev c with
  | .c (.bool true)=>gZ E q qs inl N lf x σ
  | .c (.bool false)=>gZ E q qs inl N lf y σ
  | _=>none
 | .block id c,σ=>match gZ E q qs inl N lf c σ with
  | some (.exit i,σ')=>match Nat.beq i id with
   | true=>some (.normal,σ')
   | false=>some (.exit i,σ')
  | r=>r
 | .exit id,σ=>some (.exit id,σ)
 | .ret,σ=>some (.ret,σ)
 | .label _,σ=>some (.normal,σ)
 | .loop c,σ=>loopX N (gZ E q qs inl N lf c) lf σ
 | _,_=>none
def QX (C:Ctx) (r:Exit × St) (e:Exit) (a:Act) (w:World):Prop:=e=r.1/\Rel C r.2 a w
theorem wX {E : Env} (hE : EnvOK E) {q : FuncId → List V → Option V} {qs : FuncId → List Blk → List V → Option (V × List Blk)} (hq : ∀ f asl X, q f asl = some X → FnOK E.P E.r f asl X) (hqs : ∀ f bl asl X bl', qs f bl asl = some (X, bl') → FnS E.P E.r f bl asl X bl') {inl : FuncId → Bool} {N lf : Nat} (hm : E.P.follows .mixedOrders = true) {C : Ctx} (hC : C.r = E.r) :
  ∀(c:Code) {σ:St} {r:Exit × St} {a:Act} {w:World},x9 C.N c=true->gZ E q qs inl N lf c σ=some r->Rel C σ a w->c.wp E.P (QX C r) a w
 | .skip,σ,r,a,w,_,h,hr=>by cases h;exact wp_skip ⟨rfl,hr⟩
 | .region id ops draw,σ,r,a,w,hc,h,hr=>by
  simp only[x9,Bool.and_eq_true]at hc;simp only[gZ]at h;cases draw with
  | true =>
   simp only at h;split at h
   ·rename_i σ' h1;cases h;refine adraw_sound hE hC (K:=fun s=>s=σ') hm (fun s a w hs hrel=>⟨rfl,by rw[<- hs];exact hrel⟩) hc.1 (by simpa using hc.2) ?_ hr;exact UF hq _ _ h1 rfl
   ·cases h
  | false =>
   simp only at h;split at h
   ·rename_i σ' h1;cases h;refine wp_region_list (regX_ok hE hq hqs hC (fun a w hrel=>⟨rfl,hrel⟩) ops.toList σ a w (fun o ho d hd'=>?_) h1 hr);have:=List.all_eq_true.1 hc.1 o ho;unfold dstB at this;rw[hd']at this;simpa using this
   ·cases h
 | .seq x y,σ,r,a,w,hc,h,hr=>by
  simp only[x9,Bool.and_eq_true]at hc;simp only[gZ]at h;split at h
  ·rename_i σ' h1;refine wp_seq (wp_mono (wX hE hq hqs hm hC x hc.1 h1 hr) ?_);rintro e a' w' ⟨rfl,hrel⟩;exact wX hE hq hqs hm hC y hc.2 h hrel
  ·rename_i hno;refine wp_seq (wp_mono (wX hE hq hqs hm hC x hc.1 h hr) ?_);rintro e a' w' ⟨rfl,hrel⟩;obtain⟨e,σ'⟩:=r;cases e with
   | normal=>exact absurd h (hno σ')
   | _=>exact⟨rfl,hrel⟩
 | .cond c x y,σ,r,a,w,hc,h,hr=>by
  simp only[x9,Bool.and_eq_true]at hc;simp only[gZ]at h;have he:∀ b,σ.ev c = .c (.bool b)->a.eval c = .bool b:=by
   intro b hb;obtain⟨ρ,hs,hN,hdf,hf⟩:=hr;have:=kX hf c;rw[hb]at this;exact this
  split at h
  ·rename_i hb;exact wp_cond_split (he _ hb) (fun _=>wX hE hq hqs hm hC x hc.1 h hr) (fun e=>by cases e)
  ·rename_i hb;exact wp_cond_split (he _ hb) (fun e=>by cases e) (fun _=>wX hE hq hqs hm hC y hc.2 h hr)
  ·cases h
 | .block id c,σ,r,a,w,hc,h,hr=>by
  simp only[x9]at hc;simp only[gZ]at h;split at h
  ·rename_i i σ' h1;refine wp_block (wp_mono (wX hE hq hqs hm hC c hc h1 hr) ?_);rintro e a' w' ⟨rfl,hrel⟩;simp only[Exit.inBlock];split at h
   ·rename_i hb;cases h;rw[if_pos (Nat.eq_of_beq_eq_true hb)];exact⟨rfl,hrel⟩
   ·rename_i hb;cases h;rw[if_neg (Nat.ne_of_beq_eq_false hb)];exact⟨rfl,hrel⟩
  ·rename_i hno;refine wp_block (wp_mono (wX hE hq hqs hm hC c hc h hr) ?_);rintro e a' w' ⟨rfl,hrel⟩;obtain⟨e,σ'⟩:=r;cases e with
   | exit i=>exact absurd h (hno i σ')
   | _=>exact⟨rfl,hrel⟩
 | .exit id,σ,r,a,w,_,h,hr=>by cases h;exact wp_exit ⟨rfl,hr⟩
 | .ret,σ,r,a,w,_,h,hr=>by cases h;exact wp_ret ⟨rfl,hr⟩
 | .label l,σ,r,a,w,_,h,hr=>by cases h;exact wp_label ⟨rfl,hr⟩
 | .loop c,σ,r,a,w,hc,h,hr=>by
  simp only[x9]at hc;simp only[gZ]at h;refine wp_loop_ghost (fun n a w=>∃ σ,Rel C σ a w/\loopX N (gZ E q qs inl N lf c) n σ=some r) lf ⟨σ,hr,h⟩ ?_;rintro n a w ⟨σ1,hrel,hn⟩;cases n with
  | zero=>cases hn
  | succ n =>
   simp only[loopX,fSt_eq]at hn;have hrel2:=Lax.nrm N σ1 C a w hrel;split at hn
   ·rename_i σ2 h2;refine wp_mono (wX hE hq hqs hm hC c hc h2 hrel2) ?_;rintro e a' w' ⟨rfl,hrel3⟩;exact⟨n,Nat.lt_succ_self n,σ2,hrel3,hn⟩
   ·rename_i hno;refine wp_mono (wX hE hq hqs hm hC c hc hn hrel2) ?_;rintro e a' w' ⟨rfl,hrel3⟩;obtain⟨e,σ2⟩:=r;cases e with
    | normal=>exact absurd hn (hno σ2)
    | _=>exact⟨rfl,hrel3⟩
 | .rangeFunc ..,_,_,_,_,_,h,_=>by cases h
 | .scope _,_,_,_,_,_,h,_=>by cases h
 | .goto _,_,_,_,_,_,h,_=>by cases h
 | .refuse _,_,_,_,_,_,h,_=>by cases h
def trimX (v:V) (bl:List Blk) (m:Nat):V × List Blk :=
 match v.lt m&&(bl.take m).all fun B=>!(B.st == 0)||allIJ B.n B.sz fun i j=>(B.f i j).lt m with
 | true=>(v,bl.take m)
 | false=>(v,bl)
def fVs {β : Type} : List V → (List V → β) → β
 | [],k=>k []
 | x :: l,k=>fV x fun x=>fVs l fun l=>k (x :: l)
theorem fVs_eq {β : Type} : ∀ (l : List V) (k : List V → β), fVs l k = k (l.map yp)
 | [],_=>rfl
 | x :: l,k=>by simp only[fVs,UJ,fVs_eq l,List.map_cons]
theorem nrmVs_rel {D : Nat → Prop} {w : World} {ρ : List Loc} : ∀ {l : List V} {vs : List Value}, VRels D w ρ l vs → VRels D w ρ (l.map yp) vs
 | [],[],_=>trivial
 | _ :: _,_ :: _,h=>⟨jB h.1,nrmVs_rel h.2⟩
 | [],_ :: _,h=>h.elim
 | _ :: _,[],h=>h.elim
def pureF (σ:St):Option V:=match wJ (x6 σ.bl (σ.tm 0))with
 | true=>fV (x6 σ.bl (σ.tm 0)) fun Y=>some Y
 | false=>none
def pureX (orc:FuncId->List V->Option V) (run:FuncId->List Blk->List V->Option (V × List Blk)) (f:FuncId) (asl:List V):Option V :=
 match orc f asl with
 | some X=>some X
 | none=>match run f [] asl with
  | some (X,bl)=>pureF (dfzL (nmV X) ⟨asg [(0,X)],bl⟩)
  | none=>none
def runX (E : Env) (orc : FuncId → List V → Option V) (ok inl : FuncId → Bool) (lf : Nat) : Nat → FuncId → List Blk → List V → Option (V × List Blk)
 | 0,_,_,_=>none
 | d+1,f,bl,asl=>match ok f with
  | false=>none
  | true=>match E.P.funcs[f]? with
   | some fn=>match fn.body with
    | some c=>fVs asl fun asl=>match gZ E (pureX orc (runX E orc ok inl lf d)) (runX E orc ok inl lf d) inl fn.ntmps lf c ⟨vw asl,bl⟩with
     | some (e,σ)=>match e with
      | .normal | .ret=>match retV E σ fn.results.toList with
       | some v=>fV v fun v=>fBs σ.bl fun bl'=>some (trimX v bl' bl.length)
       | none=>none
      | _=>none
     | none=>none
    | none=>none
   | none=>none
theorem pureX_ok {P:Program} {r:Bool} {orc:FuncId->List V->Option V} {run:FuncId->List Blk->List V->Option (V × List Blk)} (ho:∀ f asl X,orc f asl=some X->FnOK P r f asl X) (hrun:∀ f bl asl X bl',run f bl asl=some (X,bl')->FnS P r f bl asl X bl') (f:FuncId) (asl:List V) (X:V) (h:pureX orc run f asl=some X):FnOK P r f asl X:=by
 unfold pureX at h;split at h
 ·rename_i X' h1;cases h;exact ho _ _ _ h1
 ·split at h
  ·rename_i X1 bl h1;unfold pureF at h;split at h
   ·rename_i hcl;rw[UJ]at h;cases h;exact(hrun _ _ _ _ _ h1).nil (Lax.dfzL _ _) hcl fun D w v hv=>jB hv
   ·cases h
  ·cases h
theorem runX_ok {E : Env} (hE : EnvOK E) (hm : E.P.follows .mixedOrders = true) {orc : FuncId → List V → Option V} (ho : ∀ f asl X, orc f asl = some X → FnOK E.P E.r f asl X) {ok inl : FuncId → Bool} (hok : ∀ f fn c, ok f = true → E.P.funcs[f]? = some fn → fn.body = some c → x9 fn.ntmps c = true ∧ x8 E.P f = true) {lf : Nat} :
  ∀(d:Nat) (f:FuncId) (bl:List Blk) (asl:List V) (X:V) (bl':List Blk),runX E orc ok inl lf d f bl asl=some (X,bl')->FnS E.P E.r f bl asl X bl'
 | 0,_,_,_,_,_,h=>by cases h
 | d+1,f,bl,asl,X,bl',h=>by
  simp only[runX]at h;split at h
  ·cases h
  rename_i hokf;split at h
  case h_2=>cases h
  rename_i fn hfn;split at h
  case h_2=>cases h
  rename_i c hc;rw[fVs_eq]at h;split at h
  case h_2=>cases h
  rename_i e σ hrun;obtain⟨hcb,hbd⟩:=hok f fn c hokf hfn hc;have ih:=runX_ok hE hm ho hok (inl:=inl) (lf:=lf) d;refine⟨hbd,fun D0 w0 ρ w vs hs hargs=>?_⟩;refine calls_of_wp hfn hc ?_;let C:Ctx:=⟨D0,w0,E.r,fn.ntmps,ρ⟩;have hlen:=hargs.length;have hargs':=nrmVs_rel hargs;have hrel:Rel C ⟨vw (asl.map yp),bl⟩ { tmps:=vs.toArray++Array.replicate (fn.ntmps-vs.toArray.size) undef,defers:=[] } w:=by
   refine⟨ρ,hs,⟨by simp[C];omega,LocsLe.refl _⟩,rfl,fun t=>?_⟩;have h1:=hargs'.get t;show VRel (Dof D0 ρ bl) w ρ ((asl.map yp).getD t (.c .any)) _;rcases Nat.lt_or_ge t vs.length with hlt | hge
   ·have:(vs.toArray++Array.replicate (fn.ntmps-vs.toArray.size) undef).getD t undef=vs.getD t undef:=by
     rw[Array.getD_eq_getD_getElem?,Array.getElem?_append_left (by simpa using hlt)];simp[List.getD]
    rw[this];exact h1
   ·rw[show(asl.map yp).getD t (V.c .any) = .c .any by rw[List.getD,List.getElem?_eq_none (by simp;omega)];rfl];trivial
  refine wp_mono (wX hE (pureX_ok ho ih) ih hm rfl c hcb hrun hrel) ?_;rintro e' a w' ⟨rfl,hr⟩;have fin:(match retV E σ fn.results.toList with
    | some v=>fV v fun v=>fBs σ.bl fun bl'=>some (trimX v bl' bl.length)
    | none=>none)=some (X,bl')->a.defers=[]/\∃ v,(results fn a.tmps).run E.P w' = .ok v w'/\∃ u ρ',Ending.returned v = .returned u/\Sat D0 w0 E.r ρ' bl' w'/\LocsLe ρ ρ'/\VRel (Dof D0 ρ' bl') w' ρ' X u:=by
   intro hk;split at hk
   ·rename_i v hv;rw[UJ,fBs_eq]at hk;obtain⟨ρ1,hs1,hN1,hdf1,hf1⟩:=hr;obtain⟨x,hx,hxr⟩:=W4 hE hs1 hf1 hv;have hrel2:Rel ⟨D0,w0,E.r,0,ρ⟩ ⟨asg [(0,v)],σ.bl⟩ ⟨#[x],[]⟩ w':=by
     refine⟨ρ1,hs1,⟨Nat.zero_le _,hN1.2⟩,rfl,fun t=>?_⟩;show VRel _ _ _ (if t=0 then v else .c .any) _;split
     ·rename_i e;subst e;exact hxr
     ·trivial
    obtain⟨ρ2,hs2,hN2,_,hf2⟩:=Lax.nrm 1 _ _ _ _ hrel2;have h3:VRel (Dof D0 ρ2 (σ.bl.map nrmB)) w' ρ2 (yp v) x:=hf2 0;refine⟨hdf1,x,hx,x,?_⟩;unfold trimX at hk;split at hk
    ·rename_i hb;cases hk;simp only[Bool.and_eq_true]at hb;obtain⟨t1,t2⟩:=hs2.take bl.length fun k B hk hB hst i j hi hj=>by
      have hmem:B∈(σ.bl.map nrmB).take bl.length:=List.mem_of_getElem? (by rw[List.getElem?_take_of_lt hk];exact hB);have:=List.all_eq_true.1 hb.2 B hmem;simp only[hst,beq_self_eq_true,Bool.not_true,Bool.false_or]at this;exact Wx this hi hj
     exact⟨_,rfl,t1,hN2.2.take (Nat.le_of_eq hs.len),(h3.take hb.1).step (Ext.refl _ _) (fun b _ hb=>t2 b hb) (LocsLe.refl _)⟩
    ·cases hk;exact⟨ρ2,rfl,hs2,hN2.2,h3⟩
   ·cases hk
  cases e' with
  | normal=>exact fin h
  | ret=>exact fin h
  | exit i=>cases h
  | goto l=>cases h
  | panic ch=>cases h
  | outgrown=>cases h
end Go.Proofs.YtkmbnldginonbaaGreat
