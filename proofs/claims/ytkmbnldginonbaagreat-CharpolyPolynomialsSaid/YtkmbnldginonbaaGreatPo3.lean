/- Abstract operations that make or write blocks of the call's own; operations in the order of the text. -/
import Derived.Test.YtkmbnldginonbaaGreatPo2
import Derived.ArgAppend
import Derived.Orders
namespace Go.Proofs.YtkmbnldginonbaaGreat
open Go.RowKit
def Rel (C:Ctx) (σ:St) (a:Act) (w:World):Prop :=
 ∃ ρ,Sat C.D0 C.w0 C.r ρ σ.bl w/\(C.N<=a.tmps.size/\LocsLe C.ρ0 ρ)/\a.defers=[]/\∀ t,VRel (Dof C.D0 ρ σ.bl) w ρ (σ.tm t) (a.tmps.getD t undef)
def upd (f:Nat->V) (d:Nat) (v:V) (t:Nat):V:=if t=d then v else f t
def St.put (σ:St) (dst:Option Nat) (v:V):St :=
 match dst with
 | some d=>{ σ with tm:=upd σ.tm d v }
 | none=>σ
@[simp] theorem St.put_bl (σ : St) (dst : Option Nat) (v : V) : (σ.put dst v).bl = σ.bl := by cases dst <;> rfl
def yX (N:Nat) (dst:Option Nat):Prop:=∀ d:Nat,dst=some d->d<N
theorem frame_put {D : Nat → Prop} {w : World} {ρ : List Loc} {σ : St} {a : Act} {N : Nat} {dst : Option Nat} {v : V} {x : Value} (hN : N ≤ a.tmps.size) (hd : yX N dst) (h : ∀ t, VRel D w ρ (σ.tm t) (a.tmps.getD t undef)) (hv : VRel D w ρ v x) :
  N<=(a.put dst x).tmps.size/\(a.put dst x).defers=a.defers/\∀ t,VRel D w ρ ((σ.put dst v).tm t) ((a.put dst x).tmps.getD t undef):=by
 cases dst with
 | none=>exact⟨hN,rfl,h⟩
 | some d =>
  have hlt:d<N:=hd d rfl;refine⟨by simpa [Act.put] using hN,rfl,fun t=>?_⟩;simp only[St.put,Act.put,upd];by_cases e:t=d
  ·subst e;rw[if_pos rfl];have h2:t<a.tmps.size:=by omega
   rw[show(a.tmps.setIfInBounds t x).getD t undef=x by simp[Array.getD,h2]];exact hv
  ·rw[if_neg e];rw[show(a.tmps.setIfInBounds d x).getD t undef=a.tmps.getD t undef by
    simp[Array.getD_eq_getD_getElem?,Array.getElem?_setIfInBounds_ne (fun h=>e h.symm)]]
   exact h t
theorem Rel.put {C:Ctx} {σ:St} {a:Act} {w:World} {ρ:List Loc} (hs:Sat C.D0 C.w0 C.r ρ σ.bl w) (hN:C.N<=a.tmps.size/\LocsLe C.ρ0 ρ) (hdf:a.defers=[]) (h:∀ t,VRel (Dof C.D0 ρ σ.bl) w ρ (σ.tm t) (a.tmps.getD t undef)) {dst:Option Nat} (hd:yX C.N dst) {v:V} {x:Value} (hv:VRel (Dof C.D0 ρ σ.bl) w ρ v x):Rel C (σ.put dst v) (a.put dst x) w:=by
 obtain⟨h1,h2,h3⟩:=frame_put hN.1 hd h hv;exact⟨ρ,by rw[St.put_bl];exact hs,⟨h1,hN.2⟩,h2.trans hdf,by rw[St.put_bl];exact h3⟩
theorem yY {D D':Nat->Prop} {w w':World} {ρ ρ':List Loc} (he:Ext D w w') (hd:∀ b,b<w.heap.size->D' b->D b) (hρ:LocsLe ρ ρ') {tm:Nat->V} {a:Act} (h:∀ t,VRel D w ρ (tm t) (a.tmps.getD t undef)):∀ t,VRel D' w' ρ' (tm t) (a.tmps.getD t undef) :=
 fun t=>(h t).step he hd hρ
def zQ (bl : List Blk) (r : Bool) : V → Option (List Cell)
 | .c x=>if St.one bl x&&(!r||x.noU)then some [x]else none
 | .g l=>if l.all (St.one bl)&&(!r||l.all Cell.noU)then some l else none
 | _=>none
theorem noU_rel {D:Nat->Prop} {D0:Nat->Prop} {w0:Base} {w:World} {r:Bool} {ρ:List Loc} {bl:List Blk} (h:Sat D0 w0 r ρ bl w) {c:Cell} {v:Value} (h1:St.one bl c=true) (hn:c.noU=true) (hc:CRel D w ρ c v) (d:Int):v ≠ .int .u32 d:=by
 cases c with
 | any=>simp[St.one]at h1
 | bool b=>cases hc;simp
 | int k n=>cases hc;intro e;injection e with e1 e2;subst e1;simp[Cell.noU]at hn
 | nil=>cases hc;simp
 | fn F=>cases hc;simp
 | str s=>cases hc;simp
 | cl F m f=>obtain⟨caps,rfl,_⟩:=hc;simp
 | row sz n f=>obtain⟨A,c,rfl,_⟩:=hc;simp
 | xp m f=>obtain⟨b,o,rfl,_⟩:=hc;simp
 | p k u sz i o =>
  obtain⟨l,hl,hu,hv⟩:=hc;simp only[St.one]at h1;split at h1
  ·rename_i B hB;simp at h1;obtain⟨g0,_⟩:=h.at_ k l B hl hB h1.2;obtain⟨_,b,_,rfl⟩:=hv (by omega);simp
  ·cases h1
 | gs k u =>
  obtain⟨l,hl,hu,hv⟩:=hc;simp only[St.one]at h1;split at h1
  ·rename_i B hB;simp at h1;obtain⟨g0,_⟩:=h.at_ k l B hl hB h1.2;rw[hv (by omega)];simp[Loc.v]
  ·cases h1
 | sl k u sz o n =>
  obtain⟨l,hl,hu,hv⟩:=hc;simp only[St.one]at h1;split at h1
  ·rename_i B hB;simp at h1;obtain⟨g0,_⟩:=h.at_ k l B hl hB h1.2;obtain⟨_,A,c,rfl,_⟩:=hv (by omega);simp
  ·cases h1
theorem jz {D0 : Nat → Prop} {w0 : Base} {w : World} {r : Bool} {ρ : List Loc} {bl : List Blk} (h : Sat D0 w0 r ρ bl w) {D : Nat → Prop} {x : V} {v : Value} {l : List Cell} (h1 : zQ bl r x = some l) (hx : VRel D w ρ x v) :
  CRels D w ρ l v.cells.toList/\(∀ u∈v.cells.toList,u.oneCell'=true)/\(r=true->∀(i:Nat) (d:Int),v.cells[i]? ≠ some (.int .u32 d)):=by
 have hall:∀(l:List Cell) (vs:List Value),l.all (St.one bl)=true->CRels D w ρ l vs->∀ u∈vs,u.oneCell'=true:=by
  intro l;induction l with
  | nil=>intro vs _ hc u hu;cases vs with | nil=>simp at hu | cons _ _=>exact hc.elim
  | cons c l ih =>
   intro vs ha hc u hu;cases vs with
   | nil=>exact hc.elim
   | cons v vs =>
    simp only[List.all_cons,Bool.and_eq_true]at ha;rcases List.mem_cons.1 hu with e | e
    ·subst e;exact(WV h ha.1 hc.1).1
    ·exact ih vs ha.2 hc.2 u e
 have hU:∀(l:List Cell) (vs:List Value),l.all (St.one bl)=true->l.all Cell.noU=true->CRels D w ρ l vs->∀(i:Nat) (d:Int),vs[i]? ≠ some (.int .u32 d):=by
  intro l;induction l with
  | nil=>intro vs _ _ hc i d;cases vs with | nil=>simp | cons _ _=>exact hc.elim
  | cons c l ih =>
   intro vs ha hb hc i d;cases vs with
   | nil=>exact hc.elim
   | cons v vs =>
    simp only[List.all_cons,Bool.and_eq_true]at ha hb;cases i with
    | zero=>intro e;simp at e;exact noU_rel h ha.1 hb.1 hc.1 d e
    | succ i=>simpa using ih vs ha.2 hb.2 hc.2 i d
 cases x with
 | c x =>
  simp only[zQ]at h1;split at h1
  ·rename_i hc;simp only[Bool.and_eq_true,Bool.or_eq_true,Bool.not_eq_true']at hc;have hc:St.one bl x=true/\(r=true->x.noU=true):=⟨hc.1,fun hr=>hc.2.resolve_left (by rw[hr];simp)⟩;cases h1;have h2:=(WV h hc.1 hx).2;rw[h2];refine⟨⟨hx,trivial⟩,fun u hu=>?_,fun hr i d=>?_⟩
   ·simp at hu;subst hu;exact(WV h hc.1 hx).1
   ·intro e;cases i with
    | zero=>simp at e;exact noU_rel h hc.1 (hc.2 hr) hx d e
    | succ i=>simp at e
  ·cases h1
 | g l' =>
  simp only[zQ]at h1;split at h1
  ·rename_i hc;simp only[Bool.and_eq_true,Bool.or_eq_true,Bool.not_eq_true']at hc;have hc:l'.all (St.one bl)=true/\(r=true->l'.all Cell.noU=true):=⟨hc.1,fun hr=>hc.2.resolve_left (by rw[hr];simp)⟩;cases h1;obtain⟨vs,rfl,e2⟩:=hx;refine⟨e2,hall _ _ hc.1 e2,fun hr i d=>?_⟩;have:=hU _ _ hc.1 (hc.2 hr) e2 i d;simpa [Value.cells] using this
  ·cases h1
 | t2 a b=>simp[zQ]at h1
 | t3 a b d=>simp[zQ]at h1
 | t4 a b d e=>simp[zQ]at h1
 | un=>simp[zQ]at h1
def St.push (σ:St) (B:Blk):St:={ σ with bl:=σ.bl++[B] }
def qk (l:List Cell) (_ j:Nat):Cell:=l.getD j .any
def xJ (sz:Nat) (l:List Cell) (i j:Nat):Cell:=l.getD (i*sz+j) .any
theorem Rel.push {C : Ctx} {σ : St} {a : Act} {w : World} (h : Rel C σ a w) {cs : Array Value} {t sz n cap : Nat} {f : Nat → Nat → Cell} (hs : cs.size = cap * sz) (hn : n ≤ cap) (hc : cap ≤ maxLen)
  (hf:∀ ρ,Sat C.D0 C.w0 C.r ρ σ.bl w->(∀ t,VRel (Dof C.D0 ρ σ.bl) w ρ (σ.tm t) (a.tmps.getD t undef))->∀ i j,i<n->j<sz->∃ u,cs[i*sz+j]? = some u/\CRel (Dof C.D0 ρ σ.bl) w ρ (f i j) u) (hU:C.r=true->∀(i:Nat) (d:Int),cs[i]? ≠ some (.int .u32 d))
  {dst:Option Nat} (hd:yX C.N dst) (x:Cell) (v:Value) (hx:∀ ρ,ρ.length=σ.bl.length->CRel (fun _=>False) w (ρ++[⟨0,some w.heap.size,n,cap⟩]) x v) (hcl:∀ sz n f,x ≠ .row sz n f) (hcl2:∀ m f,x ≠ .xp m f) (hcl3:∀ F m f,x ≠ .cl F m f:=by simp) :
  Rel C ((σ.push ⟨t,sz,n,0,0,f⟩).put dst (.c x)) (a.put dst v) (w.alloc (.cells cs t)):=by
 obtain⟨ρ,hsat,hN,hdf,hfr⟩:=h;obtain⟨s1,s2⟩:=hsat.alloc hs hn hc (hf ρ hsat hfr) hU (t:=t);have hE:Ext (Dof C.D0 ρ σ.bl) w (w.alloc (.cells cs t)):=⟨by simp,fun b hb _=>Below.heap_alloc w _ b hb⟩;refine Rel.put (σ:=σ.push ⟨t,sz,n,0,0,f⟩) s1 ⟨hN.1,hN.2.trans (LocsLe.append _ _)⟩ hdf (yY hE s2 (LocsLe.append _ _) hfr) hd ?_;have:=hx ρ hsat.len;show CRel _ _ _ x v;cases x with
 | row sz n f=>exact absurd rfl (hcl _ _ _)
 | xp m f=>exact absurd rfl (hcl2 _ _)
 | cl F m f=>exact absurd rfl (hcl3 _ _ _)
 | _=>exact this
end Go.Proofs.YtkmbnldginonbaaGreat
/- Calls that are handed one block to write, and calls that hand back blocks of their own. -/
namespace Go.Proofs.YtkmbnldginonbaaGreat
open Go.RowKit
def phB:Blk:=⟨0,0,0,0,2,fun _ _ => .any⟩
def phL:Loc:=⟨0,none,0,0⟩
theorem Sat.ph {D0:Nat->Prop} {w0:Base} {w:World} {r:Bool} {ρ:List Loc} {bl:List Blk} (h:Sat D0 w0 r ρ bl w):Sat D0 w0 r (ρ++[phL]) (bl++[phB]) w/\(∀ b,Dof D0 (ρ++[phL]) (bl++[phB]) b↔Dof D0 ρ bl b):=by
 have get:∀(k:Nat) (l:Loc) (B:Blk),(ρ++[phL])[k]? = some l->(bl++[phB])[k]? = some B->(ρ[k]? = some l/\bl[k]? = some B)∨(l=phL/\B=phB):=by
  intro k l B h1 h2;rcases Nat.lt_or_ge k ρ.length with hk | hk
  ·rw[List.getElem?_append_left hk]at h1;rw[List.getElem?_append_left (by rw[<- h.len];exact hk)]at h2;exact .inl ⟨h1,h2⟩
  ·rw[List.getElem?_append_right hk]at h1;rw[List.getElem?_append_right (by rw[<- h.len];exact hk),<- h.len]at h2;rcases Nat.eq_zero_or_pos (k-ρ.length)with e | e
   ·rw[e]at h1 h2;simp at h1 h2;exact .inr ⟨h1.symm,h2.symm⟩
   ·rw[List.getElem?_eq_none (by simp;omega)]at h1;cases h1
 have up:∀(k:Nat) (l:Loc) (B:Blk),ρ[k]? = some l->bl[k]? = some B->(ρ++[phL])[k]? = some l/\(bl++[phB])[k]? = some B:=by
  intro k l B h1 h2;exact⟨by rw[List.getElem?_append_left (List.getElem?_eq_some_iff.1 h1).1];exact h1,by rw[List.getElem?_append_left (List.getElem?_eq_some_iff.1 h2).1];exact h2⟩
 have hD:∀ b,Dof D0 (ρ++[phL]) (bl++[phB]) b↔Dof D0 ρ bl b:=by
  intro b;constructor
  ·rintro (hx | ⟨k,l,B,h1,h2,h3,h4⟩)
   ·exact .inl hx
   ·rcases get k l B h1 h2 with⟨g1,g2⟩ | ⟨rfl,rfl⟩
    ·exact .inr ⟨k,l,B,g1,g2,h3,h4⟩
    ·cases h3
  ·rintro (hx | ⟨k,l,B,h1,h2,h3,h4⟩)
   ·exact .inl hx
   ·exact .inr ⟨k,l,B,(up k l B h1 h2).1,(up k l B h1 h2).2,h3,h4⟩
 refine⟨⟨h.below,h.d0,by simp[h.len],fun k l B h1 h2=>?_,fun i j li lj Bi Bj b h1 h2 h3 h4 h5 h6 h7 h8=>?_,fun hr b o d hb=>h.noU hr b o d ((hD b).1 hb)⟩,hD⟩
 ·rcases get k l B h1 h2 with⟨g1,g2⟩ | ⟨rfl,rfl⟩
  ·exact(h.at_ k l B g1 g2).step (Ext.refl _ _) (fun b _ hb=>(hD b).1 hb) (LocsLe.append _ _) (fun _ _=>rfl)
  ·intro hst;simp[phB]at hst
 ·rcases get i li Bi h1 h3 with⟨g1,g2⟩ | ⟨rfl,rfl⟩
  ·rcases get j lj Bj h2 h4 with⟨g3,g4⟩ | ⟨rfl,rfl⟩
   ·exact h.dist i j li lj Bi Bj b g1 g3 g2 g4 h5 h6 h7 h8
   ·cases h8
  ·cases h7
def FnM (P:Program) (r:Bool) (f:FuncId) (B:Blk) (args:List V) (X:V) (B':Blk) (fresh:List Blk):Prop :=
 x8 P f=true/\∀(D:Nat->Prop) (w0:Base) (l:Loc) (w:World) (vs:List Value),Sat D w0 r [l] [B] w->VRels (Dof D [l] [B]) w [l] args vs ->
  Calls P f vs.toArray w fun e w'=>∃ v l' ρ',e = .returned v/\Sat D w0 r (l' :: ρ') (B' :: fresh) w'/\LocsLe [l] [l']/\VRel (Dof D (l' :: ρ') (B' :: fresh)) w' (l' :: ρ') X v
def FnS (P:Program) (r:Bool) (f:FuncId) (bl:List Blk) (args:List V) (X:V) (bl':List Blk):Prop :=
 x8 P f=true/\∀(D0:Nat->Prop) (w0:Base) (ρ:List Loc) (w:World) (vs:List Value),Sat D0 w0 r ρ bl w->VRels (Dof D0 ρ bl) w ρ args vs ->
  Calls P f vs.toArray w fun e w'=>∃ v ρ',e = .returned v/\Sat D0 w0 r ρ' bl' w'/\LocsLe ρ ρ'/\VRel (Dof D0 ρ' bl') w' ρ' X v
def ren (k n i:Nat):Nat:=match i with
 | 0=>k
 | i+1=>n+i
def renC (k n : Nat) : Cell → Cell
 | .p i u sz a o => .p (ren k n i) u sz a o
 | .gs i u => .gs (ren k n i) u
 | .sl i u sz o m => .sl (ren k n i) u sz o m
 | .cl F m f=>if(Cell.cl F m f).clos then .cl F m f else .any
 | c=>c
def V3 (k n : Nat) : V → V
 | .c x => .c (renC k n x)
 | .g l => .g (l.map (renC k n))
 | .t2 a b => .t2 (V3 k n a) (V3 k n b)
 | .t3 a b d => .t3 (V3 k n a) (V3 k n b) (V3 k n d)
 | .t4 a b d e => .t4 (V3 k n a) (V3 k n b) (V3 k n d) (V3 k n e)
 | .un => .un
def Blk.plain (B:Blk):Prop:=B.st<=1->∀ i j,i<B.n->j<B.sz->(B.f i j).clos=true
theorem ren_get {ρ ρf:List Loc} {k i:Nat} {l' l:Loc} (hk:k<ρ.length) (h:(l' :: ρf)[i]? = some l):(ρ.set k l'++ρf)[ren k ρ.length i]? = some l:=by
 cases i with
 | zero =>
  simp at h;subst h;simp only[ren];rw[List.getElem?_append_left (by simpa using hk),List.getElem?_set_self hk]
 | succ i =>
  simp only[ren];rw[List.getElem?_append_right (by simp)];simpa using h
theorem CRel.ren {D:Nat->Prop} {w:World} {ρ ρf:List Loc} {k:Nat} {l':Loc} (hk:k<ρ.length) {c:Cell} {v:Value} (h:CRel D w (l' :: ρf) c v):CRel D w (ρ.set k l'++ρf) (renC k ρ.length c) v:=by
 cases c with
 | p | gs | sl=>obtain⟨l,h1,h2⟩:=h;exact⟨l,ren_get hk h1,h2⟩
 | cl F m f =>
  simp only[renC];split
  ·rename_i hc;exact CRel.clos h hc
  ·trivial
 | _=>exact h
theorem CRels.ren {D : Nat → Prop} {w : World} {ρ ρf : List Loc} {k : Nat} {l' : Loc} (hk : k < ρ.length) : ∀ {l : List Cell} {vs : List Value}, CRels D w (l' :: ρf) l vs → CRels D w (ρ.set k l' ++ ρf) (l.map (renC k ρ.length)) vs
 | [],[],_=>trivial
 | _ :: _,_ :: _,h=>⟨CRel.ren hk h.1,CRels.ren hk h.2⟩
 | [],_ :: _,h=>h.elim
 | _ :: _,[],h=>h.elim
theorem VRel.ren {D : Nat → Prop} {w : World} {ρ ρf : List Loc} {k : Nat} {l' : Loc} (hk : k < ρ.length) : ∀ {x : V} {v : Value}, VRel D w (l' :: ρf) x v → VRel D w (ρ.set k l' ++ ρf) (V3 k ρ.length x) v
 | .c _,_,h=>CRel.ren hk h
 | .g _,_,h=>by obtain⟨vs,h1,h2⟩:=h;exact⟨vs,h1,CRels.ren hk h2⟩
 | .t2 _ _,_,h=>by obtain⟨x,y,h1,h2,h3⟩:=h;exact⟨x,y,h1,VRel.ren hk h2,VRel.ren hk h3⟩
 | .t3 _ _ _,_,h=>by obtain⟨x,y,z,h1,h2,h3,h4⟩:=h;exact⟨x,y,z,h1,VRel.ren hk h2,VRel.ren hk h3,VRel.ren hk h4⟩
 | .t4 _ _ _ _,_,h=>by obtain⟨x,y,z,u,h1,h2,h3,h4,h5⟩:=h;exact⟨x,y,z,u,h1,VRel.ren hk h2,VRel.ren hk h3,VRel.ren hk h4,VRel.ren hk h5⟩
 | .un,_,h=>h
theorem CRel.ren0 {D:Nat->Prop} {w:World} {ρ:List Loc} {k n:Nat} {l':Loc} (hk:k<ρ.length) {c:Cell} {v:Value} (h:CRel D w [l'] c v):CRel D w (ρ.set k l') (renC k n c) v:=by
 have key:∀ {i:Nat} {l:Loc},[l'][i]? = some l->(ρ.set k l')[Go.Proofs.YtkmbnldginonbaaGreat.ren k n i]? = some l:=by
  intro i l h;cases i with
  | zero=>simp at h;subst h;simp only[Go.Proofs.YtkmbnldginonbaaGreat.ren];exact List.getElem?_set_self hk
  | succ i=>simp at h
 cases c with
 | p | gs | sl=>obtain⟨l,h1,h2⟩:=h;exact⟨l,key h1,h2⟩
 | cl F m f =>
  simp only[renC];split
  ·rename_i hc;exact CRel.clos h hc
  ·trivial
 | _=>exact h
theorem CRels.ren0 {D : Nat → Prop} {w : World} {ρ : List Loc} {k n : Nat} {l' : Loc} (hk : k < ρ.length) : ∀ {l : List Cell} {vs : List Value}, CRels D w [l'] l vs → CRels D w (ρ.set k l') (l.map (renC k n)) vs
 | [],[],_=>trivial
 | _ :: _,_ :: _,h=>⟨CRel.ren0 hk h.1,CRels.ren0 hk h.2⟩
 | [],_ :: _,h=>h.elim
 | _ :: _,[],h=>h.elim
theorem VRel.ren0 {D : Nat → Prop} {w : World} {ρ : List Loc} {k n : Nat} {l' : Loc} (hk : k < ρ.length) : ∀ {x : V} {v : Value}, VRel D w [l'] x v → VRel D w (ρ.set k l') (V3 k n x) v
 | .c _,_,h=>CRel.ren0 hk h
 | .g _,_,h=>by obtain⟨vs,h1,h2⟩:=h;exact⟨vs,h1,CRels.ren0 hk h2⟩
 | .t2 _ _,_,h=>by obtain⟨x,y,h1,h2,h3⟩:=h;exact⟨x,y,h1,VRel.ren0 hk h2,VRel.ren0 hk h3⟩
 | .t3 _ _ _,_,h=>by obtain⟨x,y,z,h1,h2,h3,h4⟩:=h;exact⟨x,y,z,h1,VRel.ren0 hk h2,VRel.ren0 hk h3,VRel.ren0 hk h4⟩
 | .t4 _ _ _ _,_,h=>by obtain⟨x,y,z,u,h1,h2,h3,h4,h5⟩:=h;exact⟨x,y,z,u,h1,VRel.ren0 hk h2,VRel.ren0 hk h3,VRel.ren0 hk h4,VRel.ren0 hk h5⟩
 | .un,_,h=>h
def Cell.fst : Cell → Bool
 | .p i .. | .gs i _ | .sl i .. => i == 0
 | .cl F m f=>(Cell.cl F m f).clos
 | _=>true
def V.fst : V → Bool
 | .c x=>x.fst
 | .g l=>l.all Cell.fst
 | _=>false
theorem CRel.unren {D:Nat->Prop} {w:World} {ρ:List Loc} {k n:Nat} {l:Loc} (hk:ρ[k]? = some l) {c:Cell} {v:Value} (hc:c.fst=true) (h:CRel D w ρ (renC k n c) v):CRel D w [l] c v:=by
 cases c with
 | p i u sz a o=>simp only[Cell.fst,beq_iff_eq]at hc;subst hc;obtain⟨l1,h1,h2⟩:=h;rw[show Go.Proofs.YtkmbnldginonbaaGreat.ren k n 0=k from rfl,hk]at h1;cases h1;exact⟨l,rfl,h2⟩
 | gs i u=>simp only[Cell.fst,beq_iff_eq]at hc;subst hc;obtain⟨l1,h1,h2⟩:=h;rw[show Go.Proofs.YtkmbnldginonbaaGreat.ren k n 0=k from rfl,hk]at h1;cases h1;exact⟨l,rfl,h2⟩
 | sl i u sz o m=>simp only[Cell.fst,beq_iff_eq]at hc;subst hc;obtain⟨l1,h1,h2⟩:=h;rw[show Go.Proofs.YtkmbnldginonbaaGreat.ren k n 0=k from rfl,hk]at h1;cases h1;exact⟨l,rfl,h2⟩
 | cl F m f =>
  have hc:(Cell.cl F m f).clos=true:=hc;simp only[renC,if_pos hc]at h;exact CRel.clos h hc
 | _=>exact h
theorem CRels.unren {D : Nat → Prop} {w : World} {ρ : List Loc} {k n : Nat} {l : Loc} (hk : ρ[k]? = some l) : ∀ {cs : List Cell} {vs : List Value}, cs.all Cell.fst = true → CRels D w ρ (cs.map (renC k n)) vs → CRels D w [l] cs vs
 | [],[],_,_=>trivial
 | _ :: _,_ :: _,hc,h=>by
  simp only[List.all_cons,Bool.and_eq_true]at hc;exact⟨CRel.unren hk hc.1 h.1,CRels.unren hk hc.2 h.2⟩
 | [],_ :: _,_,h=>h.elim
 | _ :: _,[],_,h=>h.elim
theorem VRels.unren {D : Nat → Prop} {w : World} {ρ : List Loc} {k n : Nat} {l : Loc} (hk : ρ[k]? = some l) : ∀ {xs : List V} {vs : List Value}, xs.all V.fst = true → VRels D w ρ (xs.map (V3 k n)) vs → VRels D w [l] xs vs
 | [],[],_,_=>trivial
 | x :: _,_ :: _,hc,h=>by
  simp only[List.all_cons,Bool.and_eq_true]at hc;refine⟨?_,VRels.unren hk hc.2 h.2⟩;cases x with
  | c y=>exact CRel.unren hk hc.1 h.1
  | g l=>obtain⟨vs,h1,h2⟩:=h.1;exact⟨vs,h1,CRels.unren hk hc.1 h2⟩
  | t2 a b=>cases hc.1
  | t3 a b d=>cases hc.1
  | t4 a b d e=>cases hc.1
  | un=>cases hc.1
 | [],_ :: _,_,h=>h.elim
 | _ :: _,[],_,h=>h.elim
theorem VRels.step {D D' : Nat → Prop} {w : World} {ρ : List Loc} (hd : ∀ b, b < w.heap.size → D' b → D b) : ∀ {xs : List V} {vs : List Value}, VRels D w ρ xs vs → VRels D' w ρ xs vs
 | [],[],_=>trivial
 | _ :: _,_ :: _,h=>⟨h.1.step (Ext.refl _ _) hd (LocsLe.refl _),VRels.step hd h.2⟩
 | [],_ :: _,h=>h.elim
 | _ :: _,[],h=>h.elim
section
variable {D0:Nat->Prop} {w0:Base} {w:World} {r:Bool} {ρ:List Loc} {bl:List Blk}
def kW (l:Loc) (B:Blk) (b:Nat):Prop:=B.st=0/\l.b=some b
theorem handed_dof {k:Nat} {l:Loc} {B:Blk} (h1:ρ[k]? = some l) (h2:bl[k]? = some B) {b:Nat} (h:kW l B b):Dof D0 ρ bl b := .inr ⟨k,l,B,h1,h2,h.1,h.2⟩
theorem Sat.hand (h : Sat D0 w0 r ρ bl w) {k : Nat} {l : Loc} {B : Blk} (h1 : ρ[k]? = some l) (h2 : bl[k]? = some B) (h3 : B.st = 0 ∨ 2 ≤ B.st) (hp : B.plain) :
  Sat (fun b=>Dof D0 ρ bl b/\¬ kW l B b) ⟨w,kW l B⟩ r [l] [B] w/\∀ b,Dof (fun b=>Dof D0 ρ bl b/\¬ kW l B b) [l] [B] b->Dof D0 ρ bl b:=by
 have one:∀ {α:Type} {x y:α} {i:Nat},[x][i]? = some y->i=0/\y=x:=by
  intro α x y i h;cases i with
  | zero=>simp at h;exact⟨rfl,h.symm⟩
  | succ i=>simp at h
 have hD:∀ b,Dof (fun b=>Dof D0 ρ bl b/\¬ kW l B b) [l] [B] b->Dof D0 ρ bl b:=by
  rintro b (hx | ⟨i,l1,B1,e1,e2,e3,e4⟩)
  ·exact hx.1
  ·obtain⟨_,rfl⟩:=one e1;obtain⟨_,rfl⟩:=one e2;exact .inr ⟨k,_,_,h1,h2,e3,e4⟩
 refine⟨⟨⟨rfl,rfl,rfl,Nat.le_refl _,fun _ _ _=>rfl⟩,fun b hb=>⟨h.lt hb.1,hb.2⟩,rfl,?_,?_,fun hr b o d hb=>h.noU hr b o d (hD b hb)⟩,hD⟩
 ·intro i l1 B1 e1 e2 hst;obtain⟨_,rfl⟩:=one e1;obtain⟨_,rfl⟩:=one e2;obtain⟨g0,g1⟩:=(h.at_ k _ _ h1 h2).step (Ext.refl _ _) (fun b _ hb=>hD b hb) (LocsLe.refl _) (fun _ _=>rfl) hst;refine⟨g0,?_⟩;rcases g1 with g1 | ⟨b,cap,cs,g2,g3,g4,g5,g6,g7,g8,g9⟩
  ·exact .inl g1
  ·refine .inr ⟨b,cap,cs,g2,.inr ⟨by omega,g2⟩,g4,g5,g6,g7,g8,fun i j hi hj=>?_⟩;obtain⟨u,hu,hr⟩:=g9 i j hi hj;exact⟨u,hu,CRel.clos hr (hp hst i j hi hj)⟩
 ·intro i j li lj Bi Bj b e1 e2;have a1:=(one e1).1;have a2:=(one e2).1
  intros;omega
theorem Sat.old (h:Sat D0 w0 r ρ bl w) {k:Nat} {l:Loc} {B:Blk} {b:Nat} (e1:ρ[k]? = some l) (e2:bl[k]? = some B) (e3:B.st<=1) (e4:l.b=some b):b<w.heap.size:=by
 rcases(h.at_ k l B e1 e2 e3).2 with⟨_,h5,_⟩ | ⟨b',cap',cs',h5,_,_,h6,_⟩
 ·rw[h5]at e4;cases e4
 ·rw[h5]at e4;cases e4;exact yB h6
theorem Sat.back (h : Sat D0 w0 r ρ bl w) {k : Nat} {l l' : Loc} {B B' : Blk} {ρf : List Loc} {fresh : List Blk} {w' : World} (h1 : ρ[k]? = some l) (h2 : bl[k]? = some B) (hle : LocsLe [l] [l']) (hp' : B'.plain) (hpf : ∀ F ∈ fresh, F.plain)
  (hs:Sat (fun b=>Dof D0 ρ bl b/\¬ kW l B b) ⟨w,kW l B⟩ r (l' :: ρf) (B' :: fresh) w') :
  Sat D0 w0 r (ρ.set k l'++ρf) (bl.set k B'++fresh) w'/\Ext (Dof D0 ρ bl) w w'/\(∀ b,b<w.heap.size->Dof D0 (ρ.set k l'++ρf) (bl.set k B'++fresh) b->Dof D0 ρ bl b)/\LocsLe ρ (ρ.set k l'++ρf)/\∀ b,Dof D0 (ρ.set k l'++ρf) (bl.set k B'++fresh) b->Dof (fun b=>Dof D0 ρ bl b/\¬ kW l B b) (l' :: ρf) (B' :: fresh) b:=by
 have hk:k<ρ.length:=(List.getElem?_eq_some_iff.1 h1).1;have hkb:k<bl.length:=(List.getElem?_eq_some_iff.1 h2).1;have hlen:=h.len;have hlf:ρf.length=fresh.length:=by have:=hs.len;simpa using this
 have get:∀(j:Nat) (lj:Loc) (Bj:Blk),(ρ.set k l'++ρf)[j]? = some lj->(bl.set k B'++fresh)[j]? = some Bj->(j<ρ.length/\j≠k/\ρ[j]? = some lj/\bl[j]? = some Bj)∨∃ i,j=ren k ρ.length i/\(l' :: ρf)[i]? = some lj/\(B' :: fresh)[i]? = some Bj:=by
  intro j lj Bj e1 e2;rcases Nat.lt_or_ge j ρ.length with hj | hj
  ·rw[List.getElem?_append_left (by simpa using hj)]at e1;rw[List.getElem?_append_left (by simp;omega)]at e2;by_cases e:j=k
   ·subst e;rw[List.getElem?_set_self hk]at e1;rw[List.getElem?_set_self hkb]at e2;exact .inr ⟨0,rfl,by simpa using e1,by simpa using e2⟩
   ·rw[List.getElem?_set_ne (fun h=>e h.symm)]at e1 e2;exact .inl ⟨hj,e,e1,e2⟩
  ·rw[List.getElem?_append_right (by simpa using hj)]at e1;rw[List.getElem?_append_right (by simp;omega)]at e2;refine .inr ⟨j-ρ.length+1,by simp only[ren];omega,by simpa using e1,?_⟩;simp only[List.length_set]at e2;rw[<- hlen]at e2;simpa using e2
 have notH:∀(j:Nat) (lj:Loc) (Bj:Blk) (b:Nat),j≠k->ρ[j]? = some lj->bl[j]? = some Bj->Bj.st<=1->lj.b=some b->¬ kW l B b:=by
  intro j lj Bj b hj e1 e2 e3 e4 hh;exact hj (h.dist j k lj l Bj B b e1 h1 e2 h2 e3 (by have:=hh.1;omega) e4 hh.2)
 have notD0:∀ b,D0 b->¬ kW l B b:=by
  intro b hb hh;have e1:=h.d0 b hb;rcases h.own h1 h2 (by have:=hh.1;omega) hh.2 with e2 | e2
  ·omega
  ·exact e1.2 e2
 have hE:Ext (Dof D0 ρ bl) w w':=⟨hs.below.size,fun b hb hd=>hs.below.block b hb fun hh=>hd (handed_dof h1 h2 hh)⟩;have hD':∀ b,Dof D0 (ρ.set k l'++ρf) (bl.set k B'++fresh) b->Dof (fun b=>Dof D0 ρ bl b/\¬ kW l B b) (l' :: ρf) (B' :: fresh) b:=by
  rintro b (hx | ⟨j,lj,Bj,e1,e2,e3,e4⟩)
  ·exact .inl ⟨.inl hx,notD0 b hx⟩
  ·rcases get j lj Bj e1 e2 with⟨_,hjk,g1,g2⟩ | ⟨i,_,g1,g2⟩
   ·exact .inl ⟨.inr ⟨j,lj,Bj,g1,g2,e3,e4⟩,notH j lj Bj b hjk g1 g2 (by omega) e4⟩
   ·exact .inr ⟨i,lj,Bj,g1,g2,e3,e4⟩
 have hD:∀ b,b<w.heap.size->Dof D0 (ρ.set k l'++ρf) (bl.set k B'++fresh) b->Dof D0 ρ bl b:=by
  intro b hb hx;rcases hD' b hx with h5 | ⟨i,li,Bi,e1,e2,e3,e4⟩
  ·exact h5.1
  ·rcases hs.own e1 e2 (by omega) e4 with e5 | e5
   ·have e5:w.heap.size<=b:=e5;omega
   ·exact handed_dof h1 h2 e5
 have hlo:LocsLe ρ (ρ.set k l'++ρf):=by
  intro j lj e1;by_cases e:j=k
  ·subst e;rw[h1]at e1;cases e1;obtain⟨l2,q1,q2,q3⟩:=hle 0 l rfl;have q1:l2=l':=by simpa using q1.symm
   subst q1;exact⟨l2,by rw[List.getElem?_append_left (by simpa using hk),List.getElem?_set_self hk],q2,q3⟩
  ·exact⟨lj,by rw[List.getElem?_append_left (by simpa using (List.getElem?_eq_some_iff.1 e1).1),List.getElem?_set_ne (fun h=>e h.symm)];exact e1,fun _=>rfl,Nat.le_refl _⟩
 have mine:∀ b,Base.mine ⟨w,kW l B⟩ b->w0.mine b:=by
  intro b hb;rcases hb with hb | hb
  ·exact .inl (Nat.le_trans h.below.size hb)
  ·exact h.own h1 h2 (by have:=hb.1;omega) hb.2
 refine⟨⟨⟨hs.below.os.trans h.below.os,hs.below.tape.trans h.below.tape,hs.below.output.trans h.below.output,Nat.le_trans h.below.size hs.below.size,fun b hb hm=>?_⟩,h.d0,by simp[hlen,hlf],?_,?_,fun hr b o d hb=>hs.noU hr b o d (hD' b hb)⟩,hE,hD,hlo,hD'⟩
 ·refine(hs.below.block b (Nat.lt_of_lt_of_le hb h.below.size) fun hh=>?_).trans (h.below.block b hb hm);rcases h.own h1 h2 (by have:=hh.1;omega) hh.2 with e5 | e5
  ·omega
  ·exact hm e5
 ·intro j lj Bj e1 e2 hst;rcases get j lj Bj e1 e2 with⟨_,hjk,g1,g2⟩ | ⟨i,_,g1,g2⟩
  ·exact(h.at_ j lj Bj g1 g2).step hE hD hlo (fun b e=>hs.below.block b (h.old g1 g2 hst e) (notH j lj Bj b hjk g1 g2 hst e)) hst
  ·obtain⟨q0,q1⟩:=hs.at_ i lj Bj g1 g2 hst;refine⟨q0,?_⟩;rcases q1 with q1 | ⟨b,cap,cs,q2,q3,q4,q5,q6,q7,q8,q9⟩
   ·exact .inl q1
   ·refine .inr ⟨b,cap,cs,q2,mine b q3,q4,q5,q6,q7,q8,fun x y hx hy=>?_⟩;obtain⟨u,hu,hur⟩:=q9 x y hx hy;have hpl:Bj.plain:=by
     cases i with
     | zero=>simp at g2;subst g2;exact hp'
     | succ i=>exact hpf Bj (List.mem_of_getElem? (by simpa using g2))
    exact⟨u,hu,(CRel.clos hur (hpl hst x y hx hy)).step (Ext.refl _ _) (fun b _ hb=>hD' b hb) (LocsLe.refl _)⟩
 ·intro i j li lj Bi Bj b e1 e2 e3 e4 e5 e6 e7 e8;rcases get i li Bi e1 e3 with⟨_,hik,g1,g2⟩ | ⟨i',rfl,g1,g2⟩ <;> rcases get j lj Bj e2 e4 with⟨_,hjk,g3,g4⟩ | ⟨j',rfl,g3,g4⟩
  ·exact h.dist i j li lj Bi Bj b g1 g3 g2 g4 e5 e6 e7 e8
  ·exfalso;rcases hs.own g3 g4 e6 e8 with q | q
   ·have q:w.heap.size<=b:=q;have:=h.old g1 g2 e5 e7;omega
   ·exact notH i li Bi b hik g1 g2 e5 e7 q
  ·exfalso;rcases hs.own g1 g2 e5 e7 with q | q
   ·have q:w.heap.size<=b:=q;have:=h.old g3 g4 e6 e8;omega
   ·exact notH j lj Bj b hjk g3 g4 e6 e8 q
  ·rw[hs.dist i' j' li lj Bi Bj b g1 g3 g2 g4 e5 e6 e7 e8]
theorem Sat.backS (h : Sat D0 w0 r ρ bl w) {fr : Nat} {l0 lf : Loc} {Bd F : Blk} {w' : World} (h1 : ρ[fr]? = some l0) (hu0 : l0.u = 0) (h2 : bl[fr]? = some Bd) (hF : F.st = 0) (hp : F.plain)
  (hs:Sat (Dof D0 ρ bl) ⟨w,fun _=>False⟩ r [lf] [F] w') :
  Sat D0 w0 r (ρ.set fr { lf with u:=1 }) (bl.set fr { F with u:=1 }) w'/\Ext (Dof D0 ρ bl) w w'/\(∀ b,b<w.heap.size->Dof D0 (ρ.set fr { lf with u:=1 }) (bl.set fr { F with u:=1 }) b->Dof D0 ρ bl b)/\LocsLe ρ (ρ.set fr { lf with u:=1 })/\∀ b,Dof D0 (ρ.set fr { lf with u:=1 }) (bl.set fr { F with u:=1 }) b->Dof (Dof D0 ρ bl) [lf] [F] b:=by
 have hk:fr<ρ.length:=(List.getElem?_eq_some_iff.1 h1).1;have hkb:fr<bl.length:=(List.getElem?_eq_some_iff.1 h2).1;have get:∀(j:Nat) (lj:Loc) (Bj:Blk),(ρ.set fr { lf with u:=1 })[j]? = some lj->(bl.set fr { F with u:=1 })[j]? = some Bj->(j≠fr/\ρ[j]? = some lj/\bl[j]? = some Bj)∨(j=fr/\lj={ lf with u:=1 }/\Bj={ F with u:=1 }):=by
  intro j lj Bj e1 e2;by_cases e:j=fr
  ·subst e;rw[List.getElem?_set_self hk]at e1;rw[List.getElem?_set_self hkb]at e2;cases e1;cases e2;exact .inr ⟨rfl,rfl,rfl⟩
  ·rw[List.getElem?_set_ne (fun h=>e h.symm)]at e1 e2;exact .inl ⟨e,e1,e2⟩
 have hE:Ext (Dof D0 ρ bl) w w':=⟨hs.below.size,fun b hb _=>hs.below.block b hb id⟩;have newb:∀ b,lf.b=some b->w.heap.size<=b:=by
  intro b hb;rcases hs.own (k:=0) (l:=lf) (B:=F) rfl rfl (by omega) hb with e | e
  ·exact e
  ·exact e.elim
 have hD':∀ b,Dof D0 (ρ.set fr { lf with u:=1 }) (bl.set fr { F with u:=1 }) b->Dof (Dof D0 ρ bl) [lf] [F] b:=by
  rintro b (hx | ⟨j,lj,Bj,e1,e2,e3,e4⟩)
  ·exact .inl (.inl hx)
  ·rcases get j lj Bj e1 e2 with⟨_,g1,g2⟩ | ⟨_,rfl,rfl⟩
   ·exact .inl (.inr ⟨j,lj,Bj,g1,g2,e3,e4⟩)
   ·exact .inr ⟨0,lf,F,rfl,rfl,hF,e4⟩
 have hD:∀ b,b<w.heap.size->Dof D0 (ρ.set fr { lf with u:=1 }) (bl.set fr { F with u:=1 }) b->Dof D0 ρ bl b:=by
  rintro b hb (hx | ⟨j,lj,Bj,e1,e2,e3,e4⟩)
  ·exact .inl hx
  ·rcases get j lj Bj e1 e2 with⟨_,g1,g2⟩ | ⟨_,rfl,rfl⟩
   ·exact .inr ⟨j,lj,Bj,g1,g2,e3,e4⟩
   ·have:=newb b e4;omega
 have hlo:LocsLe ρ (ρ.set fr { lf with u:=1 }):=by
  intro j lj e1;by_cases e:j=fr
  ·subst e;rw[h1]at e1;cases e1;exact⟨_,List.getElem?_set_self hk,fun e=>by simp at e;omega,by simp;omega⟩
  ·exact⟨lj,by rw[List.getElem?_set_ne (fun h=>e h.symm)];exact e1,fun _=>rfl,Nat.le_refl _⟩
 refine⟨⟨⟨hs.below.os.trans h.below.os,hs.below.tape.trans h.below.tape,hs.below.output.trans h.below.output,Nat.le_trans h.below.size hs.below.size,fun b hb hm=>(hs.below.block b (Nat.lt_of_lt_of_le hb h.below.size) id).trans (h.below.block b hb hm)⟩,h.d0,by simp[h.len],?_,?_,fun hr b o d hb=>hs.noU hr b o d (hD' b hb)⟩,hE,hD,hlo,hD'⟩
 ·intro j lj Bj e1 e2 hst;rcases get j lj Bj e1 e2 with⟨_,g1,g2⟩ | ⟨_,rfl,rfl⟩
  ·exact(h.at_ j lj Bj g1 g2).step hE hD hlo (fun b e=>hs.below.block b (h.old g1 g2 hst e) id) hst
  ·obtain⟨q0,q1⟩:=hs.at_ 0 lf F rfl rfl (by omega);refine⟨rfl,?_⟩;rcases q1 with q1 | ⟨b,cap,cs,q2,q3,q4,q5,q6,q7,q8,q9⟩
   ·exact .inl q1
   ·refine .inr ⟨b,cap,cs,q2,.inl (Nat.le_trans h.below.size (newb b q2)),q4,q5,q6,q7,q8,fun x y hx hy=>?_⟩;obtain⟨u,hu,hur⟩:=q9 x y hx hy;exact⟨u,hu,(CRel.clos hur (hp (by omega) x y hx hy)).step (Ext.refl _ _) (fun b _ hb=>hD' b hb) (LocsLe.refl _)⟩
 ·intro i j li lj Bi Bj b e1 e2 e3 e4 e5 e6 e7 e8;rcases get i li Bi e1 e3 with⟨_,g1,g2⟩ | ⟨hi,rfl,rfl⟩ <;> rcases get j lj Bj e2 e4 with⟨_,g3,g4⟩ | ⟨hj,rfl,rfl⟩
  ·exact h.dist i j li lj Bi Bj b g1 g3 g2 g4 e5 e6 e7 e8
  ·have q:=newb b e8;have:=h.old g1 g2 e5 e7;omega
  ·have q:=newb b e7;have:=h.old g3 g4 e6 e8;omega
  ·rw[hi,hj]
def renG (fr : Nat) : Cell → Cell
 | .p i u sz a o=>match i,u with
  | 0,0 => .p fr 1 sz a o
  | _,_ => .any
 | .gs i u=>match i,u with
  | 0,0 => .gs fr 1
  | _,_ => .any
 | .sl i u sz o m=>match i,u with
  | 0,0 => .sl fr 1 sz o m
  | _,_ => .any
 | .cl F m f=>if(Cell.cl F m f).clos then .cl F m f else .any
 | c=>c
def V6 (fr : Nat) : V → V
 | .c x => .c (renG fr x)
 | .g l => .g (l.map (renG fr))
 | .t2 a b => .t2 (V6 fr a) (V6 fr b)
 | .t3 a b d => .t3 (V6 fr a) (V6 fr b) (V6 fr d)
 | .t4 a b d e => .t4 (V6 fr a) (V6 fr b) (V6 fr d) (V6 fr e)
 | .un => .un
theorem renG_rel {D:Nat->Prop} {ρ1:List Loc} {fr:Nat} {lf:Loc} (hk:fr<ρ1.length) (hu:lf.u=0) {c:Cell} {v:Value} (h:CRel D w [lf] c v):CRel D w (ρ1.set fr { lf with u:=1 }) (renG fr c) v:=by
 cases c with
 | p i u sz a o =>
  simp only[renG];split
  ·obtain⟨l,h1,h2,h3⟩:=h;have h1:lf=l:=by simpa using h1
   subst h1;exact⟨_,List.getElem?_set_self hk,Nat.le_refl _,fun _=>h3 hu⟩
  ·trivial
 | gs i u =>
  simp only[renG];split
  ·obtain⟨l,h1,h2,h3⟩:=h;have h1:lf=l:=by simpa using h1
   subst h1;exact⟨_,List.getElem?_set_self hk,Nat.le_refl _,fun _=>h3 hu⟩
  ·trivial
 | sl i u sz o m =>
  simp only[renG];split
  ·obtain⟨l,h1,h2,h3⟩:=h;have h1:lf=l:=by simpa using h1
   subst h1;exact⟨_,List.getElem?_set_self hk,Nat.le_refl _,fun _=>h3 hu⟩
  ·trivial
 | cl F m f =>
  simp only[renG];split
  ·rename_i hc;exact CRel.clos h hc
  ·trivial
 | _=>exact h
theorem renGs_rel {D : Nat → Prop} {ρ1 : List Loc} {fr : Nat} {lf : Loc} (hk : fr < ρ1.length) (hu : lf.u = 0) : ∀ {cs : List Cell} {vs : List Value}, CRels D w [lf] cs vs → CRels D w (ρ1.set fr { lf with u := 1 }) (cs.map (renG fr)) vs
 | [],[],_=>trivial
 | _ :: _,_ :: _,h=>⟨renG_rel hk hu h.1,renGs_rel hk hu h.2⟩
 | [],_ :: _,h=>h.elim
 | _ :: _,[],h=>h.elim
theorem kj {D : Nat → Prop} {ρ1 : List Loc} {fr : Nat} {lf : Loc} (hk : fr < ρ1.length) (hu : lf.u = 0) : ∀ {x : V} {v : Value}, VRel D w [lf] x v → VRel D w (ρ1.set fr { lf with u := 1 }) (V6 fr x) v
 | .c _,_,h=>renG_rel hk hu h
 | .g _,_,h=>by obtain⟨vs,h1,h2⟩:=h;exact⟨vs,h1,renGs_rel hk hu h2⟩
 | .t2 _ _,_,h=>by obtain⟨x,y,h1,h2,h3⟩:=h;exact⟨x,y,h1,kj hk hu h2,kj hk hu h3⟩
 | .t3 _ _ _,_,h=>by obtain⟨x,y,z,h1,h2,h3,h4⟩:=h;exact⟨x,y,z,h1,kj hk hu h2,kj hk hu h3,kj hk hu h4⟩
 | .t4 _ _ _ _,_,h=>by obtain⟨x,y,z,u,h1,h2,h3,h4,h5⟩:=h;exact⟨x,y,z,u,h1,kj hk hu h2,kj hk hu h3,kj hk hu h4,kj hk hu h5⟩
 | .un,_,h=>h
end
theorem callM_core {E : Env} {C : Ctx} {σ : St} {a : Act} {w : World} {o : Oper} {g : Operand} {args : Array Operand} {ts : Array TypeId} {f : FuncId} (hx : o.op = .call { callee := .value g, args, argTypes := ts }) (hg : kg σ g = some f) (hr : Rel C σ a w)
  {k:Nat} {B B':Blk} {as:List V} {X:V} {fresh:List Blk} (hM:FnM E.P C.r f B as X B' fresh) (h2:σ.bl[k]? = some B) (h3:B.st=0∨2<=B.st) (hp:B.plain) (hp':B'.plain) (hpf:∀ F∈fresh,F.plain) (hfst:as.all V.fst=true)
  (hvs:(args.toList.map fun x=>St.close σ.bl (σ.ev x))=as.map (V3 k σ.bl.length)) (hd:yX C.N o.dst) {next:Act->World->Prop} {Q:Exit->Act->World->Prop}
  (hn:∀ a' w',Rel C (St.put ⟨σ.tm,σ.bl.set k B'++fresh⟩ o.dst (V3 k σ.bl.length X)) a' w'->next a' w'):o.wp E.P a w next Q:=by
 obtain⟨ρ,hs,hN,hdf,hf⟩:=hr;have hlen:=hs.len;obtain⟨l,h1⟩:∃ l,ρ[k]? = some l:=⟨_,List.getElem?_eq_getElem (by rw[hlen];exact(List.getElem?_eq_some_iff.1 h2).1)⟩;have hk:k<ρ.length:=(List.getElem?_eq_some_iff.1 h1).1;obtain⟨s1,s2⟩:=hs.hand h1 h2 h3 hp;have hg':=V8 hg (kX hf g);unfold Oper.wp;rw[WP hx hg' hM.1,Oper.upon_enter];have hv:VRels (Dof C.D0 ρ σ.bl) w ρ (args.toList.map fun x=>St.close σ.bl (σ.ev x)) (args.toList.map a.eval) :=
  VRels.map args.toList fun x _=>wP hs (kX hf x)
 rw[hvs]at hv;have hv2:=VRels.step (D':=Dof (fun b=>Dof C.D0 ρ σ.bl b/\¬ kW l B b) [l] [B]) (fun b _ hb=>s2 b hb) (VRels.unren h1 hfst hv);have:=hM.2 _ _ l w _ s1 hv2;rw[show(args.toList.map a.eval).toArray=args.map a.eval by rw[<- Array.toList_map,Array.toArray_toList]]at this;refine this.mono ?_;rintro e w' ⟨v,l',ρf,rfl,q1,q2,q3⟩;obtain⟨b1,b2,b3,b4,b5⟩:=hs.back h1 h2 q2 hp' hpf q1;refine hn _ w' (Rel.put (σ:=⟨σ.tm,σ.bl.set k B'++fresh⟩) b1 ⟨hN.1,hN.2.trans b4⟩ hdf (yY b2 b3 b4 hf) hd ?_);rw[<- hlen];exact(VRel.ren hk q3).step (Ext.refl _ _) (fun b _ hb=>b5 b hb) (LocsLe.refl _)
end Go.Proofs.YtkmbnldginonbaaGreat
namespace Go.Proofs.YtkmbnldginonbaaGreat
open Go.RowKit
def Grown (w w':World) (l l':Loc) (t sz n':Nat) (D:Nat->Prop) (ρ:List Loc) (r:Bool) (f':Nat->Nat->Cell):Prop :=
 (n'=0/\l'=⟨l.u+1,none,0,0⟩)∨∃(g cap':Nat) (cs':Array Value),l'=⟨l.u+1,some g,n',cap'⟩/\(l.b=some g∨w.heap.size<=g)/\w'.heap[g]? = some (.cells cs' t (0,0))/\cs'.size=cap'*sz/\n'<=cap'/\cap'<=maxLen /\
  (∀ i j,i<n'->j<sz->∃ u,cs'[i*sz+j]? = some u/\CRel D w ρ (f' i j) u)/\(r=true->∀(i:Nat) (d:Int),cs'[i]? ≠ some (.int .u32 d))
theorem Sat.bump {D0 : Nat → Prop} {w0 : Base} {w w' : World} {r : Bool} {ρ : List Loc} {bl : List Blk} (h : Sat D0 w0 r ρ bl w) {k n' : Nat} {l l' : Loc} {B : Blk} {f' : Nat → Nat → Cell} (h1 : ρ[k]? = some l) (h2 : bl[k]? = some B) (h3 : B.st = 0)
  (hg:Grown w w' l l' B.t B.sz n' (Dof D0 ρ bl) ρ r f') (ho:∀ x,x<w.heap.size->l.b≠some x->w'.heap[x]? = w.heap[x]?) (hw:w.heap.size<=w'.heap.size) (hos:w'.os=w.os) (htp:w'.tape=w.tape) (hout:w'.output=w.output) :
  Sat D0 w0 r (ρ.set k l') (bl.set k ⟨B.t,B.sz,n',B.u+1,0,f'⟩) w'/\Ext (Dof D0 ρ bl) w w'/\(∀ x,x<w.heap.size->Dof D0 (ρ.set k l') (bl.set k ⟨B.t,B.sz,n',B.u+1,0,f'⟩) x->Dof D0 ρ bl x)/\LocsLe ρ (ρ.set k l'):=by
 have hk:k<ρ.length:=(List.getElem?_eq_some_iff.1 h1).1;have hkb:k<bl.length:=(List.getElem?_eq_some_iff.1 h2).1;have hlu:l'.u=l.u+1:=by
  rcases hg with⟨_,e⟩ | ⟨g,cap',cs',e,_⟩ <;> rw[e]
 have hDl:∀ b,l.b=some b->Dof D0 ρ bl b:=fun b hb => .inr ⟨k,l,B,h1,h2,h3,hb⟩;have hE:Ext (Dof D0 ρ bl) w w':=⟨hw,fun x hx hd=>ho x hx fun e=>hd (hDl x e)⟩;have get:∀(j:Nat) (lj:Loc) (Bj:Blk),(ρ.set k l')[j]? = some lj->(bl.set k ⟨B.t,B.sz,n',B.u+1,0,f'⟩)[j]? = some Bj->(j≠k/\ρ[j]? = some lj/\bl[j]? = some Bj)∨(j=k/\lj=l'/\Bj=⟨B.t,B.sz,n',B.u+1,0,f'⟩):=by
  intro j lj Bj e1 e2;by_cases e:j=k
  ·subst e;rw[List.getElem?_set_self hk]at e1;rw[List.getElem?_set_self hkb]at e2;cases e1;cases e2;exact .inr ⟨rfl,rfl,rfl⟩
  ·rw[List.getElem?_set_ne (fun h=>e h.symm)]at e1 e2;exact .inl ⟨e,e1,e2⟩
 have newb:∀ b,l'.b=some b->l.b=some b∨w.heap.size<=b:=by
  intro b hb;rcases hg with⟨_,e⟩ | ⟨g,cap',cs',e,e1,_⟩
  ·rw[e]at hb;cases hb
  ·rw[e]at hb;cases hb;exact e1
 have hD:∀ x,x<w.heap.size->Dof D0 (ρ.set k l') (bl.set k ⟨B.t,B.sz,n',B.u+1,0,f'⟩) x->Dof D0 ρ bl x:=by
  rintro x hx (hd | ⟨j,lj,Bj,e1,e2,e3,e4⟩)
  ·exact .inl hd
  ·rcases get j lj Bj e1 e2 with⟨_,g1,g2⟩ | ⟨_,rfl,rfl⟩
   ·exact .inr ⟨j,lj,Bj,g1,g2,e3,e4⟩
   ·rcases newb x e4 with e | e
    ·exact hDl x e
    ·omega
 have hle:LocsLe ρ (ρ.set k l'):=by
  intro j lj e1;by_cases e:j=k
  ·subst e;rw[h1]at e1;cases e1;exact⟨l',List.getElem?_set_self hk,fun e=>by omega,by omega⟩
  ·exact⟨lj,by rw[List.getElem?_set_ne (fun h=>e h.symm)];exact e1,fun _=>rfl,Nat.le_refl _⟩
 have notk:∀(j:Nat) (lj:Loc) (Bj:Blk) (b:Nat),j≠k->ρ[j]? = some lj->bl[j]? = some Bj->Bj.st<=1->lj.b=some b->l.b≠some b:=fun j lj Bj b hj e1 e2 e3 e4 e5 =>
  hj (h.dist j k lj l Bj B b e1 h1 e2 h2 e3 (by omega) e4 e5)
 refine⟨⟨⟨hos.trans h.below.os,htp.trans h.below.tape,hout.trans h.below.output,Nat.le_trans h.below.size hw,fun x hx hm=>?_⟩,h.d0,by simp[h.len],?_,?_,?_⟩,hE,hD,hle⟩
 ·refine(ho x (Nat.lt_of_lt_of_le hx h.below.size) fun e=>?_).trans (h.below.block x hx hm);rcases h.own h1 h2 (by omega) e with e5 | e5
  ·omega
  ·exact hm e5
 ·intro j lj Bj e1 e2 hst;rcases get j lj Bj e1 e2 with⟨hjk,g1,g2⟩ | ⟨rfl,rfl,rfl⟩
  ·exact(h.at_ j lj Bj g1 g2).step hE hD hle (fun b e=>ho b (h.old g1 g2 hst e) (notk j lj Bj b hjk g1 g2 hst e)) hst
  ·obtain⟨q0,_⟩:=h.at_ j l B h1 h2 (by omega);refine⟨by rw[hlu,q0],?_⟩;rcases hg with⟨e,e'⟩ | ⟨g,cap',cs',e,e3,e4,e5,e6,e7,e8,e9⟩
   ·exact .inl ⟨e,by rw[e'],by rw[e'];rfl⟩
   ·refine .inr ⟨g,cap',cs',by rw[e],?_,by rw[e];rfl,e4,e5,e6,e7,fun x y hx hy=>?_⟩
    ·rcases e3 with e3 | e3
     ·exact h.own h1 h2 (by omega) e3
     ·exact .inl (Nat.le_trans h.below.size e3)
    ·obtain⟨u,hu,hr⟩:=e8 x y hx hy;exact⟨u,hu,by simp only[if_true];exact hr.step hE hD hle⟩
 ·intro i j li lj Bi Bj b e1 e2 e3 e4 e5 e6 e7 e8;rcases get i li Bi e1 e3 with⟨hik,g1,g2⟩ | ⟨rfl,rfl,rfl⟩ <;> rcases get j lj Bj e2 e4 with⟨hjk,g3,g4⟩ | ⟨rfl,rfl,rfl⟩
  ·exact h.dist i j li lj Bi Bj b g1 g3 g2 g4 e5 e6 e7 e8
  ·exfalso;rcases newb b e8 with q | q
   ·exact notk i li Bi b hik g1 g2 e5 e7 q
   ·have:=h.old g1 g2 e5 e7;omega
  ·exfalso;rcases newb b e7 with q | q
   ·exact notk j lj Bj b hjk g3 g4 e6 e8 q
   ·have:=h.old g3 g4 e6 e8;omega
  ·rfl
 ·intro hr b o d hb;rcases hb with hb | ⟨j,lj,Bj,e1,e2,e3,e4⟩
  ·have hlt:=h.lt (Or.inl hb:Dof D0 ρ bl b);have hnl:l.b≠some b:=fun e=>by
    have q:=h.d0 b hb;rcases h.own h1 h2 (by omega) e with e5 | e5
    ·omega
    ·exact q.2 e5
   have:=h.noU hr b o d (.inl hb);simp only[World.cell?,ho b hlt hnl]at this ⊢
   exact this
  ·rcases get j lj Bj e1 e2 with⟨hjk,g1,g2⟩ | ⟨rfl,rfl,rfl⟩
   ·have hlt:=h.old g1 g2 (by omega) e4;have:=h.noU hr b o d (.inr ⟨j,lj,Bj,g1,g2,e3,e4⟩);simp only[World.cell?,ho b hlt (notk j lj Bj b hjk g1 g2 (by omega) e4)]at this ⊢
    exact this
   ·rcases hg with⟨_,e⟩ | ⟨g,cap',cs',e,e3,e4',e5,e6,e7,e8,e9⟩
    ·rw[e]at e4;cases e4
    ·rw[e]at e4;cases e4;simp only[World.cell?,e4',Option.isSome_none,Bool.false_eq_true,if_false];exact e9 hr o d
def zB (n:Nat) (f g:Nat->Nat->Cell) (i j:Nat):Cell:=if i<n then f i j else g (i-n) j
theorem append_like {P:Program} {T T' ty e e':TypeId} (h:P.underlying T=some (.slice e)) (h':P.underlying T'=some (.slice e')) (x y:Value) (w:World):(Builtin.append_ #[T,T'] ty #[x,y]).run P w=(Builtin.append_ #[T,T] ty #[x,y]).run P w:=by
 cases x <;> simp[Builtin.append_,run_underlying h,run_underlying h']
theorem VB {P : Program} {w : World} {t ty e : TypeId} {i : TypeInfo} (ht : P.underlying t = some (.slice e)) (hi : P.info? e = some i) (b : Option Addr) (n cap c : Nat) (A : Option Addr) (hn : n ≤ cap) :
  (Builtin.append_ #[t,t] ty #[.slice b n cap,.slice A 0 c]).run P w = .ok (.slice b n cap) w:=by
 cases A with
 | none=>cases b <;> simp[Builtin.append_,run_underlying ht,sizeOf,typeInfo,hi,Builtin.lenOf,Builtin.firstCells,hn,storeCells]
 | some a =>
  have hf:=run_firstCells_some (P:=P) w i.size 0 a 0 c [] (by simp) (fun j v h=>by simp at h);cases b <;> simp[Builtin.append_,run_underlying ht,sizeOf,typeInfo,hi,Builtin.lenOf,hf,hn,storeCells]
theorem idx_split {n m sz i j:Nat} (hi:i<n+m) (hj:j<sz):(i<n/\i*sz+j<n*sz)∨(n<=i/\i-n<m/\n*sz<=i*sz+j/\i*sz+j-n*sz=(i-n)*sz+j/\(i-n)*sz+j<m*sz):=by
 rcases Nat.lt_or_ge i n with h | h
 ·exact .inl ⟨h,vk h hj (Nat.le_refl _)⟩
 ·obtain⟨d,rfl⟩:=Nat.exists_eq_add_of_le h;have e:(n+d)*sz=n*sz+d*sz:=Nat.add_mul _ _ _;refine .inr ⟨h,by omega,by omega,by rw[e,Nat.add_sub_cancel_left];omega,?_⟩;rw[Nat.add_sub_cancel_left];exact vk (show d<m by omega) hj (Nat.le_refl _)
set_option maxHeartbeats 1000000 in
theorem append_run {P : Program} {D0 : Nat → Prop} {w0 : Base} {w : World} {r : Bool} {ρ : List Loc} {bl : List Blk} (h : Sat D0 w0 r ρ bl w) {k : Nat} {l : Loc} {B : Blk} (h1 : ρ[k]? = some l) (h2 : bl[k]? = some B) (h3 : B.st = 0)
  {t ty:TypeId} {i:TypeInfo} {z:Value} (ht:P.underlying t=some (.slice B.t)) (hi:P.info? B.t=some i) (hz:i.zero=some z) (hsz:i.size=B.sz) (hzs:z.cells.size=B.sz) (hzU:r=true->∀(x:Nat) (d:Int),z.cells[x]? ≠ some (.int .u32 d))
  {m c:Nat} {A:Option Addr} {news:List Value} (hl:news.length=m*B.sz) (hA:0<m->∃ a,A=some a/\∀ j u,news[j]? = some u->w.cell? (a.add j)=some u) (h1c:∀ u∈news,u.oneCell'=true) (hnU:r=true->∀(x:Nat) (d:Int),news[x]? ≠ some (.int .u32 d))
  (hmax:B.n+m<=maxLen) (hbytes:(B.n+m)*i.bytes<=140737488355328) {fy:Nat->Nat->Cell} (hfy:∀ a b,a<m->b<B.sz->∃ u,news[a*B.sz+b]? = some u/\CRel (Dof D0 ρ bl) w ρ (fy a b) u) :
  ∃ w' l',(Builtin.append_ #[t,t] ty #[l.v,.slice A m c]).run P w = .ok l'.v w'/\Grown w w' l l' B.t B.sz (B.n+m) (Dof D0 ρ bl) ρ r (zB B.n B.f fy)/\(∀ x,x<w.heap.size->l.b≠some x->w'.heap[x]? = w.heap[x]?)/\w.heap.size<=w'.heap.size/\w'.os=w.os/\w'.tape=w.tape/\w'.output=w.output:=by
 obtain⟨q0,q1⟩:=h.at_ k l B h1 h2 (by omega);have hm63:((B.n+m:Nat):Int)<=9223372036854775807:=by simp only[maxLen]at hmax;omega
 have zU:r=true->∀(n x:Nat) (d:Int),(Builtin.zeroCells z.cells n)[x]? ≠ some (.int .u32 d):=by
  intro hr n x d e;have hx:x<(Builtin.zeroCells z.cells n).size:=(Array.getElem?_eq_some_iff.1 e).1;rw[size_zeroCells]at hx;have hp:0<z.cells.size:=by
   rcases Nat.eq_zero_or_pos z.cells.size with e0 | e0
   ·rw[e0]at hx;simp at hx
   ·exact e0
  have hlt:x%z.cells.size<z.cells.size:=Nat.mod_lt _ hp;simp only[Builtin.zeroCells]at e;rw[Array.getElem?_map,Array.getElem?_range,if_pos (by simpa using hx)]at e;simp only[Option.map_some,Option.some.injEq]at e;rw[getElem!_pos z.cells _ hlt]at e;exact hzU hr (x%z.cells.size) d (by rw[Array.getElem?_eq_getElem hlt,e])
 rcases q1 with⟨n0,b0,v0⟩ | ⟨g,cap,cs,gb,gm,gv,gh,gs,gn,gc,gf⟩
 ·rcases Nat.eq_zero_or_pos m with hm | hm
  ·subst hm;refine⟨w,⟨l.u+1,none,0,0⟩,?_,.inl ⟨by omega,rfl⟩,fun _ _ _=>rfl,Nat.le_refl _,rfl,rfl,rfl⟩;rw[v0];exact VB ht hi none 0 0 c A (Nat.le_refl _)
  ·obtain⟨a,rfl,hnews⟩:=hA hm;have hr:=run_append_nil (P:=P) w t ty B.t i z ht hi hz a m c news (by rw[hsz];exact hl) hnews hm (by omega) (by rw[n0]at hbytes;simp only[Nat.zero_add]at hbytes;omega);have hge:=grownCap_ge w m 0 B.t;have hcm:grownCap w m 0 B.t<=maxLen:=grownCap_le_maxLen w m 0 B.t (by omega);refine⟨_,⟨l.u+1,some w.heap.size,m,grownCap w m 0 B.t⟩,by rw[v0];exact hr,.inr ⟨_,_,_,by rw[n0,Nat.zero_add],.inr (Nat.le_refl _),heap_alloc_new w.drew _,?_,by omega,hcm,fun x y hx hy=>?_,fun hr' x d e=>?_⟩,fun x hx _=>heap_alloc_old w.drew _ hx,by simp,rfl,rfl,rfl⟩
   ·rw[Array.size_append,List.size_toArray,hl,size_zeroCells,hzs,<- Nat.add_mul];congr 1;omega
   ·rw[n0,Nat.zero_add]at hx;obtain⟨u,hu,hur⟩:=hfy x y hx hy;refine⟨u,?_,by unfold zB;rw[n0,if_neg (by omega)];exact hur⟩;rw[Array.getElem?_append_left (by rw[List.size_toArray];exact(List.getElem?_eq_some_iff.1 hu).1)];simpa using hu
   ·rcases Nat.lt_or_ge x news.length with hx | hx
    ·rw[Array.getElem?_append_left (by simpa using hx)]at e;exact hnU hr' x d (by simpa using e)
    ·rw[Array.getElem?_append_right (by simpa using hx)]at e;exact zU hr' _ _ d e
 ·have hnoU:r=true->∀(x:Nat) (d:Int),cs[x]? ≠ some (.int .u32 d):=by
   intro hr x d e;refine h.noU hr g x d (.inr ⟨k,l,B,h1,h2,h3,gb⟩) ?_;simp only[World.cell?,gh,Option.isSome_none,Bool.false_eq_true,if_false];exact e
  have hsmall:B.n*B.sz<=cs.size:=by rw[gs];exact Nat.mul_le_mul_right _ gn
  rcases Nat.eq_zero_or_pos m with hm | hm
  ·subst hm;refine⟨w,⟨l.u+1,some g,B.n,cap⟩,?_,.inr ⟨g,cap,cs,rfl,.inl gb,gh,gs,gn,gc,fun x y hx hy=>?_,hnoU⟩,fun _ _ _=>rfl,Nat.le_refl _,rfl,rfl,rfl⟩
   ·rw[gv];exact VB ht hi _ _ _ c A gn
   ·obtain⟨u,hu,hur⟩:=gf x y hx hy;rw[if_pos h3]at hur;exact⟨u,hu,by unfold zB;rw[if_pos (show x<B.n by omega)];exact hur⟩
  ·obtain⟨a,rfl,hnews⟩:=hA hm;by_cases hroom:B.n+m<=cap
   ·have hfit:B.n*i.size+news.length<=cs.size:=by rw[hsz,hl,gs,<- Nat.add_mul];exact Nat.mul_le_mul_right _ hroom
    have hr:=run_append_room (P:=P) (ty:=ty) w t B.t i ht hi g B.n cap cs gh a m c news (by rw[hsz];exact hl) hnews h1c hroom hfit;rw[hsz]at hr hfit;have hget:∀ x:Nat,(cs.toList.take (B.n*B.sz)++news++cs.toList.drop (B.n*B.sz+news.length)).toArray[x]? = if x<B.n*B.sz then cs[x]? else if x<B.n*B.sz+news.length then news[x-B.n*B.sz]? else cs[x]? := by
     intro x;simp only[List.getElem?_toArray,List.append_assoc];have htl:(cs.toList.take (B.n*B.sz)).length=B.n*B.sz:=by simp;omega
     rcases Nat.lt_or_ge x (B.n*B.sz)with hx | hx
     ·rw[List.getElem?_append_left (by omega),if_pos hx,List.getElem?_take_of_lt hx];simp
     ·rw[List.getElem?_append_right (by omega),htl,if_neg (by omega)];rcases Nat.lt_or_ge (x-B.n*B.sz) news.length with hx2 | hx2
      ·rw[List.getElem?_append_left hx2,if_pos (by omega)]
      ·rw[List.getElem?_append_right hx2,if_neg (by omega),List.getElem?_drop];simp;congr 1;omega
    refine⟨_,⟨l.u+1,some g,B.n+m,cap⟩,by rw[gv];exact hr,.inr ⟨g,cap,_,rfl,.inl gb,setRow_heap w g cs _ B.t _ gh,?_,hroom,gc,fun x y hx hy=>?_,fun hr' x d e=>?_⟩,fun x _ hne=>setRow_other w g x _ (fun e=>hne (by rw[e];exact gb)),by simp,rfl,rfl,rfl⟩
    ·simp only[List.size_toArray,List.length_append,List.length_take,List.length_drop,Array.length_toList];omega
    ·rw[hget];rcases idx_split hx hy with⟨e1,e2⟩ | ⟨e1,e2,e3,e4,e5⟩
     ·obtain⟨u,hu,hur⟩:=gf x y e1 hy;rw[if_pos h3]at hur;exact⟨u,by rw[if_pos e2];exact hu,by unfold zB;rw[if_pos e1];exact hur⟩
     ·obtain⟨u,hu,hur⟩:=hfy (x-B.n) y e2 hy;exact⟨u,by rw[if_neg (by omega),if_pos (by omega),e4];exact hu,by unfold zB;rw[if_neg (by omega)];exact hur⟩
    ·rw[hget]at e;split at e
     ·exact hnoU hr' x d e
     ·split at e
      ·exact hnU hr' _ d e
      ·exact hnoU hr' x d e
   ·have holds:∀ j u,(cs.toList.take (B.n*B.sz))[j]? = some u->w.cell? ((⟨g,0,none⟩:Addr).add j)=some u:=by
     intro j u hj;have hjl:j<B.n*B.sz:=by have:=(List.getElem?_eq_some_iff.1 hj).1;simp at this;omega
     rw[List.getElem?_take_of_lt hjl]at hj;rw[Addr.add_lit,Nat.zero_add];simp only[World.cell?,gh,Option.isSome_none,Bool.false_eq_true,if_false];simpa using hj
    have hlo:(cs.toList.take (B.n*B.sz)).length=B.n*B.sz:=by simp;omega
    have hr:=run_append_grow (P:=P) (ty:=ty) w t B.t i z ht hi hz ⟨g,0,none⟩ B.n cap _ (by rw[hsz];exact hlo) holds a m c news (by rw[hsz];exact hl) hnews (by omega) (by omega) (growslice_fits (by omega) hbytes);have hge:=grownCap_ge w (B.n+m) cap B.t;have hcm:grownCap w (B.n+m) cap B.t<=maxLen:=grownCap_le_maxLen w (B.n+m) cap B.t hmax;have hget:∀ x:Nat,x<(B.n+m)*B.sz->((cs.toList.take (B.n*B.sz)).toArray++news.toArray++Builtin.zeroCells z.cells (grownCap w (B.n+m) cap B.t-(B.n+m)))[x]? = if x<B.n*B.sz then cs[x]? else news[x-B.n*B.sz]? := by
     intro x hx;rw[Nat.add_mul]at hx;rw[Array.getElem?_append_left (by simp;omega)];rcases Nat.lt_or_ge x (B.n*B.sz)with hx1 | hx1
     ·rw[Array.getElem?_append_left (by simp;omega),if_pos hx1];simp[List.getElem?_take_of_lt hx1]
     ·rw[Array.getElem?_append_right (by simp;omega),if_neg (by omega)];simp only[List.size_toArray,hlo,List.getElem?_toArray]
    refine⟨_,⟨l.u+1,some w.heap.size,B.n+m,grownCap w (B.n+m) cap B.t⟩,by rw[gv];exact hr,.inr ⟨_,_,_,rfl,.inr (Nat.le_refl _),heap_alloc_new w.drew _,?_,by omega,hcm,fun x y hx hy=>?_,fun hr' x d e=>?_⟩,fun x hx _=>heap_alloc_old w.drew _ hx,by simp,rfl,rfl,rfl⟩
    ·rw[Array.size_append,Array.size_append,List.size_toArray,List.size_toArray,hlo,hl,size_zeroCells,hzs,<- Nat.add_mul,<- Nat.add_mul];congr 1;omega
    ·rw[hget _ (vk hx hy (Nat.le_refl _))];rcases idx_split hx hy with⟨e1,e2⟩ | ⟨e1,e2,e3,e4,e5⟩
     ·obtain⟨u,hu,hur⟩:=gf x y e1 hy;rw[if_pos h3]at hur;exact⟨u,by rw[if_pos e2];exact hu,by unfold zB;rw[if_pos e1];exact hur⟩
     ·obtain⟨u,hu,hur⟩:=hfy (x-B.n) y e2 hy;exact⟨u,by rw[if_neg (by omega),e4];exact hu,by unfold zB;rw[if_neg (by omega)];exact hur⟩
    ·rcases Nat.lt_or_ge x ((B.n+m)*B.sz)with hx | hx
     ·rw[hget x hx]at e;split at e
      ·exact hnoU hr' x d e
      ·exact hnU hr' _ d e
     ·rw[Nat.add_mul]at hx;rw[Array.getElem?_append_right (by simp;omega)]at e;exact zU hr' _ _ d e
def srcA (bl : List Blk) (sz k : Nat) : V → Option (Nat × (Nat → Nat → Cell))
 | .c (.row s n f)=>if s == sz then some (n,f)else none
 | .c .nil=>some (0,fun _ _ => .any)
 | .c (.gs k' u')=>match bl[k']? with
  | some B=>if(B.u == u'&&(B.st.ble 1&&(B.sz == sz&&!(k' == k))))then some (B.n,B.f)else none
  | none=>none
 | _=>none
theorem cells_list {w:World} {b o N:Nat} {p:Nat->Value->Prop} (h:∀ x,x<N->∃ u,w.cell? ⟨b,o+x,none⟩=some u/\p x u):∃ news:List Value,news.length=N/\(∀ j u,news[j]? = some u->w.cell? ((⟨b,o,none⟩:Addr).add j)=some u/\p j u)/\∀ x,x<N->∃ u,news[x]? = some u/\p x u:=by
 induction N with
 | zero=>exact⟨[],rfl,fun j u h=>by simp at h,fun x hx=>by omega⟩
 | succ N ih =>
  obtain⟨l,e1,e2,e3⟩:=ih fun x hx=>h x (by omega);obtain⟨u,hu,hp⟩:=h N (by omega);refine⟨l++[u],by simp[e1],fun j v hj=>?_,fun x hx=>?_⟩
  ·rcases Nat.lt_or_ge j l.length with hl | hl
   ·rw[List.getElem?_append_left hl]at hj;exact e2 j v hj
   ·rw[List.getElem?_append_right hl]at hj;rcases Nat.eq_zero_or_pos (j-l.length)with e | e
    ·rw[e]at hj;simp at hj;subst hj;rw[show j=N by omega,Addr.add_lit];exact⟨hu,hp⟩
    ·rw[List.getElem?_eq_none (by simp;omega)]at hj;cases hj
  ·rcases Nat.lt_or_ge x l.length with hl | hl
   ·obtain⟨v,hv,hpv⟩:=e3 x (by omega);exact⟨v,by rw[List.getElem?_append_left hl];exact hv,hpv⟩
   ·exact⟨u,by rw[List.getElem?_append_right hl,show x-l.length=0 by omega];rfl,by rw[show x=N by omega];exact hp⟩
theorem src_rel {D0 : Nat → Prop} {w0 : Base} {w : World} {r : Bool} {ρ : List Loc} {bl : List Blk} (h : Sat D0 w0 r ρ bl w) {sz k m : Nat} (hsz : 0 < sz) {y : V} {v : Value} {fy : Nat → Nat → Cell} (hy : VRel (Dof D0 ρ bl) w ρ y v) (hs : srcA bl sz k y = some (m, fy)) :
  ∃(A:Option Addr) (c:Nat) (news:List Value),v = .slice A m c/\news.length=m*sz/\(0<m->∃ a,A=some a/\∀ j u,news[j]? = some u->w.cell? (a.add j)=some u)/\(∀ a b,a<m->b<sz->∃ u,news[a*sz+b]? = some u/\CRel (Dof D0 ρ bl) w ρ (fy a b) u)/\∀(x:Nat) (u:Value),news[x]? = some u->∃ a b,a<m/\b<sz/\CRel (Dof D0 ρ bl) w ρ (fy a b) u:=by
 have fin:∀(A:Option Addr) (c:Nat),v = .slice A m c->(0<m->∃ b o,A=some ⟨b,o,none⟩/\∀ i j,i<m->j<sz->∃ u,w.cell? ⟨b,o+(i*sz+j),none⟩=some u/\CRel (Dof D0 ρ bl) w ρ (fy i j) u) ->
   ∃(A:Option Addr) (c:Nat) (news:List Value),v = .slice A m c/\news.length=m*sz/\(0<m->∃ a,A=some a/\∀ j u,news[j]? = some u->w.cell? (a.add j)=some u)/\(∀ a b,a<m->b<sz->∃ u,news[a*sz+b]? = some u/\CRel (Dof D0 ρ bl) w ρ (fy a b) u)/\∀(x:Nat) (u:Value),news[x]? = some u->∃ a b,a<m/\b<sz/\CRel (Dof D0 ρ bl) w ρ (fy a b) u:=by
  intro A c hv hc;rcases Nat.eq_zero_or_pos m with hm | hm
  ·subst hm;exact⟨A,c,[],hv,by simp,fun h=>by omega,fun a b h=>by omega,fun x u h=>by simp at h⟩
  ·obtain⟨b,o,rfl,hcell⟩:=hc hm;obtain⟨news,e1,e2,e3⟩:=cells_list (w:=w) (b:=b) (o:=o) (N:=m*sz) (p:=fun x u=>CRel (Dof D0 ρ bl) w ρ (fy (x / sz) (x%sz)) u) fun x hx=>by
    have:=hcell (x / sz) (x%sz) ((Nat.div_lt_iff_lt_mul hsz).2 hx) (Nat.mod_lt _ hsz);rw[show x / sz*sz+x%sz=x by rw[Nat.mul_comm];exact Nat.div_add_mod x sz]at this;exact this
   refine⟨_,c,news,hv,e1,fun _=>⟨_,rfl,fun j u hj=>(e2 j u hj).1⟩,fun a d ha hd=>?_,fun x u hx=>?_⟩
   ·obtain⟨u,hu,hur⟩:=e3 (a*sz+d) (vk ha hd (Nat.le_refl _));have q1:(a*sz+d) / sz=a:=by rw[Nat.mul_comm,Nat.mul_add_div hsz,Nat.div_eq_of_lt hd];rfl
    have q2:(a*sz+d)%sz=d:=by rw[Nat.mul_comm,Nat.mul_add_mod,Nat.mod_eq_of_lt hd]
    rw[q1,q2]at hur;exact⟨u,hu,hur⟩
   ·have hlt:x<m*sz:=by rw[<- e1];exact(List.getElem?_eq_some_iff.1 hx).1
    exact⟨x / sz,x%sz,(Nat.div_lt_iff_lt_mul hsz).2 hlt,Nat.mod_lt _ hsz,(e2 x u hx).2⟩
 unfold srcA at hs;split at hs
 ·split at hs
  ·rename_i e;cases hs;obtain⟨A,c,rfl,h1,h3⟩:=hy;have e:=beq_iff_eq.1 e;subst e;refine fin A c rfl fun hm=>?_;obtain⟨b,o,hA,_,_,hc⟩:=h3 hm;refine⟨b,o,hA,fun i j hi hj=>?_⟩;obtain⟨u,hu,hr⟩:=hc i j hi hj;exact⟨u,hu,hr.step (Ext.refl _ _) (fun _ _ x=>x) (fun k l hk=>by simp at hk)⟩
  ·cases hs
 ·cases hs;have hy:v = .slice none 0 0:=hy;exact fin none 0 hy fun h=>by omega
 ·split at hs
  ·rename_i B hB;split at hs
   ·rename_i e;cases hs;simp only[Bool.and_eq_true,beq_iff_eq,Nat.ble_eq]at e;obtain⟨e1,e2,e3,e4⟩:=e;obtain⟨l,hl,hu,hv⟩:=hy;obtain⟨g0,g1⟩:=h.at_ _ l B hl hB e2;have hv:=hv (by omega);rcases g1 with⟨g1,g2,g3⟩ | ⟨b,cap,cs,g1,g2,g3,g4,g5,g6,g7,g8⟩
    ·exact fin none 0 (by rw[hv,g3,g1]) fun h=>by omega
    ·refine fin _ cap (hv.trans g3) fun _=>⟨b,0,rfl,fun i j hi hj=>?_⟩;obtain⟨u,hu,hr⟩:=g8 i j hi (by omega);rw[e3]at hu;refine⟨u,by simp only[World.cell?,g4,Nat.zero_add];simpa using hu,?_⟩;by_cases hz:B.st=0
     ·rw[if_pos hz]at hr;exact hr
     ·rw[if_neg hz]at hr;exact hr.step (Ext.refl _ _) (fun _ _ x=>x) (fun k l hk=>by simp at hk)
   ·cases hs
  ·cases hs
 ·cases hs
theorem app_core {P : Program} {C : Ctx} {σ : St} {a : Act} {w : World} {ρ : List Loc} (hs : Sat C.D0 C.w0 C.r ρ σ.bl w) (hN : C.N ≤ a.tmps.size ∧ LocsLe C.ρ0 ρ) (hdf : a.defers = []) (hf : ∀ t, VRel (Dof C.D0 ρ σ.bl) w ρ (σ.tm t) (a.tmps.getD t undef))
  {k u m:Nat} {B:Blk} (hB:σ.bl[k]? = some B) (hu:B.u=u) (h0:B.st=0) {vx vy:Value} (hvx:CRel (Dof C.D0 ρ σ.bl) w ρ (.gs k u) vx) {y:V} (hvy:VRel (Dof C.D0 ρ σ.bl) w ρ y vy) {fy:Nat->Nat->Cell} (hsrc:srcA σ.bl B.sz k y=some (m,fy))
  {T ty:TypeId} {ti te:TI} (ht:yf P T=some ti) (he:ti.elem=some B.t) (hte:yf P B.t=some te) (hsz:te.size=B.sz) (hzl:te.zero.length=te.size) (hpos:0<te.size) (hzU:C.r=true->te.zero.all Cell.noU=true) (hby:te.bytes<=8388608) (hmax:B.n+m<=16777216)
  (hone:∀ i j,i<m->j<B.sz->St.one σ.bl (fy i j)=true/\(C.r=true->(fy i j).noU=true)) {dst:Option Nat} (hd:yX C.N dst) :
  ∃ v' w',(Builtin.append_ #[T,T] ty #[vx,vy]).run P w = .ok v' w'/\Rel C (St.put { σ with bl:=σ.bl.set k ⟨B.t,B.sz,B.n+m,B.u+1,0,zB B.n B.f fy⟩ } dst (.c (.gs k (u+1)))) (a.put dst v') w':=by
 obtain⟨l,h1,h2,h3⟩:=hvx;obtain⟨g0,_⟩:=hs.at_ k l B h1 hB (by omega);have hvl:=h3 (by omega);obtain⟨A,c,news,rfl,n1,n2,n3,n4⟩:=src_rel hs (by omega) hvy hsrc;obtain⟨d,i,zv,hdd,hi,hz,rfl⟩:=xj hte;obtain⟨w',l',r1,r2,r3,r4,r5,r6,r7⟩:=append_run (P:=P) (ty:=ty) hs h1 hB h0 (z9 ht he) hi hz hsz (by rw[<- hsz,<- hzl];simp[tiOf]) (fun hr x dd e=>by
   have:=List.all_eq_true.1 (hzU hr) (wg (.int .u32 dd)) (List.mem_map.2 ⟨_,by rw[Array.mem_toList_iff];exact Array.mem_of_getElem? e,rfl⟩);simp[wg,Cell.noU]at this) n1 n2 (fun x hx=>by
   obtain⟨j,hj⟩:=List.getElem?_of_mem hx;obtain⟨p,q,hp,hq,hr⟩:=n4 j x hj;exact(WV hs (hone p q hp hq).1 hr).1) (fun hr x dd e=>by
   obtain⟨p,q,hp,hq,hrr⟩:=n4 x _ e;exact noU_rel hs (hone p q hp hq).1 ((hone p q hp hq).2 hr) hrr dd rfl) (by unfold maxLen;omega) (by
   have:(B.n+m)*i.bytes<=16777216*8388608:=Nat.mul_le_mul hmax hby;omega) n3
 obtain⟨s1,s2,s3,s4⟩:=hs.bump h1 hB h0 r2 r3 r4 r5 r6 r7;refine⟨l'.v,w',by rw[hvl];exact r1,Rel.put (σ:={ σ with bl:=σ.bl.set k ⟨B.t,B.sz,B.n+m,B.u+1,0,zB B.n B.f fy⟩ }) s1 ⟨hN.1,hN.2.trans s4⟩ hdf (yY s2 s3 s4 hf) hd ?_⟩;have hlu:l'.u=l.u+1:=by
  rcases r2 with⟨_,e⟩ | ⟨g,cap',cs',e,_⟩ <;> rw[e]
 exact⟨l',List.getElem?_set_self (List.getElem?_eq_some_iff.1 h1).1,by omega,fun _=>rfl⟩
theorem Sat.nilblk {D0:Nat->Prop} {w0:Base} {w:World} {r:Bool} {ρ:List Loc} {bl:List Blk} (h:Sat D0 w0 r ρ bl w) (t sz:Nat) (f:Nat->Nat->Cell):Sat D0 w0 r (ρ++[⟨0,none,0,0⟩]) (bl++[⟨t,sz,0,0,0,f⟩]) w/\(∀ b,Dof D0 (ρ++[⟨0,none,0,0⟩]) (bl++[⟨t,sz,0,0,0,f⟩]) b->Dof D0 ρ bl b):=by
 have get:∀(k:Nat) (l:Loc) (B:Blk),(ρ++[⟨0,none,0,0⟩])[k]? = some l->(bl++[⟨t,sz,0,0,0,f⟩])[k]? = some B->(ρ[k]? = some l/\bl[k]? = some B)∨(l=⟨0,none,0,0⟩/\B=⟨t,sz,0,0,0,f⟩):=by
  intro k l B h1 h2;rcases Nat.lt_or_ge k ρ.length with hk | hk
  ·rw[List.getElem?_append_left hk]at h1;rw[List.getElem?_append_left (by rw[<- h.len];exact hk)]at h2;exact .inl ⟨h1,h2⟩
  ·rw[List.getElem?_append_right hk]at h1;rw[List.getElem?_append_right (by rw[<- h.len];exact hk),<- h.len]at h2;rcases Nat.eq_zero_or_pos (k-ρ.length)with e | e
   ·rw[e]at h1 h2;simp at h1 h2;exact .inr ⟨h1.symm,h2.symm⟩
   ·rw[List.getElem?_eq_none (by simp;omega)]at h1;cases h1
 have hD:∀ b,Dof D0 (ρ++[⟨0,none,0,0⟩]) (bl++[⟨t,sz,0,0,0,f⟩]) b->Dof D0 ρ bl b:=by
  rintro b (hx | ⟨k,l,B,h1,h2,h3,h4⟩)
  ·exact .inl hx
  ·rcases get k l B h1 h2 with⟨g1,g2⟩ | ⟨rfl,rfl⟩
   ·exact .inr ⟨k,l,B,g1,g2,h3,h4⟩
   ·cases h4
 refine⟨⟨h.below,h.d0,by simp[h.len],fun k l B h1 h2=>?_,fun i j li lj Bi Bj b h1 h2 h3 h4 h5 h6 h7 h8=>?_,fun hr b o d hb=>h.noU hr b o d (hD b hb)⟩,hD⟩
 ·rcases get k l B h1 h2 with⟨g1,g2⟩ | ⟨rfl,rfl⟩
  ·exact(h.at_ k l B g1 g2).step (Ext.refl _ _) (fun b _ hb=>hD b hb) (LocsLe.append _ _) (fun _ _=>rfl)
  ·intro _;exact⟨rfl,.inl ⟨rfl,rfl,rfl⟩⟩
 ·rcases get i li Bi h1 h3 with⟨g1,g2⟩ | ⟨rfl,rfl⟩
  ·rcases get j lj Bj h2 h4 with⟨g3,g4⟩ | ⟨rfl,rfl⟩
   ·exact h.dist i j li lj Bi Bj b g1 g3 g2 g4 h5 h6 h7 h8
   ·cases h8
  ·cases h7
def appK (E:Env) (dst:Option Nat) (σ:St) (k u:Nat) (e:TypeId) (te:TI) (y:V) (K:St->Prop):Prop :=
 match σ.bl[k]?,srcA σ.bl te.size k y with
 | some B,some (m,fy)=>chk (B.u == u&&(B.st == 0&&(B.sz == te.size&&B.t == e))) (B.n+m<=16777216/\(∀ i j,i<m->j<te.size->St.one σ.bl (fy i j)=true/\(E.r=true->(fy i j).noU=true))/\K (St.put { σ with bl:=σ.bl.set k ⟨B.t,B.sz,B.n+m,B.u+1,0,zB B.n B.f fy⟩ } dst (.c (.gs k (u+1)))))
 | _,_=>False
def nilB (σ:St) (e:TypeId) (sz:Nat):St:={ σ with bl:=σ.bl++[⟨e,sz,0,0,0,fun _ _ => .any⟩] }
def appA (E:Env) (dst:Option Nat) (σ:St) (args:List Operand) (ts:List TypeId) (K:St->Prop):Prop:=match args,ts with
 | [x,y],[T,T']=>match E.ty T with
  | some ti=>match ti.elem with
   | some e=>match E.ty e with
    | some te=>chk (((E.ty T').bind (·.elem) == some e)&&(te.zero.length == te.size&&((1:Nat).ble te.size&&((!E.r||te.zero.all Cell.noU)&&te.bytes.ble 8388608)))) (match σ.ev x with
     | .c (.gs k u)=>appK E dst σ k u e te (σ.ev y) K
     | .c .nil=>appK E dst (nilB σ e te.size) σ.bl.length 0 e te (σ.ev y) K
     | _=>False)
    | none=>False
   | none=>False
  | none=>False
 | _,_=>False
theorem appA_sound {E : Env} (hE : EnvOK E) {C : Ctx} (hC : C.r = E.r) {o : Oper} {σ : St} {a : Act} {w : World} {K : St → Prop} {args : Array Operand} {ts : Array TypeId} (hx : o.op = .call { callee := .builtin .append, args, argTypes := ts }) (h : appA E o.dst σ args.toList ts.toList K) (hd : yX C.N o.dst) (hr : Rel C σ a w) {next : Act → World → Prop} {Q : Exit → Act → World → Prop}
  (hn:∀ σ' a' w',K σ'->Rel C σ' a' w'->next a' w'):o.wp E.P a w next Q:=by
 unfold appA at h;split at h
 ·rename_i x y T T' hargs hts;split at h
  ·rename_i ti hti;split at h
   ·rename_i e he;split at h
    ·rename_i te hte;obtain⟨g,hh⟩:=zp.1 h;clear h;simp only[Bool.and_eq_true,beq_iff_eq,Nat.ble_eq,Bool.or_eq_true,Bool.not_eq_true']at g;obtain⟨g0,g1,g2,g3,g4⟩:=g;obtain⟨ti',ht1,ht2⟩:=Option.bind_eq_some_iff.1 g0;have hti':=hE.ty _ _ ht1;have hti:=hE.ty _ _ hti;have hte:=hE.ty _ _ hte;have ha:args=#[x,y]:=by rw[<- Array.toList_inj];simpa using hargs
     have hts':ts=#[T,T']:=by rw[<- Array.toList_inj];simpa using hts
     subst ha;subst hts';have fin:∀(σ1:St) (k u:Nat),appK E o.dst σ1 k u e te (σ1.ev y) K->(∃ ρ,Sat C.D0 C.w0 C.r ρ σ1.bl w/\(C.N<=a.tmps.size/\LocsLe C.ρ0 ρ)/\a.defers=[]/\(∀ t,VRel (Dof C.D0 ρ σ1.bl) w ρ (σ1.tm t) (a.tmps.getD t undef))/\CRel (Dof C.D0 ρ σ1.bl) w ρ (.gs k u) (a.eval x))->o.wp E.P a w next Q:=by
      intro σ1 k u hk hex;unfold appK at hk;split at hk
      ·rename_i B m fy hB hsrc;obtain⟨q,q4,q5,q6⟩:=zp.1 hk;simp only[Bool.and_eq_true,beq_iff_eq]at q;obtain⟨q0,q1,q2,q3⟩:=q;obtain⟨ρ,hs,hN,hdf,hf,hvx⟩:=hex;subst q3;obtain⟨v',w',p1,p2⟩:=app_core (P:=E.P) (ty:=o.type) hs hN hdf hf hB q0 q1 hvx (kX hf y) (by rw[q2];exact hsrc) hti he hte q2.symm g1 (by omega) (fun hr=>by
        rcases g3 with g3 | g3
        ·rw[hC]at hr;rw[hr]at g3;cases g3
        ·exact g3) g4 q4 (fun i j hi hj=>⟨(q5 i j hi (by omega)).1,fun hr=>(q5 i j hi (by omega)).2 (by rw[<- hC];exact hr)⟩) hd
       unfold Oper.wp execOp;simp only[hx,resolve,invoke,builtin,Sem.run_bind,Sem.run_pure,Result.andThen_ok,List.map_toArray,List.map_cons,List.map_nil,append_like (z9 hti he) (z9 hti' ht2),p1];exact hn _ _ _ q6 p2
      ·exact hk.elim
     split at hh
     ·rename_i k u hv;obtain⟨ρ,hs,hN,hdf,hf⟩:=id hr;refine fin σ k u hh ⟨ρ,hs,hN,hdf,hf,?_⟩;have:=kX hf x;rw[hv]at this;exact this
     ·rename_i hv;obtain⟨ρ,hs,hN,hdf,hf⟩:=id hr;obtain⟨s1,s2⟩:=hs.nilblk e te.size fun _ _ => .any;have hf':∀ t,VRel (Dof C.D0 (ρ++[⟨0,none,0,0⟩]) (nilB σ e te.size).bl) w (ρ++[⟨0,none,0,0⟩]) ((nilB σ e te.size).tm t) (a.tmps.getD t undef):=fun t=>(hf t).step (Ext.refl _ _) (fun b _ hb=>s2 b hb) (LocsLe.append _ _);have hev:(nilB σ e te.size).ev y=σ.ev y:=by cases y <;> rfl
      refine fin (nilB σ e te.size) σ.bl.length 0 (by rw[hev];exact hh) ⟨_,s1,⟨hN.1,hN.2.trans (LocsLe.append _ _)⟩,hdf,hf',?_⟩;have:=kX hf x;rw[hv]at this;have this:a.eval x = .slice none 0 0:=this;exact⟨⟨0,none,0,0⟩,by rw[<- hs.len];simp,Nat.le_refl _,fun _=>this⟩
     ·exact hh.elim
    ·exact h.elim
   ·exact h.elim
  ·exact h.elim
 ·exact h.elim
def SrcOK (D:Nat->Prop) (w:World) (ρ:List Loc) (sz m:Nat) (fy:Nat->Nat->Cell) (v:Value):Prop :=
 ∃(A:Option Addr) (c:Nat) (news:List Value),v = .slice A m c/\news.length=m*sz/\(0<m->∃ a,A=some a/\∀ j u,news[j]? = some u->w.cell? (a.add j)=some u)/\(∀ a b,a<m->b<sz->∃ u,news[a*sz+b]? = some u/\CRel D w ρ (fy a b) u)/\∀(x:Nat) (u:Value),news[x]? = some u->∃ a b,a<m/\b<sz/\CRel D w ρ (fy a b) u
theorem grow_core {P : Program} {D0 : Nat → Prop} {w0 : Base} {w : World} {r : Bool} {ρ : List Loc} {bl : List Blk} (hs : Sat D0 w0 r ρ bl w) {k m : Nat} {l : Loc} {B : Blk} (h1 : ρ[k]? = some l) (hB : bl[k]? = some B) (h0 : B.st = 0) {vy : Value} {fy : Nat → Nat → Cell} (hsrc : SrcOK (Dof D0 ρ bl) w ρ B.sz m fy vy)
  {T ty:TypeId} {ti te:TI} (ht:yf P T=some ti) (he:ti.elem=some B.t) (hte:yf P B.t=some te) (hsz:te.size=B.sz) (hzl:te.zero.length=te.size) (hzU:r=true->te.zero.all Cell.noU=true) (hby:te.bytes<=8388608) (hmax:B.n+m<=16777216)
  (hone:∀ i j,i<m->j<B.sz->St.one bl (fy i j)=true/\(r=true->(fy i j).noU=true)) :
  ∃ l' w',(Builtin.append_ #[T,T] ty #[l.v,vy]).run P w = .ok l'.v w'/\l'.u=l.u+1/\Sat D0 w0 r (ρ.set k l') (bl.set k ⟨B.t,B.sz,B.n+m,B.u+1,0,zB B.n B.f fy⟩) w'/\Ext (Dof D0 ρ bl) w w'/\(∀ x,x<w.heap.size->Dof D0 (ρ.set k l') (bl.set k ⟨B.t,B.sz,B.n+m,B.u+1,0,zB B.n B.f fy⟩) x->Dof D0 ρ bl x)/\LocsLe ρ (ρ.set k l'):=by
 obtain⟨A,c,news,rfl,n1,n2,n3,n4⟩:=hsrc;obtain⟨d,i,zv,hdd,hi,hz,rfl⟩:=xj hte;obtain⟨w',l',r1,r2,r3,r4,r5,r6,r7⟩:=append_run (P:=P) (ty:=ty) hs h1 hB h0 (z9 ht he) hi hz hsz (by rw[<- hsz,<- hzl];simp[tiOf]) (fun hr x dd e=>by
   have:=List.all_eq_true.1 (hzU hr) (wg (.int .u32 dd)) (List.mem_map.2 ⟨_,by rw[Array.mem_toList_iff];exact Array.mem_of_getElem? e,rfl⟩);simp[wg,Cell.noU]at this) n1 n2 (fun x hx=>by
   obtain⟨j,hj⟩:=List.getElem?_of_mem hx;obtain⟨p,q,hp,hq,hr⟩:=n4 j x hj;exact(WV hs (hone p q hp hq).1 hr).1) (fun hr x dd e=>by
   obtain⟨p,q,hp,hq,hrr⟩:=n4 x _ e;exact noU_rel hs (hone p q hp hq).1 ((hone p q hp hq).2 hr) hrr dd rfl) (by unfold maxLen;omega) (by
   have:(B.n+m)*i.bytes<=16777216*8388608:=Nat.mul_le_mul hmax hby;omega) n3
 obtain⟨s1,s2,s3,s4⟩:=hs.bump h1 hB h0 r2 r3 r4 r5 r6 r7;have hlu:l'.u=l.u+1:=by
  rcases r2 with⟨_,e⟩ | ⟨g,cap',cs',e,_⟩ <;> rw[e]
 exact⟨l',w',r1,hlu,s1,s2,s3,s4⟩
theorem Sat.nilplace {D0:Nat->Prop} {w0:Base} {w:World} {r:Bool} {ρ:List Loc} {bl:List Blk} (h:Sat D0 w0 r ρ bl w) {fr:Nat} {Bd:Blk} (h1:ρ[fr]? = some phL) (h2:bl[fr]? = some Bd) (h3:Bd.st=2) (t sz:Nat) (f:Nat->Nat->Cell):Sat D0 w0 r ρ (bl.set fr ⟨t,sz,0,0,0,f⟩) w/\(∀ b,Dof D0 ρ (bl.set fr ⟨t,sz,0,0,0,f⟩) b↔Dof D0 ρ bl b):=by
 have hkb:fr<bl.length:=(List.getElem?_eq_some_iff.1 h2).1;have get:∀(k:Nat) (l:Loc) (B:Blk),ρ[k]? = some l->(bl.set fr ⟨t,sz,0,0,0,f⟩)[k]? = some B->(k≠fr/\bl[k]? = some B)∨(l=phL/\B=⟨t,sz,0,0,0,f⟩):=by
  intro k l B e1 e2;by_cases e:k=fr
  ·subst e;rw[List.getElem?_set_self hkb]at e2;rw[h1]at e1;cases e1;cases e2;exact .inr ⟨rfl,rfl⟩
  ·rw[List.getElem?_set_ne (fun h=>e h.symm)]at e2;exact .inl ⟨e,e2⟩
 have hD:∀ b,Dof D0 ρ (bl.set fr ⟨t,sz,0,0,0,f⟩) b↔Dof D0 ρ bl b:=by
  intro b;constructor
  ·rintro (hx | ⟨k,l,B,e1,e2,e3,e4⟩)
   ·exact .inl hx
   ·rcases get k l B e1 e2 with⟨_,g⟩ | ⟨rfl,rfl⟩
    ·exact .inr ⟨k,l,B,e1,g,e3,e4⟩
    ·cases e4
  ·rintro (hx | ⟨k,l,B,e1,e2,e3,e4⟩)
   ·exact .inl hx
   ·refine .inr ⟨k,l,B,e1,?_,e3,e4⟩;rw[List.getElem?_set_ne (fun e=>by subst e;rw[h2]at e2;cases e2;omega)];exact e2
 refine⟨⟨h.below,h.d0,by simp[h.len],fun k l B e1 e2=>?_,fun i j li lj Bi Bj b e1 e2 e3 e4 e5 e6 e7 e8=>?_,fun hr b o d hb=>h.noU hr b o d ((hD b).1 hb)⟩,hD⟩
 ·rcases get k l B e1 e2 with⟨_,g⟩ | ⟨rfl,rfl⟩
  ·exact(h.at_ k l B e1 g).step (Ext.refl _ _) (fun b _ hb=>(hD b).1 hb) (LocsLe.refl _) (fun _ _=>rfl)
  ·intro _;exact⟨rfl,.inl ⟨rfl,rfl,rfl⟩⟩
 ·rcases get i li Bi e1 e3 with⟨_,g1⟩ | ⟨rfl,rfl⟩
  ·rcases get j lj Bj e2 e4 with⟨_,g2⟩ | ⟨rfl,rfl⟩
   ·exact h.dist i j li lj Bi Bj b e1 e2 g1 g2 e5 e6 e7 e8
   ·cases e8
  ·cases e7
theorem one_nil {bl:List Blk} {c:Cell} (h:St.one [] c=true):St.one bl c=true:=by
 cases c <;> first | exact h | (simp[St.one]at h)
def zY (f:Nat->Nat->Cell) (i o:Nat) (l:List Cell) (i' j:Nat):Cell:=if i'=i/\o<=j/\j<o+l.length then l.getD (j-o) .any else f i' j
def zeroF (l:List Cell) (_ j:Nat):Cell:=l.getD j .any
def frz1 (σ:St) (x:V) (K:St->Prop):Prop :=
 match x with
 | .c (.gs k _) | .c (.sl k _ _ _ _) | .c (.p k _ _ _ _)=>match σ.bl[k]? with
  | some B=>match B.st with
   | 0=>(∀ i j,i<B.n->j<B.sz->(B.f i j).clos=true)/\K { σ with bl:=σ.bl.set k { B with st:=1 } }
   | _=>K σ
  | none=>K σ
 | _=>K σ
def frzA : List V → St → (St → Prop) → Prop
 | [],σ,K=>K σ
 | x :: l,σ,K=>frz1 σ x fun σ'=>frzA l σ' K
def wY : V → List V
 | .t2 a b=>wY a++wY b
 | .t3 a b d=>wY a++(wY b++wY d)
 | .t4 a b d e=>wY a++(wY b++(wY d++wY e))
 | .g l=>l.map V.c
 | .c (.cl _ m f)=>(List.range m).map fun j=>V.c (f j)
 | x=>[x]
def wrB (σ:St) (g:Operand):Bool:=match kg σ g with
 | some f=>wrF f||frF f
 | none=>false
def ph1 (d:Bool) (σ:St):St:=match d with
 | true=>{ σ with bl:=σ.bl++[phB] }
 | false=>σ
def callM (E:Env) (dst:Option Nat) (σ:St) (f:Option FuncId) (args:List Operand) (K:St->Prop):Prop:=match f with
 | none=>False
 | some f=>∃(fz:List V) (d:Bool),frzA fz (ph1 d σ) fun σ1 =>
  ∃(k:Nat) (B:Blk) (as:List V) (X:V) (B':Blk) (fresh:List Blk),FnM E.P E.r f B as X B' fresh/\σ1.bl[k]? = some B/\(B.st=0∨2<=B.st)/\B.plain/\B'.plain/\(∀ F∈fresh,F.plain)/\as.all V.fst=true /\
   (args.map fun x=>St.close σ1.bl (σ1.ev x))=as.map (V3 k σ1.bl.length)/\K (St.put ⟨σ1.tm,σ1.bl.set k B'++fresh⟩ dst (V3 k σ1.bl.length X))
def aop (E:Env) (o:Oper) (σ:St) (K:St->Prop):Prop :=
 match o.op with
 | .box T x=>match zQ σ.bl E.r (σ.ev x)with
  | some l=>K ((σ.push ⟨T,l.length,1,0,0,qk l⟩).put o.dst (.c (.p σ.bl.length 0 l.length 0 0)))
  | none=>False
 | .alloc T=>match E.ty T with
  | some ti=>match zQ σ.bl E.r (.g ti.zero)with
   | some l=>K ((σ.push ⟨T,l.length,1,0,0,qk l⟩).put o.dst (.c (.p σ.bl.length 0 l.length 0 0)))
   | none=>False
  | none=>False
 | .store T x y=>match E.ty T,σ.ev x,zQ σ.bl E.r (σ.ev y)with
  | some ti,.c (.p k u sz i o'),some l=>match σ.bl[k]? with
   | some B=>chk (B.u == u&&(B.sz == sz&&(B.st == 0&&(l.length == ti.size&&(o'+l.length).ble sz)))) (K (St.put { σ with bl:=σ.bl.set k { B with f:=zY B.f i o' l } } o.dst (.c .any)))
   | none=>False
  | _,_,_=>False
 | .makeSlice T ln cp=>match E.ty T with
  | some ti=>match ti.elem with
   | some e=>match E.ty e,σ.ev ln,σ.ev cp with
    | some te,.c (.int _ n),.c (.int _ c)=>0<=n/\n<=c/\c<=281474976710656/\(te.bytes:Int)*c<=281474976710656/\chk (te.zero.length == te.size) (match zQ σ.bl E.r (.g te.zero)with
     | some l=>K ((σ.push ⟨e,te.size,n.toNat,0,0,zeroF l⟩).put o.dst (.c (.gs σ.bl.length 0)))
     | none=>False)
    | _,_,_=>False
   | none=>False
  | none=>False
 | .buildSlice T len parts=>match E.ty T with
  | some ti=>match ti.elem with
   | some e=>match E.ty e with
    | some te=>chk (len.ble 16777216&&(len*te.size).ble 16777216) (match k8 σ.bl ((List.range len).map fun i=>some (i*te.size,te.size)) (List.replicate (len*te.size) .any) (parts.toList.map fun q=>(q.1,σ.ev q.2))with
     | some l=>match zQ σ.bl E.r (.g l)with
      | some l=>K ((σ.push ⟨e,te.size,len,0,0,xJ te.size l⟩).put o.dst (.c (.gs σ.bl.length 0)))
      | none=>False
     | none=>False)
    | none=>False
   | none=>False
  | none=>False
 | .call { callee := .value g,args,.. }=>match wrB σ g with
  | true=>callM E o.dst σ (kg σ g) args.toList K∨frzA (args.toList.flatMap fun x=>wY (σ.ev x)) σ fun σ'=>dop E o σ' fun v=>K (σ'.put o.dst v)
  | false=>frzA (args.toList.flatMap fun x=>wY (σ.ev x)) σ fun σ'=>dop E o σ' fun v=>K (σ'.put o.dst v)
 | .call { callee := .builtin .append,args,argTypes }=>appA E o.dst σ args.toList argTypes.toList K
 | _=>dop E o σ fun v=>K (σ.put o.dst v)
theorem vX (σ:St) (k:Nat) (K:St->Prop):(match σ.bl[k]? with
  | some B=>match B.st with
   | 0=>(∀ i j,i<B.n->j<B.sz->(B.f i j).clos=true)/\K { σ with bl:=σ.bl.set k { B with st:=1 } }
   | _=>K σ
  | none=>K σ)=(match σ.bl[k]? with
  | some B=>(B.st=0->(∀ i j,i<B.n->j<B.sz->(B.f i j).clos=true)/\K { σ with bl:=σ.bl.set k { B with st:=1 } })/\(B.st≠0->K σ)
  | none=>K σ):=by
 cases σ.bl[k]? with
 | none=>rfl
 | some B =>
  cases hst:B.st with
  | zero=>simp[hst]
  | succ n=>simp[hst]
theorem Rel.frz1 {C:Ctx} {σ:St} {a:Act} {w:World} {x:V} {K:St->Prop} (h:frz1 σ x K) (hr:Rel C σ a w):∃ σ',K σ'/\Rel C σ' a w/\σ'.tm=σ.tm:=by
 have key:∀ k,(match σ.bl[k]? with
  | some B=>(B.st=0->(∀ i j,i<B.n->j<B.sz->(B.f i j).clos=true)/\K { σ with bl:=σ.bl.set k { B with st:=1 } })/\(B.st≠0->K σ)
  | none=>K σ)->∃ σ',K σ'/\Rel C σ' a w/\σ'.tm=σ.tm:=by
  intro k h;split at h
  ·rename_i B hB;by_cases hz:B.st=0
   ·obtain⟨h1,h2⟩:=h.1 hz;obtain⟨ρ,hs,hN,hd,hf⟩:=hr;obtain⟨s1,s2⟩:=hs.freeze hB hz h1;exact⟨_,h2,⟨ρ,s1,hN,hd,fun t=>(hf t).step (Ext.refl _ _) (fun b _ hb=>s2 b hb) (LocsLe.refl _)⟩,rfl⟩
   ·exact⟨σ,h.2 hz,hr,rfl⟩
  ·exact⟨σ,h,hr,rfl⟩
 unfold Go.Proofs.YtkmbnldginonbaaGreat.frz1 at h;split at h
 ·rw[vX]at h;exact key _ h
 ·rw[vX]at h;exact key _ h
 ·rw[vX]at h;exact key _ h
 ·exact⟨σ,h,hr,rfl⟩
theorem Rel.frzA {C : Ctx} {a : Act} {w : World} : ∀ {l : List V} {σ : St} {K : St → Prop}, frzA l σ K → Rel C σ a w → ∃ σ', K σ' ∧ Rel C σ' a w ∧ σ'.tm = σ.tm
 | [],σ,K,h,hr=>⟨σ,h,hr,rfl⟩
 | x :: l,σ,K,h,hr=>by
  obtain⟨σ1,h1,h2,h3⟩:=Rel.frz1 h hr;obtain⟨σ2,h4,h5,h6⟩:=Rel.frzA h1 h2;exact⟨σ2,h4,h5,h6.trans h3⟩
theorem dop_rel {E : Env} (hE : EnvOK E) {C : Ctx} (hC : C.r = E.r) {o : Oper} {σ : St} {a : Act} {w : World} {K : V → Prop} (h : dop E o σ K) (hd : yX C.N o.dst) (hr : Rel C σ a w) {next : Act → World → Prop} {Q : Exit → Act → World → Prop}
  (hn:∀ v a' w',K v->Rel C (σ.put o.dst v) a' w'->next a' w'):o.wp E.P a w next Q:=by
 obtain⟨X,hX,hst⟩:=U5 hE h;rw[<- hC]at hst;obtain⟨ρ,hs,hN,hdf,hf⟩:=hr;refine hst C.D0 C.w0 ρ σ.bl a w hs (Agree.refl o σ) (fun x _=>kX hf x) next Q fun v w' hb hv=>hn X _ _ hX ?_
 exact Rel.put (hs.ext hb) hN hdf (yY (Ext.of_below hb) (fun _ _ x=>x) (LocsLe.refl _) hf) hd hv
theorem y7 {α:Type} {l:List α} {j:Nat} {d:α} (h:j<l.length):l[j]? = some (l.getD j d):=by simp[List.getD,h]
theorem last_loc {ρ:List Loc} {n:Nat} (h:ρ.length=n) (l:Loc):(ρ++[l])[n]? = some l:=by rw[<- h];simp
theorem box_sound {P : Program} {C : Ctx} {σ : St} {a : Act} {w : World} (h : Rel C σ a w) {T : TypeId} {l : List Cell} {x : V} {v : Value} (hc : zQ σ.bl C.r x = some l) (hx : ∀ ρ, Sat C.D0 C.w0 C.r ρ σ.bl w → (∀ t, VRel (Dof C.D0 ρ σ.bl) w ρ (σ.tm t) (a.tmps.getD t undef)) → VRel (Dof C.D0 ρ σ.bl) w ρ x v) {dst : Option Nat} (hd : yX C.N dst) :
  ∃ b,(newVar T v).run P w = .ok ⟨b,0,none⟩ (w.alloc (.cells v.cells T))/\Rel C ((σ.push ⟨T,l.length,1,0,0,qk l⟩).put dst (.c (.p σ.bl.length 0 l.length 0 0))) (a.put dst (.pointer (some ⟨b,0,none⟩))) (w.alloc (.cells v.cells T)):=by
 refine⟨w.heap.size,by simp[newVar,newRow,newObj];rfl,?_⟩;have hsz:v.cells.size=l.length:=by
  obtain⟨ρ,hs,hN,hdf,hf⟩:=h;have:=(jz hs hc (hx ρ hs hf)).1.length;simpa using this.symm
 refine Rel.push h (by rw[hsz];omega) (Nat.le_refl 1) (by unfold maxLen;omega) (fun ρ hs hf i j hi hj=>?_) (fun hr=>?_) hd _ _ (fun ρ hl=>?_) (by simp) (by simp)
 ·obtain rfl:i=0:=by omega
  obtain⟨u,hu,hur⟩:=(jz hs hc (hx ρ hs hf)).1.get j _ (y7 (d:=Cell.any) hj);exact⟨u,by rw[Nat.zero_mul,Nat.zero_add];simpa using hu,hur⟩
 ·obtain⟨ρ,hs,hN,hdf,hf⟩:=h;exact(jz hs hc (hx ρ hs hf)).2.2 hr
 ·exact⟨_,last_loc hl _,Nat.le_refl _,fun _=>⟨by show 0<1;omega,w.heap.size,rfl,by simp⟩⟩
theorem zero_rel {D:Nat->Prop} {w:World} {ρ:List Loc} {zv:Value} {l:List Cell} (h:l=zv.cells.toList.map wg):CRels D w ρ l zv.cells.toList:=by
 rw[h];exact CRels.of _ _ (by simp) fun j x v h1 h2=>by
  rw[List.getElem?_map,h2]at h1;simp at h1;subst h1;exact VW _ _ _ v
theorem jF {bl : List Blk} {offs : List (Option (Nat × Nat))} : ∀ (parts : List (Nat × V)) (cs l : List Cell), k8 bl offs cs parts = some l → l.length = cs.length
 | [],cs,l,h=>by simp[k8]at h;rw[h]
 | (i,x) :: parts,cs,l,h=>by
  simp only[k8]at h;split at h
  ·split at h
   ·split at h
    ·rename_i hc;simp only[Bool.and_eq_true,beq_iff_eq,Nat.ble_eq]at hc;rw[jF parts _ l h];simp;omega
    ·cases h
   ·split at h
    ·rename_i hc;simp only[Bool.and_eq_true,beq_iff_eq,Nat.ble_eq]at hc;rw[jF parts _ l h];simp;omega
    ·cases h
   ·cases h
  ·cases h
theorem any_rels {D : Nat → Prop} {w : World} {ρ : List Loc} : ∀ (n : Nat) (vs : List Value), vs.length = n → CRels D w ρ (List.replicate n .any) vs
 | 0,[],_=>trivial
 | n+1,_ :: vs,h=>⟨trivial,any_rels n vs (by simpa using h)⟩
 | 0,_ :: _,h=>by simp at h
 | _+1,[],h=>by simp at h
set_option maxHeartbeats 1000000 in
theorem UK {E : Env} (hE : EnvOK E) {C : Ctx} (hC : C.r = E.r) {o : Oper} {σ : St} {a : Act} {w : World} {K : St → Prop} (h : aop E o σ K) (hd : yX C.N o.dst) (hr : Rel C σ a w) {next : Act → World → Prop} {Q : Exit → Act → World → Prop}
  (hn:∀ σ' a' w',K σ'->Rel C σ' a' w'->next a' w'):o.wp E.P a w next Q:=by
 unfold aop at h;rw[<- hC]at h;split at h
 case h_1 T x hx =>
  split at h
  ·rename_i l hl;obtain⟨b,h1,h2⟩:=box_sound (P:=E.P) (T:=T) (v:=a.eval x) hr hl (fun ρ hs hf=>kX hf x) hd;have:(execOp a.eval o).run E.P w = .ok (.value (.pointer (some ⟨b,0,none⟩))) (w.alloc (.cells (a.eval x).cells T)):=by
    simp[execOp,hx,Instr.box,h1]
   unfold Oper.wp;rw[this];exact hn _ _ _ h h2
  ·exact h.elim
 case h_2 T hx =>
  split at h
  ·rename_i ti ht;have ht:=hE.ty _ _ ht;split at h
   ·rename_i l hl;obtain⟨zv,hz,hzc⟩:=run_zero ht w;obtain⟨b,h1,h2⟩:=box_sound (P:=E.P) (T:=T) (v := .agg zv.cells) hr hl (fun ρ hs hf=>⟨zv.cells,rfl,zero_rel hzc⟩) hd;have e1:newVar T (.agg zv.cells)=newVar T zv:=rfl;rw[e1]at h1;have:(execOp a.eval o).run E.P w = .ok (.value (.pointer (some ⟨b,0,none⟩))) (w.alloc (.cells zv.cells T)):=by
     simp[execOp,hx,Instr.alloc,hz,h1,Value.cells]
    unfold Oper.wp;rw[this];exact hn _ _ _ h h2
   ·exact h.elim
  ·exact h.elim
 case h_3 T x y hx =>
  split at h
  ·rename_i ti k u sz i o' l ht hv hl;split at h
   ·rename_i B hB;have ht:=hE.ty _ _ ht;obtain⟨g0,g7⟩:=zp.1 h;simp only[Bool.and_eq_true,beq_iff_eq,Nat.ble_eq]at g0;obtain⟨g1,g2,g3,g5,g6⟩:=g0;obtain⟨ρ,hs,hN,hdf,hf⟩:=hr;have e1:=kX hf x;rw[hv]at e1;obtain⟨lc,hlc,hu,hp⟩:=e1;obtain⟨q0,q1⟩:=hs.at_ k lc B hlc hB (by omega);have hln:=loc_n hs hlc hB (by omega);obtain⟨g4,hp2⟩:=hp (by omega);rw[hln]at g4;rcases q1 with⟨q1,_,_⟩ | ⟨b,cap,cs,q1,q2,q3,q4,q5,q6,q7,q8⟩
    ·omega
    obtain⟨b',e2,e3⟩:=hp2;rw[q1]at e2;cases e2;obtain⟨c1,c2,c3⟩:=jz hs hl (kX hf y);have hlen:=c1.length;simp only[Array.length_toList]at hlen;have hfit:i*sz+o'+0+(a.eval y).cells.toList.length<=cs.size:=by
     simp only[Array.length_toList,Nat.add_zero];rw[q5,g2];have:(i+1)*sz<=cap*sz:=Nat.mul_le_mul_right _ (by omega);rw[Nat.succ_mul]at this;omega
    have hst:=run_storeCells_at (P:=E.P) b (i*sz+o') B.t (a.eval y).cells.toList 0 cs w q4 hfit c2;obtain⟨cs',hcs'⟩:∃ cs',cs'=(cs.toList.take (i*sz+o'+0)++(a.eval y).cells.toList++cs.toList.drop (i*sz+o'+0+(a.eval y).cells.toList.length)).toArray:=⟨_,rfl⟩;rw[<- hcs']at hst;have hcl:cs'.size=cs.size:=by
     rw[hcs'];simp at hfit ⊢;omega
    have hget:∀ m:Nat,cs'[m]? = if i*sz+o'<=m/\m<i*sz+o'+l.length then(a.eval y).cells[m-(i*sz+o')]? else cs[m]? := by
     intro m;rw[hcs'];simp only[Nat.add_zero,List.getElem?_toArray,List.append_assoc];have ht:(cs.toList.take (i*sz+o')).length=i*sz+o':=by simp at hfit ⊢;omega
     rcases Nat.lt_or_ge m (i*sz+o')with hm | hm
     ·rw[List.getElem?_append_left (by omega),if_neg (by omega),List.getElem?_take_of_lt hm];simp
     ·rw[List.getElem?_append_right (by omega),ht];rcases Nat.lt_or_ge (m-(i*sz+o')) l.length with hm2 | hm2
      ·rw[List.getElem?_append_left (by simp;omega),if_pos (by omega)];simp
      ·rw[List.getElem?_append_right (by simp;omega),if_neg (by omega),List.getElem?_drop];simp;congr 1;omega
    have hupd:=hs.update (f':=zY B.f i o' l) (w':=w.setRow b cs') hlc hB g3 q1 q4 (setRow_heap w b cs cs' B.t _ q4) hcl (fun x hx=>setRow_other w b x cs' hx) (by simp) rfl rfl rfl (fun i' j hi' hj=>?_) (fun hr m d=>?_)
    ·obtain⟨s1,s2,s3⟩:=hupd;have hex:(execOp a.eval o).run E.P w = .ok .skip (w.setRow b cs'):=by
      have h1:(storeVar T ⟨b,i*sz+o',none⟩ (a.eval y)).run E.P w = .ok () (w.setRow b cs'):=by
       simp[storeVar,v8 ht,<- g5,hlen,hst,Result.andThen]
      simp[execOp,hx,e3,Instr.storeAt,Instr.sureAddr,h1]
     unfold Oper.wp;rw[hex,Oper.upon_skip];exact hn _ _ _ g7 (Rel.put (σ:={ σ with bl:=σ.bl.set k { B with f:=zY B.f i o' l } }) s1 hN hdf (yY s3 (fun x _ hx=>(s2 x).1 hx) (LocsLe.refl _) hf) hd trivial)
    ·rw[hget];unfold zY;by_cases hc:i'=i/\o'<=j/\j<o'+l.length
     ·rw[if_pos hc,if_pos (by rw[hc.1,g2];omega)];obtain⟨v,hv,hvr⟩:=c1.get (j-o') _ (y7 (d:=Cell.any) (by omega));exact⟨v,by rw[hc.1,g2,show i*sz+j-(i*sz+o')=j-o' by omega];simpa using hv,hvr⟩
     ·rw[if_neg hc,if_neg]
      ·obtain⟨v,hv,hvr⟩:=q8 i' j hi' hj;rw[if_pos g3]at hvr;exact⟨v,hv,hvr⟩
      ·rw[g2]at hj ⊢
       intro hh;rcases Nat.lt_trichotomy i' i with hlt | heq | hgt
       ·have:(i'+1)*sz<=i*sz:=Nat.mul_le_mul_right _ hlt;rw[Nat.succ_mul]at this;omega
       ·subst heq;omega
       ·have:(i+1)*sz<=i'*sz:=Nat.mul_le_mul_right _ hgt;rw[Nat.succ_mul]at this;omega
    ·rw[hget];split
     ·exact c3 hr _ d
     ·intro e;have:=hs.noU hr b m d (.inr ⟨k,lc,B,hlc,hB,g3,q1⟩);simp only[World.cell?,q4,Option.isSome_none,Bool.false_eq_true,if_false]at this;exact this e
   ·exact h.elim
  ·exact h.elim
 case h_4 T ln cp hx =>
  split at h
  ·rename_i ti ht;split at h
   ·rename_i e he;split at h
    ·rename_i te k1 n k2 c hte hn1 hc1;have ht:=hE.ty _ _ ht;have hte:=hE.ty _ _ hte;obtain⟨h0,h1,h2,h3,h⟩:=h;obtain⟨h4,h⟩:=zp.1 h;have h4:te.zero.length=te.size:=by simpa using h4
     split at h
     ·rename_i l hl;obtain⟨d,i,zv,hd',hi,hz,hti⟩:=xj hte;have hzc:te.zero=zv.cells.toList.map wg:=by rw[hti];rfl
      have hss:te.size=i.size:=by rw[hti];rfl
      have hev:a.eval ln = .int k1 n/\a.eval cp = .int k2 c:=by
       obtain⟨ρ,hs,hN,hdf,hf⟩:=hr;have e1:=kX hf ln;have e2:=kX hf cp;rw[hn1]at e1;rw[hc1]at e2;exact⟨e1,e2⟩
      have hzs:zv.cells.size=te.size:=by rw[<- h4,hzc];simp
      obtain⟨cs,hcs⟩:∃ cs:Array Value,cs=(Array.range (c.toNat*te.size)).map fun q=>zv.cells[q%zv.cells.size]! := ⟨_,rfl⟩;have hcz:cs.size=c.toNat*te.size:=by rw[hcs];simp
      have hcg:∀ q,q<c.toNat*te.size->cs[q]? = some (zv.cells[q%te.size]!):=by
       intro q hq;rw[hcs,<- hzs];rw[<- hzs]at hq;simp[hq]
      have hbt:te.bytes=i.bytes:=by rw[hti];rfl
      have hrun:(Instr.makeSlice T (.int k1 n) (.int k2 c)).run E.P w = .ok (.slice (some ⟨w.heap.size,0,none⟩) n.toNat c.toNat) (w.alloc (.cells cs e)):=by
       have:=run_make (P:=E.P) w T e i zv (z9 ht he) hi hz k1 k2 n c h0 h1 (by rw[<- hbt];exact h3) (by omega);rw[this,hcs,hss];rfl
      have hex:(execOp a.eval o).run E.P w = .ok (.value (.slice (some ⟨w.heap.size,0,none⟩) n.toNat c.toNat)) (w.alloc (.cells cs e)):=by
       have:execOp a.eval o=(do let z <- Instr.makeSlice T (a.eval ln) (a.eval cp);pure (.value z)):=by unfold execOp;rw[hx]
       rw[this,hev.1,hev.2,Sem.run_bind,hrun];rfl
      unfold Oper.wp;rw[hex];have hzr:∀ D ρ,CRels D w ρ te.zero zv.cells.toList:=fun D ρ=>zero_rel hzc;have hll:l=te.zero:=by
       simp only[zQ]at hl;split at hl
       ·cases hl;rfl
       ·cases hl
      have hmod:∀ {i j:Nat},j<te.size->(i*te.size+j)%te.size=j:=by
       intro i j hj;rw[Nat.add_comm,Nat.add_mul_mod_self_right,Nat.mod_eq_of_lt hj]
      refine hn _ _ _ h (Rel.push hr hcz (by omega) (by unfold maxLen;omega) (fun ρ hs hf i j hi hj=>?_) (fun hr' q d e=>?_) hd _ _ (fun ρ hl=>?_) (by simp) (by simp))
      ·obtain⟨u,hu,hur⟩:=(hzr (Dof C.D0 ρ σ.bl) ρ).get j _ (y7 (d:=Cell.any) (by omega));refine⟨u,?_,by simp only[zeroF,hll];exact hur⟩;rw[hcg _ (vk hi hj (by omega)),hmod hj];have hj2:j<zv.cells.size:=by omega
       simp at hu;simp[hj2]at hu ⊢
       exact hu
      ·obtain⟨ρ,hs,hN,hdf,hf⟩:=hr;have hx3:=(jz hs hl (D:=fun _=>False) (x := .g te.zero) (v := .agg zv.cells) ⟨zv.cells,rfl,hzr _ _⟩).2.2 hr';have hq:q<c.toNat*te.size:=by
        have:=(Array.getElem?_eq_some_iff.1 e).1;omega
       rw[hcg q hq]at e;have hts:0<te.size:=by
        rcases Nat.eq_zero_or_pos te.size with h0 | h0
        ·rw[h0]at hq;omega
        ·exact h0
       have hlt:=Nat.mod_lt q hts;have:=hx3 (q%te.size) d;rw[show(Value.agg zv.cells).cells=zv.cells from rfl]at this;apply this;simp[show q%te.size<zv.cells.size by omega]at e ⊢
       exact e
      ·exact⟨_,last_loc hl _,Nat.le_refl _,fun _=>by simp[Loc.v]⟩
     ·exact h.elim
    ·exact h.elim
   ·exact h.elim
  ·exact h.elim
 case h_5 T len parts hx =>
  split at h
  ·rename_i ti ht;split at h
   ·rename_i e he;split at h
    ·rename_i te hte;have ht:=hE.ty _ _ ht;have hte:=hE.ty _ _ hte;obtain⟨h0,h⟩:=zp.1 h;simp only[Bool.and_eq_true,Nat.ble_eq]at h0;obtain⟨hl1,h1⟩:=h0;split at h
     ·rename_i l0 hl0;split at h
      ·rename_i l hl;have hll:l=l0:=by
        simp only[zQ]at hl;split at hl
        ·cases hl;rfl
        ·cases hl
       subst hll;obtain⟨d,i,zv,hd',hi,hz,hti⟩:=xj hte;obtain⟨z0,hz0⟩:∃ z0:Array Value,z0=(Array.range (len*te.size)).map (fun q=>(if len*te.size=0 then #[]else zv.cells)[q%(if len*te.size=0 then #[]else zv.cells:Array Value).size]!):=⟨_,rfl⟩;have hzs:z0.size=len*te.size:=by rw[hz0];simp
       have hfill:∀ ρ,Sat C.D0 C.w0 C.r ρ σ.bl w->(∀ t,VRel (Dof C.D0 ρ σ.bl) w ρ (σ.tm t) (a.tmps.getD t undef))->∃ cells',Instr.fill (fun i=>some (i*te.size,te.size)) z0 (parts.toList.map fun q=>(q.1,a.eval q.2))=some cells'/\CRels (Dof C.D0 ρ σ.bl) w ρ l cells'.toList:=by
        intro ρ hs hf;refine fill_rel hs (fun i off fsz hi=>?_) (g:=σ.ev) (e:=a.eval) parts.toList _ l z0 hl0 (fun q _=>kX hf q.2) (any_rels _ _ (by simp[hzs]));rw[List.getElem?_map]at hi;rcases Nat.lt_or_ge i len with h2 | h2
        ·rw[List.getElem?_range h2]at hi;simp at hi;simp[<- hi.1,<- hi.2]
        ·rw[List.getElem?_eq_none (by simp;omega)]at hi;cases hi
       have hr0:=hr;obtain⟨ρ,hs,hN,hdf,hf⟩:=hr;obtain⟨cells',e1,e2⟩:=hfill ρ hs hf;have hcz:cells'.size=len*te.size:=by
        have:=e2.length;rw[jF _ _ _ hl0]at this;simpa using this.symm
       have hex:(execOp a.eval o).run E.P w = .ok (.value (.slice (some ⟨w.heap.size,0,none⟩) len len)) (w.alloc (.cells cells' e)):=by
        have h3:execOp a.eval o=(do let z <- Instr.buildSlice T len (parts.map fun(i,x)=>(i,a.eval x));pure (.value z)):=by unfold execOp;rw[hx]
        have h4:(Instr.buildSlice T len (parts.map fun(i,x)=>(i,a.eval x))).run E.P w = .ok (.slice (some ⟨w.heap.size,0,none⟩) len len) (w.alloc (.cells cells' e)):=by
         have hpl:(parts.map fun(i,x)=>(i,a.eval x)).toList=parts.toList.map fun q=>(q.1,a.eval q.2):=by simp
         have hsz:=fun w=>v8 hte w;have hzv:∀ w,(zeroValue e).run E.P w = .ok zv w:=fun w=>by simp[zeroValue,typeInfo,hi,hz]
         have h1':¬ 16777216<len*te.size:=by omega
         have e1':Instr.fill (fun i=>some (i*te.size,te.size)) z0 (parts.toList.map fun x=>(x.fst,a.eval x.snd))=some cells':=e1;by_cases h0:len*te.size=0
         ·have hz1:z0=#[]:=by apply Array.eq_empty_of_size_eq_zero;omega
          rw[hz1]at e1';have hz2:Array.map (fun _=>(default:Value)) (Array.range 0)=#[]:=by apply Array.eq_empty_of_size_eq_zero;simp
          simp[Instr.buildSlice,run_underlying (z9 ht he),hsz,h0,newRow,newObj];rw[hz2,e1'];rfl
         ·rw[if_neg h0]at hz0;rw[hz0]at e1';simp[Instr.buildSlice,run_underlying (z9 ht he),hsz,h0,h1',newRow,newObj,hzv,e1'];rfl
        rw[h3,Sem.run_bind,h4];rfl
       unfold Oper.wp;rw[hex];refine hn _ _ _ h (Rel.push hr0 hcz (Nat.le_refl _) (by unfold maxLen;omega) (fun ρ hs hf i j hi hj=>?_) (fun hr' q d e=>?_) hd _ _ (fun ρ hl=>?_) (by simp) (by simp))
       ·obtain⟨c2,e3,e4⟩:=hfill ρ hs hf;rw[e1]at e3;cases e3;obtain⟨u,hu,hur⟩:=e4.get (i*te.size+j) _ (y7 (d:=Cell.any) (by rw[jF _ _ _ hl0];simp;exact vk hi hj (Nat.le_refl _)));exact⟨u,by simpa using hu,hur⟩
       ·exact(jz hs hl (x := .g l) (v := .agg cells') ⟨cells',rfl,e2⟩).2.2 hr' q d (by simpa [Value.cells] using e)
       ·exact⟨_,last_loc hl _,Nat.le_refl _,fun _=>by simp[Loc.v]⟩
      ·exact h.elim
     ·exact h.elim
    ·exact h.elim
   ·exact h.elim
  ·exact h.elim
 case h_6 g args ts hx =>
  split at h
  ·rcases h with h | h
   case inr =>
    obtain⟨σ',h1,h2,h3⟩:=Rel.frzA h hr;exact dop_rel hE hC h1 hd h2 fun v a' w' hk hrel=>hn _ _ _ hk hrel
   cases hg:kg σ g with
   | none=>rw[hg]at h;exact h.elim
   | some f =>
    rw[hg]at h;obtain⟨fz,d,h⟩:=h;have hr1:Rel C (ph1 d σ) a w:=by
     cases d with
     | false=>exact hr
     | true =>
      obtain⟨ρ,hs,hN,hdf,hf⟩:=hr;obtain⟨p1,p2⟩:=hs.ph;exact⟨_,p1,⟨hN.1,hN.2.trans (LocsLe.append _ _)⟩,hdf,fun t=>(hf t).step (Ext.refl _ _) (fun b _ hb=>(p2 b).1 hb) (LocsLe.append _ _)⟩
    obtain⟨σ1,h1,h2,h3⟩:=Rel.frzA h hr1;obtain⟨k,B,as,X,B',fresh,c1,c2,c3,c4,c5,c6,c7,c8,c9⟩:=h1;have htm:σ1.tm=σ.tm:=by rw[h3];cases d <;> rfl
    have hg1:kg σ1 g=some f:=by
     unfold kg at hg ⊢
     rw[htm];exact hg
    exact callM_core hx hg1 h2 (by rw[hC];exact c1) c2 c3 c4 c5 c6 c7 c8 hd fun a' w' hrel=>hn _ _ _ c9 hrel
  ·obtain⟨σ',h1,h2,h3⟩:=Rel.frzA h hr;exact dop_rel hE hC h1 hd h2 fun v a' w' hk hrel=>hn _ _ _ hk hrel
 case h_7 args ts hx=>exact appA_sound hE hC hx h hd hr hn
 case h_8=>exact dop_rel hE hC h hd hr fun v a' w' hk hrel=>hn _ _ _ hk hrel
end Go.Proofs.YtkmbnldginonbaaGreat
/- Regions: operations in the order of the text, and in any order. -/
namespace Go.Proofs.YtkmbnldginonbaaGreat
open Go.RowKit
def Uv (σ:St) (ops:Array Oper) (g:Nat):Option (Nat × Bool) :=
 match (ops[g]?).bind (·.dst)with
 | some d=>match σ.tm d with
  | .c (.bool b)=>some (d,b)
  | _=>none
 | none=>none
def V9 (σ:St) (ops:Array Oper) (g:Nat):Bool :=
 match (ops[g]?).bind (·.dst)with
 | some d=>match σ.tm d with
  | .un=>true
  | _=>false
 | none=>false
def aops (E : Env) (ops : Array Oper) : List Oper → St → (St → Prop) → Prop
 | [],σ,K=>K σ
 | o :: rest,σ,K=>match o.guard with
  | none=>aop E o σ fun σ'=>aops E ops rest σ' K
  | some (g,want)=>match Uv σ ops g with
   | some (d,b)=>cs (gw want b) (aop E o (σ.put (some d) (.c (.bool want))) fun σ'=>aops E ops rest σ' K) (aops E ops rest ((σ.put (some d) (.c (.bool !want))).put o.dst .un) K)
   | none=>match V9 σ ops g with
    | true=>aops E ops rest (σ.put o.dst .un) K
    | false=>False
def QR (C:Ctx) (R:Exit->St->Prop) (e:Exit) (a:Act) (w:World):Prop:=∃ σ,Rel C σ a w/\R e σ
theorem WF {σ:St} {a:Act} {w:World} {ops:Array Oper} {g d:Nat} {b:Bool} (h:Uv σ ops g=some (d,b)) (hx:∀ d,(ops[g]?).bind (·.dst)=some d->∃ D ρ,VRel D w ρ (σ.tm d) (a.tmps.getD d undef)):yielded ops a.tmps g=some b/\a.tmps.getD d undef = .bool b/\d<a.tmps.size/\σ.tm d = .c (.bool b):=by
 unfold Uv at h;split at h
 ·rename_i d' hd;split at h
  ·rename_i b' hb;cases h;obtain⟨D,ρ,hv⟩:=hx d hd;rw[hb]at hv;have hv':a.tmps.getD d undef = .bool b:=hv;have hlt:d<a.tmps.size:=by
    rcases Nat.lt_or_ge d a.tmps.size with h | h
    ·exact h
    ·rw[Array.getD,dif_neg (by omega)]at hv';simp[undef]at hv'
   refine⟨?_,hv',hlt,hb⟩;unfold yielded;rw[hd];simp only[Option.bind_some];rw[Array.getElem?_eq_getElem hlt];rw[Array.getD,dif_pos hlt]at hv';rw[show a.tmps[d] = .bool b from hv']
  ·cases h
 ·cases h
theorem guard_un {σ:St} {a:Act} {w:World} {ops:Array Oper} {g:Nat} (h:V9 σ ops g=true) (hx:∀ d,(ops[g]?).bind (·.dst)=some d->∃ D ρ,VRel D w ρ (σ.tm d) (a.tmps.getD d undef)):yielded ops a.tmps g=none:=by
 unfold V9 at h;split at h
 ·rename_i d hd;split at h
  ·rename_i hu;obtain⟨D,ρ,hv⟩:=hx d hd;rw[hu]at hv;have hv':a.tmps.getD d undef=undef:=hv;unfold yielded;rw[hd];simp only[Option.bind_some];rcases Nat.lt_or_ge d a.tmps.size with hlt | hge
   ·rw[Array.getElem?_eq_getElem hlt];rw[Array.getD,dif_pos hlt]at hv';rw[show a.tmps[d]=undef from hv'];rfl
   ·rw[Array.getElem?_eq_none hge]
  ·cases h
 ·cases h
theorem UP {C:Ctx} {σ:St} {a:Act} {w:World} {d:Nat} {v:V} (h:Rel C σ a w) (hv:∀ D ρ,VRel D w ρ v (a.tmps.getD d undef)):Rel C (σ.put (some d) v) a w:=by
 obtain⟨ρ,hs,hN,hdf,hf⟩:=h;refine⟨ρ,hs,hN,hdf,fun t=>?_⟩;simp only[St.put,upd];by_cases e:t=d
 ·subst e;rw[if_pos rfl];exact hv _ _
 ·rw[if_neg e];exact hf t
theorem aops_sound {E : Env} (hE : EnvOK E) {C : Ctx} (hC : C.r = E.r) {ops : Array Oper} {Q : Exit → Act → World → Prop} {K : St → Prop} (hQ : ∀ σ a w, K σ → Rel C σ a w → Q .normal a w) :
  ∀(l:List Oper) (σ:St) (a:Act) (w:World),(∀ o∈l,yX C.N o.dst)->aops E ops l σ K->Rel C σ a w->wpList E.P ops Q l a w
 | [],σ,a,w,_,h,hr=>hQ σ a w h hr
 | o :: rest,σ,a,w,hd,h,hr=>by
  have ih:=fun σ a w=>aops_sound (ops:=ops) hE hC hQ rest σ a w (fun o ho=>hd o (by simp[ho]));unfold wpList;simp only[aops]at h;split at h
  ·rename_i hg;rw[if_pos (by simp[Region.wanted,hg])];exact .inl (UK hE hC h (hd o (by simp)) hr fun σ' a' w' hk hrel=>ih σ' a' w' hk hrel)
  ·rename_i g want hg;split at h
   ·rename_i d b hgv;have h:=cs_iff.1 h;rw[xK,jv]at h;obtain⟨hy,hv,hlt,htm⟩:=WF (a:=a) (w:=w) hgv (by obtain⟨ρ,hs,hN,hdf,hf⟩:=hr;exact fun d _=>⟨_,ρ,hf d⟩);have hwt:Region.wanted o (yielded ops a.tmps)=(b == want):=by
     unfold Region.wanted;rw[hg];simp only[hy];rfl
    rw[hwt];by_cases e:b=want
    ·rw[if_pos (by simp[e])];refine .inl (UK hE hC (h.1 e) (hd o (by simp)) (UP hr fun D ρ=>?_) fun σ' a' w' hk hrel=>ih σ' a' w' hk hrel);rw[hv,e];rfl
    ·have e':b=!want:=by cases b <;> cases want <;> simp_all
     rw[if_neg (by simpa using e)];have h2:Rel C (σ.put (some d) (.c (.bool !want))) a w:=UP hr fun D ρ=>by rw[hv,e'];rfl
     obtain⟨ρ,hs,hN,hdf,hf⟩:=h2;exact ih _ _ _ (h.2 e') (Rel.put hs hN hdf hf (hd o (by simp)) rfl)
   ·split at h
    ·rename_i hgu;have hy:=guard_un (a:=a) (w:=w) hgu (by obtain⟨ρ,hs,hN,hdf,hf⟩:=hr;exact fun d _=>⟨_,ρ,hf d⟩);have hwt:Region.wanted o (yielded ops a.tmps)=false:=by
      unfold Region.wanted;rw[hg];simp only[hy];rfl
     rw[hwt,if_neg (by simp)];obtain⟨ρ,hs,hN,hdf,hf⟩:=hr;exact ih _ _ _ h (Rel.put hs hN hdf hf (hd o (by simp)) rfl)
    ·exact h.elim
end Go.Proofs.YtkmbnldginonbaaGreat
