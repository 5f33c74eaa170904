/- Operations that make blocks, where the order is open: a place is kept for each block. -/
import Derived.Test.YtkmbnldginonbaaGreatPo3
import Derived.Orders
set_option maxHeartbeats 1000000
namespace Go.Proofs.YtkmbnldginonbaaGreat
open Go.RowKit
def yq (bl : List Blk) : Option (Nat × Blk) → List Blk
 | none=>bl
 | some (k,B)=>bl.set k B
@[simp] theorem setO_length (bl : List Blk) (u : Option (Nat × Blk)) : (yq bl u).length = bl.length := by cases u <;> simp [yq]
theorem Sat.revive {D0 : Nat → Prop} {w0 : Base} {w : World} {r : Bool} {ρ : List Loc} {bl : List Blk} (h : Sat D0 w0 r ρ bl w) {fr : Nat} {l0 : Loc} {Bd : Blk} (hl0 : ρ[fr]? = some l0) (hu0 : l0.u = 0) (hBd : bl[fr]? = some Bd) {cs : Array Value} {t sz n cap : Nat} {f : Nat → Nat → Cell} (hs : cs.size = cap * sz) (hn : n ≤ cap) (hc : cap ≤ maxLen)
  (hf:∀ i j,i<n->j<sz->∃ u,cs[i*sz+j]? = some u/\CRel (Dof D0 ρ bl) w ρ (f i j) u) (hU:r=true->∀(i:Nat) (d:Int),cs[i]? ≠ some (.int .u32 d)) :
  Sat D0 w0 r (ρ.set fr ⟨1,some w.heap.size,n,cap⟩) (bl.set fr ⟨t,sz,n,1,0,f⟩) (w.alloc (.cells cs t)) /\
  (∀ b,b<w.heap.size->Dof D0 (ρ.set fr ⟨1,some w.heap.size,n,cap⟩) (bl.set fr ⟨t,sz,n,1,0,f⟩) b->Dof D0 ρ bl b)/\LocsLe ρ (ρ.set fr ⟨1,some w.heap.size,n,cap⟩):=by
 have hfl:fr<ρ.length:=(List.getElem?_eq_some_iff.1 hl0).1;have hfb:fr<bl.length:=(List.getElem?_eq_some_iff.1 hBd).1;have get:∀(k:Nat) (l:Loc) (B:Blk),(ρ.set fr ⟨1,some w.heap.size,n,cap⟩)[k]? = some l->(bl.set fr ⟨t,sz,n,1,0,f⟩)[k]? = some B->(k≠fr/\ρ[k]? = some l/\bl[k]? = some B)∨(k=fr/\l=⟨1,some w.heap.size,n,cap⟩/\B=⟨t,sz,n,1,0,f⟩):=by
  intro k l B h1 h2;by_cases e:k=fr
  ·subst e;rw[List.getElem?_set_self hfl]at h1;rw[List.getElem?_set_self hfb]at h2;cases h1;cases h2;exact .inr ⟨rfl,rfl,rfl⟩
  ·rw[List.getElem?_set_ne (fun h=>e h.symm)]at h1 h2;exact .inl ⟨e,h1,h2⟩
 have hle:LocsLe ρ (ρ.set fr ⟨1,some w.heap.size,n,cap⟩):=by
  intro k l hk;by_cases e:k=fr
  ·subst e;rw[hl0]at hk;cases hk;exact⟨_,List.getElem?_set_self hfl,fun e=>by simp at e;omega,by simp;omega⟩
  ·exact⟨l,by rw[List.getElem?_set_ne (fun h=>e h.symm)];exact hk,fun _=>rfl,Nat.le_refl _⟩
 have old:∀(k:Nat) (l:Loc) (B:Blk) (b:Nat),ρ[k]? = some l->bl[k]? = some B->B.st<=1->l.b=some b->b<w.heap.size:=by
  intro k l B b e1 e2 e3 e4;rcases(h.at_ k l B e1 e2 e3).2 with⟨_,h5,_⟩ | ⟨b',cap',cs',h5,_,_,h6,_⟩
  ·rw[h5]at e4;cases e4
  ·rw[h5]at e4;cases e4;exact yB h6
 have hD:∀ b,b<w.heap.size->Dof D0 (ρ.set fr ⟨1,some w.heap.size,n,cap⟩) (bl.set fr ⟨t,sz,n,1,0,f⟩) b->Dof D0 ρ bl b:=by
  intro b hb hx;rcases hx with hx | ⟨k,l,B,h1,h2,h3,h4⟩
  ·exact .inl hx
  ·rcases get k l B h1 h2 with⟨_,g1,g2⟩ | ⟨_,rfl,rfl⟩
   ·exact .inr ⟨k,l,B,g1,g2,h3,h4⟩
   ·simp at h4;omega
 have hE:Ext (Dof D0 ρ bl) w (w.alloc (.cells cs t)):=⟨by simp,fun b hb _=>Below.heap_alloc w _ b hb⟩;refine⟨⟨h.below.alloc _,h.d0,by simp[h.len],?_,?_,?_⟩,hD,hle⟩
 ·intro k l B h1 h2;rcases get k l B h1 h2 with⟨_,g1,g2⟩ | ⟨_,rfl,rfl⟩
  ·intro hst;exact(h.at_ k l B g1 g2).step hE hD hle (fun b e=>Below.heap_alloc w _ b (old k l B b g1 g2 hst e)) hst
  ·intro _;refine⟨rfl,.inr ⟨_,cap,cs,rfl,.inl h.below.size,rfl,heap_alloc_new w _,hs,hn,hc,fun i j hi hj=>?_⟩⟩;obtain⟨u,hu,hr⟩:=hf i j hi hj;exact⟨u,hu,by simp only[if_true];exact hr.step hE hD hle⟩
 ·intro i j li lj Bi Bj b h1 h2 h3 h4 h5 h6 h7 h8;rcases get i li Bi h1 h3 with⟨_,g1,g2⟩ | ⟨e1,rfl,rfl⟩ <;> rcases get j lj Bj h2 h4 with⟨_,g3,g4⟩ | ⟨e2,rfl,rfl⟩
  ·exact h.dist i j li lj Bi Bj b g1 g3 g2 g4 h5 h6 h7 h8
  ·have:=old i li Bi b g1 g2 h5 h7;simp at h8;omega
  ·have:=old j lj Bj b g3 g4 h6 h8;simp at h7;omega
  ·rw[e1,e2]
 ·intro hr b o d hb;rcases Nat.lt_or_ge b w.heap.size with hlt | hge
  ·have:=h.noU hr b o d (hD b hlt hb);simp only[World.cell?]at this ⊢
   rw[Below.heap_alloc w _ b hlt];exact this
  ·by_cases e:b=w.heap.size
   ·subst e;simp only[World.cell?,heap_alloc_new w _];simp only[Option.isSome_none,Bool.false_eq_true,if_false];exact hU hr o d
   ·simp only[World.cell?,Array.getElem?_eq_none (show(w.alloc (.cells cs t)).heap.size<=b by simp;omega)];simp
def gY : Op → Bool
 | .box .. | .alloc .. | .makeSlice .. | .buildSlice .. => true
 | .call { callee := .builtin .append,.. }=>true
 | .call { callee := .value (.func f),.. }=>frS f
 | _=>false
def isWr : Op → Bool
 | .store .. => true
 | .call { callee := .value (.func f),args,.. }=>wrF f||fzF f args
 | .call { callee := .builtin .append,.. }=>true
 | _=>false
def Cell.clos1 (k : Nat) : Cell → Bool
 | .p .. | .sl .. => false
 | .gs i _=>i == k
 | .cl F m f=>(Cell.cl F m f).clos
 | _=>true
def clos1 (k : Nat) : V → Bool
 | .c x=>x.clos1 k
 | .g l=>l.all Cell.clos
 | _=>false
def appS (E:Env) (σ:St) (fr:Nat) (args:List Operand) (ts:List TypeId) (K:V->Option (Nat × Blk)->Prop):Prop:=match args,ts with
 | [x,y],[T,T']=>match E.ty T with
  | some ti=>match ti.elem with
   | some e=>match E.ty e with
    | some te=>chk (T == T'&&(te.zero.length == te.size&&((1:Nat).ble te.size&&((!E.r||te.zero.all Cell.noU)&&te.bytes.ble 8388608)))) (match σ.ev x with
     | .c (.gs k u)=>match σ.bl[k]?,srcA σ.bl te.size k (σ.ev y)with
      | some B,some (m,fy)=>chk (B.u == u&&(B.st == 0&&(B.sz == te.size&&B.t == e))) (B.n+m<=16777216/\(∀ i j,i<m->j<te.size->St.one [] (fy i j)=true/\(E.r=true->(fy i j).noU=true))/\K (.c (.gs k (u+1))) (some (k,⟨B.t,B.sz,B.n+m,B.u+1,0,zB B.n B.f fy⟩)))
      | _,_=>False
     | .c .nil=>match srcA σ.bl te.size fr (σ.ev y)with
      | some (m,fy)=>m<=16777216/\(∀ i j,i<m->j<te.size->St.one [] (fy i j)=true/\(E.r=true->(fy i j).noU=true))/\K (.c (.gs fr 1)) (some (fr,⟨e,te.size,0+m,1,0,zB 0 (fun _ _ => .any) fy⟩))
      | none=>False
     | _=>False)
    | none=>False
   | none=>False
  | none=>False
 | _,_=>False
def sopW (E:Env) (f:FuncId) (args:Array Operand) (σ:St) (K:V->Option (Nat × Blk)->Prop):Prop :=
 ∃(k:Nat) (B:Blk) (as:List V) (X:V) (B':Blk),FnM E.P E.r f B as X B' []/\σ.bl[k]? = some B/\B.st=0/\B.plain/\B'.plain/\B'.st=0/\B'.u=B.u/\as.all V.fst=true/\(∃ x∈args.toList,σ.ev x = .c (.gs k B.u)) /\
  (args.toList.map fun x=>St.close σ.bl (σ.ev x))=as.map (V3 k σ.bl.length)/\(args.toList.all fun x=>clos1 k (St.close σ.bl (σ.ev x)))=true/\K (V3 k σ.bl.length X) (some (k,B'))
def sop (E:Env) (o:Oper) (σ:St) (fr:Nat) (K:V->Option (Nat × Blk)->Prop):Prop :=
 match o.op with
 | .box T x=>match zQ σ.bl E.r (σ.ev x)with
  | some l=>K (.c (.p fr 1 l.length 0 0)) (some (fr,⟨T,l.length,1,1,0,qk l⟩))
  | none=>False
 | .alloc T=>match E.ty T with
  | some ti=>match zQ σ.bl E.r (.g ti.zero)with
   | some l=>K (.c (.p fr 1 l.length 0 0)) (some (fr,⟨T,l.length,1,1,0,qk l⟩))
   | none=>False
  | none=>False
 | .store T x y=>match E.ty T,σ.ev x,zQ σ.bl E.r (σ.ev y)with
  | some ti,.c (.p k u sz i o'),some l=>match σ.bl[k]? with
   | some B=>chk (B.u == u&&(B.sz == sz&&(B.st == 0&&(l.length == ti.size&&(o'+l.length).ble sz)))) (K (.c .any) (some (k,{ B with f:=zY B.f i o' l })))
   | none=>False
  | _,_,_=>False
 | .makeSlice T ln cp=>match E.ty T with
  | some ti=>match ti.elem with
   | some e=>match E.ty e,σ.ev ln,σ.ev cp with
    | some te,.c (.int _ n),.c (.int _ c)=>0<=n/\n<=c/\c<=281474976710656/\(te.bytes:Int)*c<=281474976710656/\chk (te.zero.length == te.size) (match zQ σ.bl E.r (.g te.zero)with
     | some l=>K (.c (.gs fr 1)) (some (fr,⟨e,te.size,n.toNat,1,0,zeroF l⟩))
     | none=>False)
    | _,_,_=>False
   | none=>False
  | none=>False
 | .buildSlice T len parts=>match E.ty T with
  | some ti=>match ti.elem with
   | some e=>match E.ty e with
    | some te=>chk (len.ble 16777216&&(len*te.size).ble 16777216) (match k8 σ.bl ((List.range len).map fun i=>some (i*te.size,te.size)) (List.replicate (len*te.size) .any) (parts.toList.map fun q=>(q.1,σ.ev q.2))with
     | some l=>match zQ σ.bl E.r (.g l)with
      | some l=>K (.c (.gs fr 1)) (some (fr,⟨e,te.size,len,1,0,xJ te.size l⟩))∨(l.all Cell.clos=true/\K (.c (.row te.size len (xJ te.size l))) none)
      | none=>False
     | none=>False)
    | none=>False
   | none=>False
  | none=>False
 | .call { callee := .value (.func f),args,.. }=>match fzF f args with
  | true=>sopW E f args σ K∨dop E o σ fun v=>K v none
  | false=>match wrF f with
   | true=>sopW E f args σ K
   | false=>match frS f with
    | true=>(∃ X F,FnS E.P E.r f [] (args.toList.map fun x=>St.close σ.bl (σ.ev x)) X [F]/\F.st=0/\F.plain/\((args.toList.map fun x=>St.close σ.bl (σ.ev x)).all V.clos)=true/\F.u=0/\K (V6 fr X) (some (fr,{ F with u:=1 })))∨dop E o σ fun v=>K v none
    | false=>dop E o σ fun v=>K v none
 | .call { callee := .builtin .append,args,argTypes }=>appS E σ fr args.toList argTypes.toList K
 | _=>dop E o σ fun v=>K v none
def Steps2 (P:Program) (D0:Nat->Prop) (w0:Base) (r:Bool) (o:Oper) (σ:St) (fr:Nat) (X:V) (ub:Option (Nat × Blk)):Prop :=
 ∀(ρ:List Loc) (bl:List Blk) (a:Act) (w:World),Sat D0 w0 r ρ bl w->Agree o σ bl->(gY o.op=true->∃ l B,ρ[fr]? = some l/\l.u=0/\bl[fr]? = some B/\B.st=2/\l=phL)->(∀ x∈o.op.operands,VRel (Dof D0 ρ bl) w ρ (σ.ev x) (a.eval x))->∀(next:Act->World->Prop) (Q:Exit->Act->World->Prop),
  (∀ v w' ρ',Sat D0 w0 r ρ' (yq bl ub) w'->Ext (Dof D0 ρ bl) w w'->(∀ b,b<w.heap.size->Dof D0 ρ' (yq bl ub) b->Dof D0 ρ bl b)->LocsLe ρ ρ'->(∀ k,(∀ B,ub≠some (k,B))->ρ'[k]? = ρ[k]?)->VRel (Dof D0 ρ' (yq bl ub)) w' ρ' X v->next (a.put o.dst v) w')->o.wp P a w next Q
theorem yx {bl bl':List Blk} {r:Bool} {x:V} {l:List Cell} (h:Vj bl bl' x) (h1:zQ bl r x=some l):zQ bl' r x=some l:=by
 cases x with
 | c y =>
  simp only[zQ]at h1 ⊢
  split at h1
  ·rename_i hc;have hc':=hc;simp only[Bool.and_eq_true]at hc';rw[if_pos (by simp only[Bool.and_eq_true];exact⟨one_congr h hc'.1,hc'.2⟩)];exact h1
  ·cases h1
 | g l' =>
  simp only[zQ]at h1 ⊢
  split at h1
  ·rename_i hc;have hc':=hc;simp only[Bool.and_eq_true]at hc';rw[if_pos (by
    simp only[Bool.and_eq_true];refine⟨List.all_eq_true.2 fun c hcm=>one_congr (fun k u hm=>h k u ⟨c,hcm,hm⟩) (List.all_eq_true.1 hc'.1 c hcm),hc'.2⟩)]
   exact h1
  ·cases h1
 | t2 a b=>exact h1
 | t3 a b d=>exact h1
 | t4 a b d e=>exact h1
 | un=>exact h1
theorem cellOf_ment (v:Value) (k u:Nat):¬(wg v).ment k u:=by
 unfold wg;split <;> exact id
theorem zero_agree {bl bl':List Blk} {zv:Value} {l:List Cell} (h:l=zv.cells.toList.map wg):Vj bl bl' (.g l):=by
 rintro k u ⟨c,hc,hm⟩;rw[h]at hc;obtain⟨v,_,rfl⟩:=List.mem_map.1 hc;exact absurd hm (cellOf_ment v k u)
theorem fillA_ment {bl : List Blk} {offs : List (Option (Nat × Nat))} : ∀ (parts : List (Nat × V)) (cs l : List Cell), k8 bl offs cs parts = some l → ∀ c ∈ l, ∀ k u, c.ment k u → (∃ c' ∈ cs, c'.ment k u) ∨ ∃ q ∈ parts, q.2.ment k u
 | [],cs,l,h,c,hc,k,u,hm=>by simp[k8]at h;subst h;exact .inl ⟨c,hc,hm⟩
 | (i,x) :: parts,cs,l,h,c,hc,k,u,hm=>by
  have step:∀(l0:List Cell) (off n:Nat),k8 bl offs (cs.take off++l0++cs.drop n) parts=some l->(∀ c'∈l0,c'.ment k u->x.ment k u)->(∃ c'∈cs,c'.ment k u)∨∃ q∈(i,x) :: parts,q.2.ment k u:=by
   intro l0 off n hf hx;rcases fillA_ment parts _ l hf c hc k u hm with⟨c',h1,h2⟩ | ⟨q,h1,h2⟩
   ·rcases List.mem_append.1 h1 with h1 | h1
    ·rcases List.mem_append.1 h1 with h1 | h1
     ·exact .inl ⟨c',List.mem_of_mem_take h1,h2⟩
     ·exact .inr ⟨(i,x),by simp,hx c' h1 h2⟩
    ·exact .inl ⟨c',List.mem_of_mem_drop h1,h2⟩
   ·exact .inr ⟨q,by simp[h1],h2⟩
  simp only[k8]at h;split at h
  ·split at h
   ·split at h
    ·exact step _ _ _ h (fun c' hc' hm'=>by simp at hc';subst hc';exact hm')
    ·cases h
   ·split at h
    ·exact step _ _ _ h (fun c' hc' hm'=>⟨c',hc',hm'⟩)
    ·cases h
   ·cases h
  ·cases h
def SubOK (o:Oper) (σ:St) (fr:Nat) (ub:Option (Nat × Blk)):Prop :=
 ub=none∨(gY o.op=true/\∃ B,ub=some (fr,B)/\B.u=1)∨(isWr o.op=true/\∃ k B u x,ub=some (k,B)/\x∈o.op.operands/\(σ.ev x).ment k u/\∃ B0,σ.bl[k]? = some B0/\B0.st=0/\B0.u=u/\B0.u<=B.u/\B.st=0)
theorem box_fin {D0 : Nat → Prop} {w0 : Base} {w : World} {r : Bool} {ρ : List Loc} {bl : List Blk} (hs : Sat D0 w0 r ρ bl w) {fr : Nat} {l0 : Loc} {Bd : Blk} (q1 : ρ[fr]? = some l0) (q2 : l0.u = 0) (q3 : bl[fr]? = some Bd) {T : TypeId} {l : List Cell} {v : Value} {dst : Option Nat} {a : Act}
  (hc:CRels (Dof D0 ρ bl) w ρ l v.cells.toList/\(∀ u∈v.cells.toList,u.oneCell'=true)/\(r=true->∀(i:Nat) (d:Int),v.cells[i]? ≠ some (.int .u32 d))) (next:Act->World->Prop)
  (hn:∀ x w' ρ',Sat D0 w0 r ρ' (yq bl (some (fr,⟨T,l.length,1,1,0,qk l⟩))) w'->Ext (Dof D0 ρ bl) w w'->(∀ b,b<w.heap.size->Dof D0 ρ' (yq bl (some (fr,⟨T,l.length,1,1,0,qk l⟩))) b->Dof D0 ρ bl b)->LocsLe ρ ρ'->(∀ k,(∀ B,some (fr,(⟨T,l.length,1,1,0,qk l⟩:Blk))≠some (k,B))->ρ'[k]? = ρ[k]?)->VRel (Dof D0 ρ' (yq bl (some (fr,⟨T,l.length,1,1,0,qk l⟩)))) w' ρ' (.c (.p fr 1 l.length 0 0)) x->next (a.put dst x) w') :
  next (a.put dst (.pointer (some ⟨w.heap.size,0,none⟩))) (w.alloc (.cells v.cells T)):=by
 have hsz:v.cells.size=l.length:=by have:=hc.1.length;simpa using this.symm
 have hrev:=hs.revive q1 q2 q3 (t:=T) (sz:=l.length) (n:=1) (cap:=1) (f:=qk l) (by rw[hsz];omega) (Nat.le_refl _) (by unfold maxLen;omega) (fun i j hi hj=>by
  obtain rfl:i=0:=by omega
  obtain⟨u,hu,hur⟩:=hc.1.get j _ (y7 (d:=Cell.any) hj);exact⟨u,by rw[Nat.zero_mul,Nat.zero_add];simpa using hu,hur⟩) hc.2.2
 exact hn _ _ _ hrev.1 ⟨by simp,fun b hb _=>Below.heap_alloc w _ b hb⟩ hrev.2.1 hrev.2.2 (fun k hk=>List.getElem?_set_ne (fun e=>hk _ (by rw[e]))) ⟨_,List.getElem?_set_self (List.getElem?_eq_some_iff.1 q1).1,Nat.le_refl _,fun _=>⟨by show 0<1;omega,w.heap.size,rfl,by simp⟩⟩
theorem srcA_congr {bl bl':List Blk} {sz k:Nat} {y:V} (h:Vj bl bl' y) {p:Nat × (Nat->Nat->Cell)} (hs:srcA bl sz k y=some p):srcA bl' sz k y=some p:=by
 unfold srcA at hs ⊢
 split at hs
 ·exact hs
 ·exact hs
 ·rename_i k' u';split at hs
  ·rename_i B hB;split at hs
   ·rename_i hc;have hc':=hc;simp only[Bool.and_eq_true,beq_iff_eq,Nat.ble_eq]at hc';rw[h k' u' ⟨rfl,rfl⟩ B hB hc'.2.1 hc'.1];simp only[hc,if_true];exact hs
   ·cases hs
  ·cases hs
 ·cases hs
theorem sop_sound {E:Env} (hE:EnvOK E) {o:Oper} {σ:St} {fr:Nat} {K:V->Option (Nat × Blk)->Prop} (h:sop E o σ fr K):∃ X ub,K X ub/\SubOK o σ fr ub/\∀ D0 w0,Steps2 E.P D0 w0 E.r o σ fr X ub:=by
 unfold sop at h;split at h
 case h_1 T x hx =>
  split at h
  ·rename_i l hl;refine⟨_,_,h,.inr (.inl ⟨by rw[hx];rfl,_,rfl,rfl⟩),?_⟩;intro D0 w0 ρ bl a w hs hag hfr hr next Q hn
   obtain⟨l0,Bd,q1,q2,q3,q4⟩:=hfr (by rw[hx];rfl);have hlb:zQ bl E.r (σ.ev x)=some l:=yx (hag (by rw[hx];rfl) x (by rw[hx];simp[Op.operands])) hl;have hc:=jz hs hlb (hr x (by rw[hx];simp[Op.operands]));have hex:(execOp a.eval o).run E.P w = .ok (.value (.pointer (some ⟨w.heap.size,0,none⟩))) (w.alloc (.cells (a.eval x).cells T)):=by
    simp[execOp,hx,Instr.box,newVar,newRow,newObj];rfl
   unfold Oper.wp;rw[hex];exact box_fin hs q1 q2 q3 hc next hn
  ·exact h.elim
 case h_2 T hx =>
  split at h
  ·rename_i ti ht;have ht:=hE.ty _ _ ht;split at h
   ·rename_i l hl;refine⟨_,_,h,.inr (.inl ⟨by rw[hx];rfl,_,rfl,rfl⟩),?_⟩;intro D0 w0 ρ bl a w hs hag hfr hr next Q hn
    obtain⟨l0,Bd,q1,q2,q3,q4⟩:=hfr (by rw[hx];rfl);obtain⟨zv,hz,hzc⟩:=run_zero ht w;have hlb:zQ bl E.r (.g ti.zero)=some l:=yx (zero_agree hzc) hl;have hc:=jz hs hlb (D:=Dof D0 ρ bl) (v := .agg zv.cells) ⟨zv.cells,rfl,zero_rel hzc⟩;have hex:(execOp a.eval o).run E.P w = .ok (.value (.pointer (some ⟨w.heap.size,0,none⟩))) (w.alloc (.cells zv.cells T)):=by
     simp[execOp,hx,Instr.alloc,hz,newVar,newRow,newObj];rfl
    unfold Oper.wp;rw[hex];exact box_fin hs q1 q2 q3 hc next hn
   ·exact h.elim
  ·exact h.elim
 case h_3 T x y hx =>
  split at h
  ·rename_i ti k u sz i o' l ht hv hl;split at h
   ·rename_i B hB;have ht:=hE.ty _ _ ht;obtain⟨g0,g7⟩:=zp.1 h;simp only[Bool.and_eq_true,beq_iff_eq,Nat.ble_eq]at g0;obtain⟨g1,g2,g3,g5,g6⟩:=g0;refine⟨_,_,g7,.inr (.inr ⟨by rw[hx];rfl,k,_,u,x,rfl,by rw[hx];simp[Op.operands],by rw[hv];exact⟨rfl,rfl⟩,B,hB,g3,g1,Nat.le_refl _,g3⟩),?_⟩;intro D0 w0 ρ bl a w hs hag _ hr next Q hn
    have hB:=hag (by rw[hx];rfl) x (by rw[hx];simp[Op.operands]) k u (by rw[hv];exact⟨rfl,rfl⟩) B hB (by omega) g1;have e1:=hr x (by rw[hx];simp[Op.operands]);rw[hv]at e1;have hlb:zQ bl E.r (σ.ev y)=some l:=yx (hag (by rw[hx];rfl) y (by rw[hx];simp[Op.operands])) hl;obtain⟨lc,hlc,hu,hp⟩:=e1;obtain⟨q0,q1⟩:=hs.at_ k lc B hlc hB (by omega);have hln:=loc_n hs hlc hB (by omega);obtain⟨g4,hp2⟩:=hp (by omega);rw[hln]at g4;rcases q1 with⟨q1,_,_⟩ | ⟨b,cap,cs,q1,q2,q3,q4,q5,q6,q7,q8⟩
    ·omega
    obtain⟨b',e2,e3⟩:=hp2;rw[q1]at e2;cases e2;obtain⟨c1,c2,c3⟩:=jz hs hlb (hr y (by rw[hx];simp[Op.operands]));have hlen:=c1.length;simp only[Array.length_toList]at hlen;have hfit:i*sz+o'+0+(a.eval y).cells.toList.length<=cs.size:=by
     simp only[Array.length_toList,Nat.add_zero];rw[q5,g2];have:(i+1)*sz<=cap*sz:=Nat.mul_le_mul_right _ (by omega);rw[Nat.succ_mul]at this;omega
    have hst:=run_storeCells_at (P:=E.P) b (i*sz+o') B.t (a.eval y).cells.toList 0 cs w q4 hfit c2;obtain⟨cs',hcs'⟩:∃ cs',cs'=(cs.toList.take (i*sz+o'+0)++(a.eval y).cells.toList++cs.toList.drop (i*sz+o'+0+(a.eval y).cells.toList.length)).toArray:=⟨_,rfl⟩;rw[<- hcs']at hst;have hcl:cs'.size=cs.size:=by
     rw[hcs'];simp at hfit ⊢;omega
    have hget:∀ m:Nat,cs'[m]? = if i*sz+o'<=m/\m<i*sz+o'+l.length then(a.eval y).cells[m-(i*sz+o')]? else cs[m]? := by
     intro m;rw[hcs'];simp only[Nat.add_zero,List.getElem?_toArray,List.append_assoc];have ht:(cs.toList.take (i*sz+o')).length=i*sz+o':=by simp at hfit ⊢;omega
     rcases Nat.lt_or_ge m (i*sz+o')with hm | hm
     ·rw[List.getElem?_append_left (by omega),if_neg (by omega),List.getElem?_take_of_lt hm];simp
     ·rw[List.getElem?_append_right (by omega),ht];rcases Nat.lt_or_ge (m-(i*sz+o')) l.length with hm2 | hm2
      ·rw[List.getElem?_append_left (by simp;omega),if_pos (by omega)];simp
      ·rw[List.getElem?_append_right (by simp;omega),if_neg (by omega),List.getElem?_drop];simp;congr 1;omega
    have hupd:=hs.update (f':=zY B.f i o' l) (w':=w.setRow b cs') hlc hB g3 q1 q4 (setRow_heap w b cs cs' B.t _ q4) hcl (fun x hx=>setRow_other w b x cs' hx) (by simp) rfl rfl rfl (fun i' j hi' hj=>?_) (fun hr m d=>?_)
    ·obtain⟨s1,s2,s3⟩:=hupd;have hex:(execOp a.eval o).run E.P w = .ok .skip (w.setRow b cs'):=by
      have h1:(storeVar T ⟨b,i*sz+o',none⟩ (a.eval y)).run E.P w = .ok () (w.setRow b cs'):=by
       simp[storeVar,v8 ht,<- g5,hlen,hst,Result.andThen]
      simp[execOp,hx,e3,Instr.storeAt,Instr.sureAddr,h1]
     unfold Oper.wp;rw[hex,Oper.upon_skip];exact hn undef _ ρ s1 s3 (fun x _ hx=>(s2 x).1 hx) (LocsLe.refl _) (fun _ _=>rfl) trivial
    ·rw[hget];unfold zY;by_cases hc:i'=i/\o'<=j/\j<o'+l.length
     ·rw[if_pos hc,if_pos (by rw[hc.1,g2];omega)];obtain⟨v,hv,hvr⟩:=c1.get (j-o') _ (y7 (d:=Cell.any) (by omega));exact⟨v,by rw[hc.1,g2,show i*sz+j-(i*sz+o')=j-o' by omega];simpa using hv,hvr⟩
     ·rw[if_neg hc,if_neg]
      ·obtain⟨v,hv,hvr⟩:=q8 i' j hi' hj;rw[if_pos g3]at hvr;exact⟨v,hv,hvr⟩
      ·rw[g2]at hj ⊢
       intro hh;rcases Nat.lt_trichotomy i' i with hlt | heq | hgt
       ·have:(i'+1)*sz<=i*sz:=Nat.mul_le_mul_right _ hlt;rw[Nat.succ_mul]at this;omega
       ·subst heq;omega
       ·have:(i+1)*sz<=i'*sz:=Nat.mul_le_mul_right _ hgt;rw[Nat.succ_mul]at this;omega
    ·rw[hget];split
     ·exact c3 hr _ d
     ·intro e;have:=hs.noU hr b m d (.inr ⟨k,lc,B,hlc,hB,g3,q1⟩);simp only[World.cell?,q4,Option.isSome_none,Bool.false_eq_true,if_false]at this;exact this e
   ·exact h.elim
  ·exact h.elim
 case h_4 T ln cp hx =>
  split at h
  ·rename_i ti ht;split at h
   ·rename_i e he;split at h
    ·rename_i te k1 n k2 c hte hn1 hc1;have ht:=hE.ty _ _ ht;have hte:=hE.ty _ _ hte;obtain⟨h0,h1,h2,h3,h⟩:=h;obtain⟨h4,h⟩:=zp.1 h;have h4:te.zero.length=te.size:=by simpa using h4
     split at h
     ·rename_i l hl;obtain⟨d,i,zv,hd',hi,hz,hti⟩:=xj hte;have hzc:te.zero=zv.cells.toList.map wg:=by rw[hti];rfl
      have hss:te.size=i.size:=by rw[hti];rfl
      refine⟨_,_,h,.inr (.inl ⟨by rw[hx];rfl,_,rfl,rfl⟩),?_⟩;intro D0 w0 ρ bl a w hs hag hfr hr next Q hnx
      obtain⟨l0,Bd,q1,q2,q3,q4⟩:=hfr (by rw[hx];rfl);have hev:a.eval ln = .int k1 n/\a.eval cp = .int k2 c:=by
       have e1:=hr ln (by rw[hx];simp[Op.operands]);have e2:=hr cp (by rw[hx];simp[Op.operands]);rw[hn1]at e1;rw[hc1]at e2;exact⟨e1,e2⟩
      have hzs:zv.cells.size=te.size:=by rw[<- h4,hzc];simp
      obtain⟨cs,hcs⟩:∃ cs:Array Value,cs=(Array.range (c.toNat*te.size)).map fun q=>zv.cells[q%zv.cells.size]! := ⟨_,rfl⟩;have hcz:cs.size=c.toNat*te.size:=by rw[hcs];simp
      have hcg:∀ q,q<c.toNat*te.size->cs[q]? = some (zv.cells[q%te.size]!):=by
       intro q hq;rw[hcs,<- hzs];rw[<- hzs]at hq;simp[hq]
      have hbt:te.bytes=i.bytes:=by rw[hti];rfl
      have hrun:(Instr.makeSlice T (.int k1 n) (.int k2 c)).run E.P w = .ok (.slice (some ⟨w.heap.size,0,none⟩) n.toNat c.toNat) (w.alloc (.cells cs e)):=by
       have:=run_make (P:=E.P) w T e i zv (z9 ht he) hi hz k1 k2 n c h0 h1 (by rw[<- hbt];exact h3) (by omega);rw[this,hcs,hss];rfl
      have hex:(execOp a.eval o).run E.P w = .ok (.value (.slice (some ⟨w.heap.size,0,none⟩) n.toNat c.toNat)) (w.alloc (.cells cs e)):=by
       have:execOp a.eval o=(do let z <- Instr.makeSlice T (a.eval ln) (a.eval cp);pure (.value z)):=by unfold execOp;rw[hx]
       rw[this,hev.1,hev.2,Sem.run_bind,hrun];rfl
      unfold Oper.wp;rw[hex];have hzr:∀ D ρ,CRels D w ρ te.zero zv.cells.toList:=fun D ρ=>zero_rel hzc;have hll:l=te.zero:=by
       simp only[zQ]at hl;split at hl
       ·cases hl;rfl
       ·cases hl
      have hmod:∀ {i j:Nat},j<te.size->(i*te.size+j)%te.size=j:=by
       intro i j hj;rw[Nat.add_comm,Nat.add_mul_mod_self_right,Nat.mod_eq_of_lt hj]
      have hrev:=hs.revive q1 q2 q3 (t:=e) (n:=n.toNat) (f:=zeroF l) hcz (by omega) (by unfold maxLen;omega) (fun i j hi hj=>?_) (fun hr' q d e=>?_)
      ·exact hnx _ _ _ hrev.1 ⟨by simp,fun b hb _=>Below.heap_alloc w _ b hb⟩ hrev.2.1 hrev.2.2 (fun k hk=>List.getElem?_set_ne (fun e=>hk _ (by rw[e]))) ⟨_,List.getElem?_set_self (List.getElem?_eq_some_iff.1 q1).1,Nat.le_refl _,fun _=>by simp[Loc.v]⟩
      ·obtain⟨u,hu,hur⟩:=(hzr (Dof D0 ρ bl) ρ).get j _ (y7 (d:=Cell.any) (by omega));refine⟨u,?_,by simp only[zeroF,hll];exact hur⟩;rw[hcg _ (vk hi hj (by omega)),hmod hj];have hj2:j<zv.cells.size:=by omega
       simp at hu;simp[hj2]at hu ⊢
       exact hu
      ·have hlb:zQ bl E.r (.g te.zero)=some l:=yx (zero_agree hzc) hl;have hx3:=(jz hs hlb (D:=Dof D0 ρ bl) (x := .g te.zero) (v := .agg zv.cells) ⟨zv.cells,rfl,hzr _ _⟩).2.2 hr';have hq:q<c.toNat*te.size:=by
        have:=(Array.getElem?_eq_some_iff.1 e).1;omega
       rw[hcg q hq]at e;have hts:0<te.size:=by
        rcases Nat.eq_zero_or_pos te.size with h0 | h0
        ·rw[h0]at hq;omega
        ·exact h0
       have hlt:=Nat.mod_lt q hts;have:=hx3 (q%te.size) d;rw[show(Value.agg zv.cells).cells=zv.cells from rfl]at this;apply this;simp[show q%te.size<zv.cells.size by omega]at e ⊢
       exact e
     ·exact h.elim
    ·exact h.elim
   ·exact h.elim
  ·exact h.elim
 case h_5 T len parts hx =>
  split at h
  ·rename_i ti ht;split at h
   ·rename_i e he;split at h
    ·rename_i te hte;have ht:=hE.ty _ _ ht;have hte:=hE.ty _ _ hte;obtain⟨h0,h⟩:=zp.1 h;simp only[Bool.and_eq_true,Nat.ble_eq]at h0;obtain⟨hl1,h1⟩:=h0;split at h
     ·rename_i l0 hl0;split at h
      ·rename_i l hl;have hll:l=l0:=by
        simp only[zQ]at hl;split at hl
        ·cases hl;rfl
        ·cases hl
       subst hll;have core:∀(D0:Nat->Prop) (w0:Base) (ρ:List Loc) (bl:List Blk) (a:Act) (w:World),Sat D0 w0 E.r ρ bl w->Agree o σ bl->(∀ x∈o.op.operands,VRel (Dof D0 ρ bl) w ρ (σ.ev x) (a.eval x))->∃ cells':Array Value,CRels (Dof D0 ρ bl) w ρ l cells'.toList/\cells'.size=len*te.size/\(execOp a.eval o).run E.P w = .ok (.value (.slice (some ⟨w.heap.size,0,none⟩) len len)) (w.alloc (.cells cells' e))/\(E.r=true->∀(q:Nat) (d:Int),cells'[q]? ≠ some (.int .u32 d)):=by
        intro D0 w0 ρ bl a w hs hag hr;have hpm:∀ q∈parts.toList,q.2∈o.op.operands:=fun q hq=>by rw[hx];simp only[Op.operands];simp;exact⟨q.1,by simpa using hq⟩
        have hl0:=Ww (bl':=bl) _ _ (fun q hq=>by
         obtain⟨q',hq',rfl⟩:=List.mem_map.1 hq;exact hag (by rw[hx];rfl) q'.2 (hpm q' hq')) hl0
        obtain⟨d,i,zv,hd',hi,hz,hti⟩:=xj hte;obtain⟨z0,hz0⟩:∃ z0:Array Value,z0=(Array.range (len*te.size)).map (fun q=>(if len*te.size=0 then #[]else zv.cells)[q%(if len*te.size=0 then #[]else zv.cells:Array Value).size]!):=⟨_,rfl⟩;have hzs:z0.size=len*te.size:=by rw[hz0];simp
        obtain⟨cells',e1,e2⟩:∃ cells',Instr.fill (fun i=>some (i*te.size,te.size)) z0 (parts.toList.map fun q=>(q.1,a.eval q.2))=some cells'/\CRels (Dof D0 ρ bl) w ρ l cells'.toList:=by
         refine fill_rel hs (fun i off fsz hi=>?_) (g:=σ.ev) (e:=a.eval) parts.toList _ l z0 hl0 (fun q hq=>hr q.2 (hpm q hq)) (any_rels _ _ (by simp[hzs]));rw[List.getElem?_map]at hi;rcases Nat.lt_or_ge i len with h2 | h2
         ·rw[List.getElem?_range h2]at hi;simp at hi;simp[<- hi.1,<- hi.2]
         ·rw[List.getElem?_eq_none (by simp;omega)]at hi;cases hi
        have hcz:cells'.size=len*te.size:=by
         have:=e2.length;rw[jF _ _ _ hl0]at this;simpa using this.symm
        have hex:(execOp a.eval o).run E.P w = .ok (.value (.slice (some ⟨w.heap.size,0,none⟩) len len)) (w.alloc (.cells cells' e)):=by
         have h3:execOp a.eval o=(do let z <- Instr.buildSlice T len (parts.map fun(i,x)=>(i,a.eval x));pure (.value z)):=by unfold execOp;rw[hx]
         have h4:(Instr.buildSlice T len (parts.map fun(i,x)=>(i,a.eval x))).run E.P w = .ok (.slice (some ⟨w.heap.size,0,none⟩) len len) (w.alloc (.cells cells' e)):=by
          have hpl:(parts.map fun(i,x)=>(i,a.eval x)).toList=parts.toList.map fun q=>(q.1,a.eval q.2):=by simp
          have hsz:=fun w=>v8 hte w;have hzv:∀ w,(zeroValue e).run E.P w = .ok zv w:=fun w=>by simp[zeroValue,typeInfo,hi,hz]
          have h1':¬ 16777216<len*te.size:=by omega
          have e1':Instr.fill (fun i=>some (i*te.size,te.size)) z0 (parts.toList.map fun x=>(x.fst,a.eval x.snd))=some cells':=e1;by_cases h0:len*te.size=0
          ·have hz1:z0=#[]:=by apply Array.eq_empty_of_size_eq_zero;omega
           rw[hz1]at e1';have hz2:Array.map (fun _=>(default:Value)) (Array.range 0)=#[]:=by apply Array.eq_empty_of_size_eq_zero;simp
           simp[Instr.buildSlice,run_underlying (z9 ht he),hsz,h0,newRow,newObj];rw[hz2,e1'];rfl
          ·rw[if_neg h0]at hz0;rw[hz0]at e1';simp[Instr.buildSlice,run_underlying (z9 ht he),hsz,h0,h1',newRow,newObj,hzv,e1'];rfl
         rw[h3,Sem.run_bind,h4];rfl
        refine⟨cells',e2,hcz,hex,fun hr' q d e=>?_⟩;have hlb:zQ bl E.r (.g l)=some l:=yx (by
         rintro k u ⟨c,hc,hm⟩;rcases fillA_ment _ _ _ hl0 c hc k u hm with⟨c',h1,h2⟩ | ⟨q,h1,h2⟩
         ·rw[List.mem_replicate]at h1;rw[h1.2]at h2;exact h2.elim
         ·obtain⟨q',hq',rfl⟩:=List.mem_map.1 h1;exact hag (by rw[hx];rfl) q'.2 (hpm q' hq') k u h2) hl
        exact(jz hs hlb (x := .g l) (v := .agg cells') ⟨cells',rfl,e2⟩).2.2 hr' q d (by simpa [Value.cells] using e)
       rcases h with h | ⟨hcl,h⟩
       ·refine⟨_,_,h,.inr (.inl ⟨by rw[hx];rfl,_,rfl,rfl⟩),?_⟩;intro D0 w0 ρ bl a w hs hag hfr hr next Q hnx
        obtain⟨l0',Bd,q1,q2,q3,q4⟩:=hfr (by rw[hx];rfl);obtain⟨cells',e2,hcz,hex,hU⟩:=core D0 w0 ρ bl a w hs hag hr;unfold Oper.wp;rw[hex];have hrev:=hs.revive q1 q2 q3 (t:=e) (n:=len) (f:=xJ te.size l) hcz (Nat.le_refl _) (by unfold maxLen;omega) (fun i j hi hj=>?_) hU
        ·exact hnx _ _ _ hrev.1 ⟨by simp,fun b hb _=>Below.heap_alloc w _ b hb⟩ hrev.2.1 hrev.2.2 (fun k hk=>List.getElem?_set_ne (fun e=>hk _ (by rw[e]))) ⟨_,List.getElem?_set_self (List.getElem?_eq_some_iff.1 q1).1,Nat.le_refl _,fun _=>by simp[Loc.v]⟩
        ·obtain⟨u,hu,hur⟩:=e2.get (i*te.size+j) _ (y7 (d:=Cell.any) (by rw[jF _ _ _ hl0];simp;exact vk hi hj (Nat.le_refl _)));exact⟨u,by simpa using hu,hur⟩
       ·refine⟨_,_,h,.inl rfl,?_⟩;intro D0 w0 ρ bl a w hs hag _ hr next Q hnx
        obtain⟨cells',e2,hcz,hex,hU⟩:=core D0 w0 ρ bl a w hs hag hr;unfold Oper.wp;rw[hex];have hbel:Below w.heap.size w (w.alloc (.cells cells' e)):=(Below.refl w.heap.size w).alloc (Nat.le_refl _) _;have hE:=Ext.of_below (D:=Dof D0 ρ bl) hbel;refine hnx _ _ ρ (hs.ext hbel) hE (fun _ _ x=>x) (LocsLe.refl _) (fun _ _=>rfl) ⟨_,len,rfl,Nat.le_refl _,fun hn=>⟨w.heap.size,0,rfl,by simp,fun hb=>?_,fun i j hi hj=>?_⟩⟩
        ·have:=hs.lt hb;omega
        ·have hlen:i*te.size+j<l.length:=by rw[jF _ _ _ hl0];simp;exact vk hi hj (Nat.le_refl _)
         obtain⟨u,hu,hur⟩:=e2.get (i*te.size+j) _ (y7 (d:=Cell.any) hlen);refine⟨u,?_,?_⟩
         ·simp only[World.cell?,heap_alloc_new w _,Nat.zero_add];simpa using hu
         ·show CRel (Dof D0 ρ bl) _ [] (l.getD (i*te.size+j) .any) u;have hc:(l.getD (i*te.size+j) .any).clos=true:=by
           have:=List.all_eq_true.1 hcl (l.getD (i*te.size+j) .any) (List.mem_of_getElem? (y7 hlen));exact this
          exact(CRel.clos (ρ':=[]) hur hc).step hE (fun _ _ x=>x) (LocsLe.refl _)
      ·exact h.elim
     ·exact h.elim
    ·exact h.elim
   ·exact h.elim
  ·exact h.elim
 case h_6 f args ts hx =>
  have coreW:(wrF f||fzF f args)=true->sopW E f args σ K->∃ X ub,K X ub/\SubOK o σ fr ub/\∀ D0 w0,Steps2 E.P D0 w0 E.r o σ fr X ub:=by
   rintro hwf ⟨k,B,as,X,B',hM,hB,hst,hp,hp',hst',hu',hfst,⟨x0,hx0,hx0v⟩,hvs,hcl,hK⟩;have hopm:∀ x∈args.toList,x∈o.op.operands:=fun x hxm=>x5 hx hxm;refine⟨_,_,hK,.inr (.inr ⟨by rw[hx];exact hwf,k,B',B.u,x0,rfl,hopm x0 hx0,by rw[hx0v];exact⟨rfl,rfl⟩,B,hB,hst,rfl,Nat.le_of_eq hu'.symm,hst'⟩),?_⟩;intro D0 w0 ρ bl a w hs hag _ hr next Q hn
   have hnb:needB o.op=true:=by rw[hx];rfl
   have h2:bl[k]? = some B:=hag hnb x0 (hopm x0 hx0) k B.u (by rw[hx0v];exact⟨rfl,rfl⟩) B hB (by omega) rfl;obtain⟨l,h1⟩:∃ l,ρ[k]? = some l:=⟨_,List.getElem?_eq_getElem (by rw[hs.len];exact(List.getElem?_eq_some_iff.1 h2).1)⟩;have hk:k<ρ.length:=(List.getElem?_eq_some_iff.1 h1).1;have hceq:(args.toList.map fun x=>St.close bl (σ.ev x))=args.toList.map fun x=>St.close σ.bl (σ.ev x):=by
    refine List.map_congr_left fun x hxm=>?_;have hc1:=List.all_eq_true.1 hcl x hxm;have hagx:=hag hnb x (hopm x hxm);cases hv:σ.ev x with
    | c c =>
     rw[hv]at hc1 hagx;have fin:(St.closeC σ.bl c).clos=true->St.close bl (.c c)=St.close σ.bl (.c c):=fun h=>y8 hagx h;by_cases hclos:(St.closeC σ.bl c).clos=true
     ·exact fin hclos
     ·have hg:∃ u,c = .gs k u:=by
       simp only[St.close,clos1]at hc1;cases c with
       | gs i u =>
        simp only[St.closeC]at hc1 hclos;split at hc1
        ·rename_i B1 hB1;split at hc1
         ·rename_i hst1;rw[hB1]at hclos;simp[hst1,Cell.clos]at hclos
         ·simp only[Cell.clos1,beq_iff_eq]at hc1;exact⟨u,by rw[hc1]⟩
        ·simp only[Cell.clos1,beq_iff_eq]at hc1;exact⟨u,by rw[hc1]⟩
       | sl i u sz o' n =>
        simp only[St.closeC]at hc1 hclos;split at hc1
        ·rename_i B1 hB1;split at hc1
         ·rename_i hst1;rw[hB1]at hclos;simp[hst1,Cell.clos]at hclos
         ·simp[Cell.clos1]at hc1
        ·simp[Cell.clos1]at hc1
       | p i u sz x y =>
        simp only[St.closeC]at hc1 hclos;split at hc1
        ·rename_i B1 hB1;split at hc1
         ·rename_i hst1;rw[hB1]at hclos;simp[hst1,Cell.clos]at hclos
         ·simp[Cell.clos1]at hc1
        ·simp[Cell.clos1]at hc1
       | cl F m f=>exact absurd hc1 hclos
       | _=>exact absurd rfl hclos
      obtain⟨u,rfl⟩:=hg;simp only[St.close,St.closeC,h2,hB]
    | g l=>rw[hv]at hc1 hagx;exact y8 hagx hc1
    | t2 a b=>rfl
    | t3 a b d=>rfl
    | t4 a b d e=>rfl
    | un=>rfl
   obtain⟨s1,s2⟩:=hs.hand h1 h2 (.inl hst) hp;unfold Oper.wp;rw[WP hx rfl hM.1,Oper.upon_enter];have hv:VRels (Dof D0 ρ bl) w ρ (args.toList.map fun x=>St.close bl (σ.ev x)) (args.toList.map a.eval) :=
    VRels.map args.toList fun x hxm=>wP hs (hr x (hopm x hxm))
   rw[hceq,hvs]at hv;have hv2:=VRels.step (D':=Dof (fun b=>Dof D0 ρ bl b/\¬ kW l B b) [l] [B]) (fun b _ hb=>s2 b hb) (VRels.unren h1 hfst hv);have:=hM.2 _ _ l w _ s1 hv2;rw[show(args.toList.map a.eval).toArray=args.map a.eval by rw[<- Array.toList_map,Array.toArray_toList]]at this;refine this.mono ?_;rintro e w' ⟨v,l',ρf,rfl,q1,q2,q3⟩;have hρf:ρf=[]:=by have:=q1.len;simpa using this
   subst hρf;obtain⟨b1,b2,b3,b4,b5⟩:=hs.back h1 h2 q2 hp' (fun F hF=>by simp at hF) q1;simp only[List.append_nil]at b1 b3 b4 b5;refine hn v w' (ρ.set k l') b1 b2 b3 b4 (fun k' hk'=>List.getElem?_set_ne (fun e=>hk' B' (by rw[e]))) ?_;exact(VRel.ren0 hk q3).step (Ext.refl _ _) (fun b _ hb=>b5 b hb) (LocsLe.refl _)
  have coreD:(dop E o σ fun v=>K v none)->∃ X ub,K X ub/\SubOK o σ fr ub/\∀ D0 w0,Steps2 E.P D0 w0 E.r o σ fr X ub:=by
   intro h;obtain⟨X,hX,hst⟩:=U5 hE h;refine⟨X,none,hX,.inl rfl,?_⟩;intro D0 w0 ρ bl a w hs hag _ hr next Q hn
   exact hst D0 w0 ρ bl a w hs hag hr next Q fun v w' hb hv=>hn v w' ρ (hs.ext hb) (Ext.of_below hb) (fun _ _ x=>x) (LocsLe.refl _) (fun _ _=>rfl) hv
  split at h
  ·rename_i hfz;rcases h with h | h
   ·exact coreW (by rw[hfz,Bool.or_true]) h
   ·exact coreD h
  split at h
  ·rename_i hwf;exact coreW (by rw[hwf,Bool.true_or]) h
  ·rename_i hwf;split at h
   ·rename_i hfs;rcases h with⟨X,F,hS,hF0,hFp,hcl,hFu,hK⟩ | h
    ·refine⟨_,_,hK,.inr (.inl ⟨by rw[hx];exact hfs,_,rfl,rfl⟩),?_⟩;intro D0 w0 ρ bl a w hs hag hfr hr next Q hn
     obtain⟨l0,Bd,q1,q2,q3,q4⟩:=hfr (by rw[hx];exact hfs);have hcl2:(args.toList.map fun x=>St.close bl (σ.ev x))=args.toList.map fun x=>St.close σ.bl (σ.ev x):=List.map_congr_left fun x hxm=>y8 (hag (by rw[hx];rfl) x (x5 hx hxm)) (List.all_eq_true.1 hcl _ (List.mem_map_of_mem hxm));have hvs:VRels (Dof D0 ρ bl) w [] (args.toList.map fun x=>St.close σ.bl (σ.ev x)) (args.toList.map a.eval):=by
      rw[<- hcl2]at hcl ⊢
      exact(VRels.map args.toList fun x hxm=>wP hs (hr x (x5 hx hxm))).clos hcl
     have hDof:∀ b,Dof (Dof D0 ρ bl) [] [] b->Dof D0 ρ bl b:=by
      rintro b (h | ⟨k,l,B,h1,_⟩)
      ·exact h
      ·simp at h1
     have hs0:Sat (Dof D0 ρ bl) ⟨w,fun _=>False⟩ E.r [] [] w:=⟨⟨rfl,rfl,rfl,Nat.le_refl _,fun _ _ _=>rfl⟩,fun b hb=>⟨hs.lt hb,id⟩,rfl,fun k l B h1 _=>by simp at h1,fun i j li lj Bi Bj b h1=>by simp at h1,fun hr b o d hb=>hs.noU hr b o d (hDof b hb)⟩;have hvs':=VRels.step (D':=Dof (Dof D0 ρ bl) [] []) (fun b _ hb=>hDof b hb) hvs;unfold Oper.wp;rw[WP hx rfl hS.1,Oper.upon_enter];have:=hS.2 _ _ _ w _ hs0 hvs';rw[show(args.toList.map a.eval).toArray=args.map a.eval by rw[<- Array.toList_map,Array.toArray_toList]]at this;refine this.mono ?_;rintro e w' ⟨v,ρf,rfl,q5,_,q7⟩;match ρf,q5,q7 with
     | [],q5,_=>have:=q5.len;simp at this
     | [lf],q5,q7 =>
      obtain⟨b1,b2,b3,b4,b5⟩:=hs.backS q1 q2 q3 hF0 hFp q5;refine hn v w' _ b1 b2 b3 b4 (fun k hk=>List.getElem?_set_ne (fun e=>hk _ (by rw[e]))) ?_;have hlu:lf.u=0:=by rw[<- hFu];exact(q5.at_ 0 lf F rfl rfl (by omega)).1
      exact(kj (List.getElem?_eq_some_iff.1 q1).1 hlu q7).step (Ext.refl _ _) (fun b _ hb=>b5 b hb) (LocsLe.refl _)
     | _ :: _ :: _,q5,_=>have:=q5.len;simp at this
    ·obtain⟨X,hX,hst⟩:=U5 hE h;refine⟨X,none,hX,.inl rfl,?_⟩;intro D0 w0 ρ bl a w hs hag _ hr next Q hn
     exact hst D0 w0 ρ bl a w hs hag hr next Q fun v w' hb hv=>hn v w' ρ (hs.ext hb) (Ext.of_below hb) (fun _ _ x=>x) (LocsLe.refl _) (fun _ _=>rfl) hv
   ·obtain⟨X,hX,hst⟩:=U5 hE h;refine⟨X,none,hX,.inl rfl,?_⟩;intro D0 w0 ρ bl a w hs hag _ hr next Q hn
    exact hst D0 w0 ρ bl a w hs hag hr next Q fun v w' hb hv=>hn v w' ρ (hs.ext hb) (Ext.of_below hb) (fun _ _ x=>x) (LocsLe.refl _) (fun _ _=>rfl) hv
 case h_7 args ts hx =>
  unfold appS at h;split at h
  ·rename_i x y T T' hargs hts;split at h
   ·rename_i ti hti;split at h
    ·rename_i e he;split at h
     ·rename_i te hte;obtain⟨g,hh⟩:=zp.1 h;clear h;simp only[Bool.and_eq_true,beq_iff_eq,Nat.ble_eq,Bool.or_eq_true,Bool.not_eq_true']at g;obtain⟨rfl,g1,g2,g3,g4⟩:=g;have hti:=hE.ty _ _ hti;have hte:=hE.ty _ _ hte;have ha:args=#[x,y]:=by rw[<- Array.toList_inj];simpa using hargs
      have hts':ts=#[T,T]:=by rw[<- Array.toList_inj];simpa using hts
      subst ha;subst hts';have hox:x∈o.op.operands:=x5 hx (by simp);have hoy:y∈o.op.operands:=x5 hx (by simp);have hnb:needB o.op=true:=by rw[hx];rfl
      have hex:∀(a:Act) (w:World) (vx:Value) (l':Value) (w':World),a.eval x=vx->(Builtin.append_ #[T,T] o.type #[vx,a.eval y]).run E.P w = .ok l' w'->∀(next:Act->World->Prop) (Q:Exit->Act->World->Prop),next (a.put o.dst l') w'->o.wp E.P a w next Q:=by
       intro a w vx l' w' e1 e2 next Q hn
       unfold Oper.wp execOp;simp only[hx,resolve,invoke,builtin,Sem.run_bind,Sem.run_pure,Result.andThen_ok,List.map_toArray,List.map_cons,List.map_nil,e1,e2];exact hn
      split at hh
      ·rename_i k u hv;split at hh
       ·rename_i B m fy hB hsrc;obtain⟨q,q4,q5,q6⟩:=zp.1 hh;simp only[Bool.and_eq_true,beq_iff_eq]at q;obtain⟨q0,q1,q2,q3⟩:=q;subst q3;refine⟨_,_,q6,.inr (.inr ⟨by rw[hx];rfl,k,_,u,x,rfl,hox,by rw[hv];exact⟨rfl,rfl⟩,B,hB,q1,q0,Nat.le_succ _,rfl⟩),?_⟩;intro D0 w0 ρ bl a w hs hag _ hr next Q hn
        have hB:=hag hnb x hox k u (by rw[hv];exact⟨rfl,rfl⟩) B hB (by omega) q0;have hsrc:=srcA_congr (hag hnb y hoy) hsrc;have hvx:=hr x hox;rw[hv]at hvx;obtain⟨l,h1,h2,h3⟩:=hvx;obtain⟨g0,_⟩:=hs.at_ k l B h1 hB (by omega);have hvl:=h3 (by omega);obtain⟨l',w',p1,p2,p3,p4,p5,p6⟩:=grow_core (P:=E.P) (ty:=o.type) hs h1 hB q1 (src_rel hs (by omega) (hr y hoy) (by rw[<- q2]at hsrc;exact hsrc)) hti he hte q2.symm g1 (fun hr=>by
         rcases g3 with g3 | g3
         ·rw[hr]at g3;cases g3
         ·exact g3) g4 q4 (fun i j hi hj=>⟨one_nil (q5 i j hi (by omega)).1,(q5 i j hi (by omega)).2⟩)
        exact hex a w _ _ _ hvl p1 next Q (hn _ _ _ p3 p4 p5 p6 (fun k' hk'=>List.getElem?_set_ne (fun e=>hk' _ (by rw[e]))) ⟨l',List.getElem?_set_self (List.getElem?_eq_some_iff.1 h1).1,by omega,fun _=>rfl⟩)
       ·exact hh.elim
      ·rename_i hv;split at hh
       ·rename_i m fy hsrc;obtain⟨q4,q5,q6⟩:=hh;refine⟨_,_,q6,.inr (.inl ⟨by rw[hx];rfl,_,rfl,rfl⟩),?_⟩;intro D0 w0 ρ bl a w hs hag hfr hr next Q hn
        obtain⟨l0,Bd,p1,p2,p3,p4,rfl⟩:=hfr (by rw[hx];rfl);have hsrc:=srcA_congr (hag hnb y hoy) hsrc;have hvx:=hr x hox;rw[hv]at hvx;have hvx:a.eval x = .slice none 0 0:=hvx;obtain⟨s1,s2⟩:=hs.nilplace p1 p3 p4 e te.size fun _ _ => .any;have hsr:=src_rel hs (sz:=te.size) (by omega) (hr y hoy) hsrc;have hfl:fr<bl.length:=(List.getElem?_eq_some_iff.1 p3).1;have st:∀ {c:Cell} {v:Value},CRel (Dof D0 ρ bl) w ρ c v->CRel (Dof D0 ρ (bl.set fr ⟨e,te.size,0,0,0,fun _ _ => .any⟩)) w ρ c v:=fun h=>h.step (Ext.refl _ _) (fun b _ hb=>(s2 b).1 hb) (LocsLe.refl _);obtain⟨A,c,news,n0,n1,n2,n3,n4⟩:=hsr;obtain⟨l',w',t1,t2,t3,t4,t5,t6⟩:=grow_core (P:=E.P) (ty:=o.type) (B:=⟨e,te.size,0,0,0,fun _ _ => .any⟩) s1 p1 (by rw[List.getElem?_set_self hfl]) rfl (vy:=a.eval y) (fy:=fy) (m:=m) ⟨A,c,news,n0,n1,n2,fun a b ha hb=>by obtain⟨u,hu,hur⟩:=n3 a b ha hb;exact⟨u,hu,st hur⟩,fun x u hx=>by obtain⟨a,b,ha,hb,hur⟩:=n4 x u hx;exact⟨a,b,ha,hb,st hur⟩⟩ hti he hte rfl g1 (fun hr=>by
         rcases g3 with g3 | g3
         ·rw[hr]at g3;cases g3
         ·exact g3) g4 (by show 0+m<=_;omega) (fun i j hi hj=>⟨one_nil (q5 i j hi hj).1,(q5 i j hi hj).2⟩)
        rw[List.set_set]at t3 t5;exact hex a w _ _ _ hvx t1 next Q (hn _ _ _ t3 ⟨t4.size,fun b hb hd=>t4.block b hb fun h=>hd ((s2 b).1 h)⟩ (fun b hb hd=>(s2 b).1 (t5 b hb hd)) t6 (fun k' hk'=>List.getElem?_set_ne (fun e=>hk' _ (by rw[e]))) ⟨l',List.getElem?_set_self (List.getElem?_eq_some_iff.1 p1).1,by rw[t2];exact Nat.le_refl _,fun _=>rfl⟩)
       ·exact hh.elim
      ·exact hh.elim
     ·exact h.elim
    ·exact h.elim
   ·exact h.elim
  ·exact h.elim
 case h_8 h1 h2 h3 h4 h5 h6 h7 =>
  obtain⟨X,hX,hst⟩:=U5 hE h;refine⟨X,none,hX,.inl rfl,?_⟩;intro D0 w0 ρ bl a w hs hag _ hr next Q hn
  exact hst D0 w0 ρ bl a w hs hag hr next Q fun v w' hb hv=>hn v w' ρ (hs.ext hb) (Ext.of_below hb) (fun _ _ x=>x) (LocsLe.refl _) (fun _ _=>rfl) hv
end Go.Proofs.YtkmbnldginonbaaGreat
/- A region whose order is open: one walk in the order of the text serves every order. -/
namespace Go.Proofs.YtkmbnldginonbaaGreat
open Go.RowKit
def Cell.mentB : Cell → Nat → Bool
 | .p k ..,k'=>k == k'
 | .gs k _,k'=>k == k'
 | .sl k ..,k'=>k == k'
 | .cl _ n f,k'=>(List.range n).any fun j=>(f j).mentB k'
 | _,_=>false
def V.mentB : V → Nat → Bool
 | .c x,k=>x.mentB k
 | .g l,k=>l.any fun c=>c.mentB k
 | _,_=>true
theorem Cell.mentB_of : ∀ {c : Cell} {k u : Nat}, c.ment k u → c.mentB k = true
 | .p ..,_,_,h=>by obtain⟨h,_⟩:=h;simp[Cell.mentB,h]
 | .gs ..,_,_,h=>by obtain⟨h,_⟩:=h;simp[Cell.mentB,h]
 | .sl ..,_,_,h=>by obtain⟨h,_⟩:=h;simp[Cell.mentB,h]
 | .cl F n f,_,_,h=>by
  obtain⟨j,hj,h⟩:=h;simp only[Cell.mentB,List.any_eq_true,List.mem_range];exact⟨j,hj,Cell.mentB_of h⟩
 | .any,_,_,h=>h.elim
 | .bool _,_,_,h=>h.elim
 | .int _ _,_,_,h=>h.elim
 | .nil,_,_,h=>h.elim
 | .fn _,_,_,h=>h.elim
 | .str _,_,_,h=>h.elim
 | .row ..,_,_,h=>h.elim
 | .xp ..,_,_,h=>h.elim
theorem V.mentB_of : ∀ {x : V} {k u : Nat}, x.ment k u → x.mentB k = true
 | .c _,_,_,h=>Cell.mentB_of h
 | .g _,_,_,h=>by
  obtain⟨c,h1,h2⟩:=h;exact List.any_eq_true.2 ⟨c,h1,Cell.mentB_of h2⟩
 | .t2 ..,_,_,_=>rfl
 | .t3 ..,_,_,_=>rfl
 | .t4 ..,_,_,_=>rfl
 | .un,_,_,_=>rfl
def lateD (ops : Array Oper) : Nat → Oper → Nat → Bool
 | 0,o,i=>o.after.toList.any fun e=>Region.binds .any e&&e.on == i
 | n+1,o,i=>(o.after.toList.any fun e=>Region.binds .any e&&e.on == i)||o.after.toList.any fun e=>Region.binds .any e&&(match ops[e.on]? with
  | some o'=>lateD ops n o' i
  | none=>false)
def lateE (ops:Array Oper) (o:Oper) (i:Nat):Bool:=(o.after.toList.any fun e=>!Region.binds .any e&&e.on == i)&&!lateD ops 2 o i
def slotB (ops : Array Oper) (i : Nat) : Operand → Bool
 | .tmp t=>(ops.toList.drop i).all fun o=>match o.dst with
  | some d=>!(d == t)
  | none=>true
 | _=>true
def UG (ops:Array Oper) (o:Oper) (σ:St) (ub:Option (Nat × Blk)):Bool:=match isWr o.op with
 | false=>true
 | true=>match ub with
  | none=>true
  | some (k,_)=>o.after.toList.all fun e=>Region.binds .any e||((match ops[e.on]? with
   | some oi=>!(needB oi.op||isWr oi.op)||oi.op.operands.toList.all fun x=>!((σ.ev x).mentB k)&&slotB ops e.on x
   | none=>true)||lateD ops 2 o e.on)
theorem lateB_none {ops:Array Oper} {o:Oper} {σ:St}:UG ops o σ none=true:=by
 unfold UG;split <;> rfl
def earlyE (ops:Array Oper) (o:Oper):Bool:=match o.op,o.guard,o.after.toList with
 | .fieldAddr ..,none,[]=>true
 | .load ..,none,[e]=>match ops[e.on]? with
  | some o'=>match o'.op,o'.after.toList with
   | .fieldAddr ..,[]=>true
   | _,_=>false
  | none=>false
 | _,_,_=>false
def disjC (c:Cell) (b:V):Bool:=match c with
 | .p k .. => !b.mentB k
 | .gs k _=>!b.mentB k
 | .sl k .. => !b.mentB k
 | .cl .. => false
 | _=>true
def disjV (a b:V):Bool:=match a with
 | .c c=>disjC c b
 | .g l=>l.all fun c=>disjC c b
 | _=>false
theorem disjC_of {c:Cell} {b:V} {k u u':Nat} (h:disjC c b=true) (h1:c.ment k u) (h2:b.ment k u'):False:=by
 have h2:=V.mentB_of h2;cases c with
 | p k' _ _ _ _=>obtain⟨rfl,_⟩:=h1;simp only[disjC,h2,Bool.not_true]at h;cases h
 | gs k' _=>obtain⟨rfl,_⟩:=h1;simp only[disjC,h2,Bool.not_true]at h;cases h
 | sl k' _ _ _ _=>obtain⟨rfl,_⟩:=h1;simp only[disjC,h2,Bool.not_true]at h;cases h
 | cl F n f=>cases h
 | _=>exact h1
theorem disjV_of {a b:V} {k u u':Nat} (h:disjV a b=true) (h1:a.ment k u) (h2:b.ment k u'):False:=by
 cases a with
 | c c=>exact disjC_of h h1 h2
 | g l =>
  obtain⟨c,hc,h1⟩:=h1;exact disjC_of (List.all_eq_true.1 h c hc) h1 h2
 | _=>cases h
def earlyB (ops:Array Oper) (i:Nat) (o:Oper) (σ:St):Bool:=match earlyE ops o with
 | false=>true
 | true=>(List.range i).all fun j=>match ops[j]? with
  | none=>true
  | some oj=>!isWr oj.op||oj.op.operands.toList.all fun y=>slotB ops j y&&o.op.operands.toList.all fun x=>disjV (σ.ev y) (σ.ev x)
def VP (E:Env) (ops:Array Oper) (n0:Nat) (l:List Oper):Nat->St->(St->Prop)->Prop :=
 List.rec (motive:=fun _=>Nat->St->(St->Prop)->Prop) (fun _ σ K=>K σ) (fun o _ go i σ K=>match o.guard with
  | none=>sop E o σ (n0+i) fun v ub=>chk (UG ops o σ ub&&earlyB ops i o σ) (go (i+1) (St.put { σ with bl:=yq σ.bl ub } o.dst v) K)
  | some (g,want)=>match Uv σ ops g with
   | some (d,b)=>cs (gw want b) (sop E o (σ.put (some d) (.c (.bool want))) (n0+i) fun v ub=>chk (UG ops o (σ.put (some d) (.c (.bool want))) ub) (go (i+1) (St.put { (σ.put (some d) (.c (.bool want)))with bl:=yq σ.bl ub } o.dst v) K)) (go (i+1) ((σ.put (some d) (.c (.bool !want))).put o.dst .un) K)
   | none=>match V9 σ ops g with
    | true=>go (i+1) (σ.put o.dst .un) K
    | false=>False) l
theorem ahead_eq {E:Env} {ops:Array Oper} {n0 i:Nat} {o:Oper} {rest:List Oper} {σ:St} {K:St->Prop}:VP E ops n0 (o :: rest) i σ K=match o.guard with
  | none=>sop E o σ (n0+i) fun v ub=>chk (UG ops o σ ub&&earlyB ops i o σ) (VP E ops n0 rest (i+1) (St.put { σ with bl:=yq σ.bl ub } o.dst v) K)
  | some (g,want)=>match Uv σ ops g with
   | some (d,b)=>cs (gw want b) (sop E o (σ.put (some d) (.c (.bool want))) (n0+i) fun v ub=>chk (UG ops o (σ.put (some d) (.c (.bool want))) ub) (VP E ops n0 rest (i+1) (St.put { (σ.put (some d) (.c (.bool want)))with bl:=yq σ.bl ub } o.dst v) K)) (VP E ops n0 rest (i+1) ((σ.put (some d) (.c (.bool !want))).put o.dst .un) K)
   | none=>match V9 σ ops g with
    | true=>VP E ops n0 rest (i+1) (σ.put o.dst .un) K
    | false=>False:=rfl
def OpRes (P:Program) (r:Bool) (ops:Array Oper) (o:Oper) (σ:St) (fr:Nat) (v:V) (ub:Option (Nat × Blk)):Prop :=
 match o.guard with
 | none=>SubOK o σ fr ub/\∀ D0 w0,Steps2 P D0 w0 r o σ fr v ub
 | some (g,want)=>(∃ d b,Uv σ ops g=some (d,b)/\((b=want/\SubOK o σ fr ub/\∀ D0 w0,Steps2 P D0 w0 r o σ fr v ub)∨(b=!want/\v = .un/\ub=none)))∨(V9 σ ops g=true/\v = .un/\ub=none)
theorem guard_same {σ:St} {ops:Array Oper} {g d:Nat} {b:Bool} (hgv:Uv σ ops g=some (d,b)):σ.put (some d) (.c (.bool b))=σ:=by
 have hd:σ.tm d = .c (.bool b):=by
  unfold Uv at hgv;split at hgv
  ·split at hgv
   ·rename_i hv;cases hgv;exact hv
   ·cases hgv
  ·cases hgv
 show(⟨upd σ.tm d (.c (.bool b)),σ.bl⟩:St)=σ;have:upd σ.tm d (.c (.bool b))=σ.tm:=funext fun t=>by
  unfold upd;split
  ·rename_i e;subst e;exact hd.symm
  ·rfl
 rw[this]
theorem ahead_cons {E:Env} (hE:EnvOK E) {ops:Array Oper} {n0 i:Nat} {o:Oper} {rest:List Oper} {σ:St} {K:St->Prop} (h:VP E ops n0 (o :: rest) i σ K):∃ v ub,OpRes E.P E.r ops o σ (n0+i) v ub/\UG ops o σ ub=true/\(o.guard=none->earlyB ops i o σ=true)/\VP E ops n0 rest (i+1) (St.put { σ with bl:=yq σ.bl ub } o.dst v) K:=by
 rw[ahead_eq]at h;unfold OpRes;split at h
 ·rename_i hg;obtain⟨X,ub,h1,h2,h3⟩:=sop_sound hE h;obtain⟨h0,h1⟩:=zp.1 h1;simp only[Bool.and_eq_true]at h0;exact⟨X,ub,⟨h2,h3⟩,h0.1,fun _=>h0.2,h1⟩
 ·rename_i g want hg;split at h
  ·rename_i d b hgv;have same:=guard_same hgv;have h:=cs_iff.1 h;rw[xK,jv]at h;by_cases e:b=want
   ·have h1:=h.1 e;rw[<- e,same]at h1;obtain⟨X,ub,h1,h2,h3⟩:=sop_sound hE h1;obtain⟨h0,h1⟩:=zp.1 h1;exact⟨X,ub,.inl ⟨d,b,hgv,.inl ⟨e,h2,h3⟩⟩,h0,fun k=>(by rw[hg]at k;cases k),h1⟩
   ·have e':b=!want:=by cases b <;> cases want <;> simp_all
    have h1:=h.2 e';rw[<- e',same]at h1;exact⟨_,none,.inl ⟨d,b,hgv,.inr ⟨e',rfl,rfl⟩⟩,lateB_none,fun k=>(by rw[hg]at k;cases k),h1⟩
  ·split at h
   ·rename_i hgu;exact⟨_,none,.inr ⟨hgu,rfl,rfl⟩,lateB_none,fun k=>(by rw[hg]at k;cases k),h⟩
   ·exact h.elim
theorem St.put_ne {σ:St} {dst:Option Nat} {v:V} {t:Nat} (h:dst≠some t):(σ.put dst v).tm t=σ.tm t:=by
 cases dst with
 | none=>rfl
 | some d=>simp only[St.put,upd];rw[if_neg (fun e=>h (by rw[e]))]
theorem St.put_eq {σ:St} {dst:Option Nat} {v:V} {t:Nat} (h:dst=some t):(σ.put dst v).tm t=v:=by
 subst h;simp[St.put,upd]
structure Chain (P : Program) (r : Bool) (ops : Array Oper) (n0 : Nat) (l : List Oper) (i0 : Nat) (sts : Nat → St) (vs : Nat → V) (ub : Nat → Option (Nat × Blk)) : Prop where
 tm:∀(j:Nat) (o:Oper),l[j]? = some o->∀ t:Nat,(sts (j+1)).tm t=if o.dst=some t then vs j else(sts j).tm t
 bl:∀ j,j<l.length->(sts (j+1)).bl=yq (sts j).bl (ub j)
 res:∀(j:Nat) (o:Oper),l[j]? = some o->OpRes P r ops o (sts j) (n0+(i0+j)) (vs j) (ub j)
 late:∀(j:Nat) (o:Oper),l[j]? = some o->UG ops o (sts j) (ub j)=true
 early:∀(j:Nat) (o:Oper),l[j]? = some o->o.guard=none->earlyB ops (i0+j) o (sts j)=true
theorem ahead_chain {E : Env} (hE : EnvOK E) {ops : Array Oper} {n0 : Nat} {K : St → Prop} : ∀ (l : List Oper) (i0 : Nat) (σ : St), VP E ops n0 l i0 σ K → ∃ sts vs ub, sts 0 = σ ∧ K (sts l.length) ∧ Chain E.P E.r ops n0 l i0 sts vs ub
 | [],i0,σ,h=>⟨fun _=>σ,fun _ => .c .any,fun _=>none,rfl,h,⟨fun j o hj=>by simp at hj,fun j hj=>by simp at hj,fun j o hj=>by simp at hj,fun j o hj=>by simp at hj,fun j o hj=>by simp at hj⟩⟩
 | o :: rest,i0,σ,h=>by
  obtain⟨v,u,hres,hlt,hea,h'⟩:=ahead_cons hE h;obtain⟨sts,vs,ub,h0,hK,hc⟩:=ahead_chain hE rest (i0+1) _ h';refine⟨fun j=>match j with | 0=>σ | j+1=>sts j,fun j=>match j with | 0=>v | j+1=>vs j,fun j=>match j with | 0=>u | j+1=>ub j,rfl,hK,⟨fun j oj hj t=>?_,fun j hj=>?_,fun j oj hj=>?_,fun j oj hj=>?_,fun j oj hj=>?_⟩⟩
  ·cases j with
   | zero =>
    simp at hj;subst hj;show(sts 0).tm t=if o.dst=some t then v else σ.tm t
    rw[h0];split
    ·rename_i e;exact St.put_eq e
    ·rename_i e;exact St.put_ne e
   | succ j=>exact hc.tm j oj (by simpa using hj) t
  ·cases j with
   | zero=>show(sts 0).bl=yq σ.bl u;rw[h0,St.put_bl]
   | succ j=>exact hc.bl j (by simpa using hj)
  ·cases j with
   | zero=>simp at hj;subst hj;exact hres
   | succ j =>
    have:=hc.res j oj (by simpa using hj);rw[show i0+1+j=i0+(j+1)by omega]at this;exact this
  ·cases j with
   | zero=>simp at hj;subst hj;exact hlt
   | succ j=>exact hc.late j oj (by simpa using hj)
  ·cases j with
   | zero=>simp at hj;subst hj;exact hea
   | succ j =>
    have:=hc.early j oj (by simpa using hj);rw[show i0+1+j=i0+(j+1)by omega]at this;exact this
/-! ### The order -/
def uni (l s:List Nat):List Nat:=l.foldl (fun s x=>if s.contains x then s else x :: s) s
theorem mem_uni : ∀ (l s : List Nat) (x : Nat), x ∈ uni l s → x ∈ l ∨ x ∈ s
 | [],s,x,h => .inr h
 | y :: l,s,x,h=>by
  have h':x∈uni l (if s.contains y then s else y :: s):=h;rcases mem_uni l _ x h' with h1 | h1
  ·exact .inl (by simp[h1])
  ·split at h1
   ·exact .inr h1
   ·rcases List.mem_cons.1 h1 with h2 | h2
    ·exact .inl (by simp[h2])
    ·exact .inr h2
def clRow (tab:List (List Nat)) (o:Oper):List Nat:=o.after.toList.foldl (fun s e=>if Region.binds .any e then uni (e.on :: tab.getD e.on []) s else s) []
def yJ (ops:List Oper):List (List Nat):=ops.foldl (fun tab o=>tab++[clRow tab o]) []
theorem clTab_snoc (l:List Oper) (o:Oper):yJ (l++[o])=yJ l++[clRow (yJ l) o]:=by simp[yJ,List.foldl_append]
theorem snoc_ind {α:Type} {p:List α->Prop} (h0:p []) (h1:∀ l o,p l->p (l++[o])) (l:List α):p l:=by
 have key:∀ n,∀ l:List α,l.length=n->p l:=by
  intro n;induction n with
  | zero=>intro l hl;rw[List.length_eq_zero_iff.1 hl];exact h0
  | succ n ih =>
   intro l hl;have hne:l≠[]:=by intro e;rw[e]at hl;simp at hl
   rw[<- List.dropLast_concat_getLast hne];exact h1 _ _ (ih _ (by simp;omega))
 exact key _ l rfl
theorem vW:∀ l:List Oper,(yJ l).length=l.length:=by
 intro l;refine snoc_ind (p:=fun l=>(yJ l).length=l.length) rfl (fun l o ih=>?_) l;rw[clTab_snoc];simp[ih]
theorem mem_clRow {tab:List (List Nat)} {o:Oper} {j:Nat} (h:j∈clRow tab o):∃ e∈o.after.toList,Region.binds .any e=true/\(j=e.on∨j∈tab.getD e.on []):=by
 have key:∀(es:List Edge) (s:List Nat),j∈es.foldl (fun s e=>if Region.binds .any e then uni (e.on :: tab.getD e.on []) s else s) s->j∈s∨∃ e∈es,Region.binds .any e=true/\(j=e.on∨j∈tab.getD e.on []):=by
  intro es;induction es with
  | nil=>intro s h;exact .inl h
  | cons e es ih =>
   intro s h;simp only[List.foldl_cons]at h;rcases ih _ h with h1 | ⟨e',he,h1⟩
   ·split at h1
    ·rename_i hb;rcases mem_uni _ _ _ h1 with h2 | h2
     ·rcases List.mem_cons.1 h2 with h3 | h3
      ·exact .inr ⟨e,by simp,hb,.inl h3⟩
      ·exact .inr ⟨e,by simp,hb,.inr h3⟩
     ·exact .inl h2
    ·exact .inl h1
   ·exact .inr ⟨e',by simp[he],h1⟩
 rcases key _ _ h with h1 | h1
 ·simp at h1
 ·exact h1
def ClosedS (ops:List Oper) (S:Nat->Prop):Prop:=∀(i:Nat) (o:Oper),ops[i]? = some o->S i->∀ e∈o.after,Region.binds .any e=true->S e.on
theorem clTab_closed (S:Nat->Prop):∀ l:List Oper,ClosedS l S->∀(i:Nat) (o:Oper),l[i]? = some o->(∀ e∈o.after,Region.binds .any e=true->S e.on)->∀ j∈(yJ l).getD i [],S j:=by
 refine snoc_ind (fun _ i o h=>by simp at h) fun l o ih=>?_
 ·intro hc i oi hi haf j hj;have hcl:ClosedS l S:=fun i o h=>hc i o (by rw[List.getElem?_append_left (List.getElem?_eq_some_iff.1 h).1];exact h);rw[clTab_snoc]at hj;rcases Nat.lt_or_ge i l.length with h | h
  ·rw[List.getElem?_append_left h]at hi;rw[List.getD,List.getElem?_append_left (by rw[vW];exact h)]at hj;exact ih hcl i oi hi haf j hj
  ·rw[List.getElem?_append_right h]at hi;rcases Nat.eq_zero_or_pos (i-l.length)with e | e
   ·rw[e]at hi;simp at hi;subst hi;rw[List.getD,List.getElem?_append_right (by rw[vW];exact h),vW,e]at hj;simp only[List.getElem?_cons_zero,Option.getD_some]at hj;obtain⟨ed,hed,hb,h1⟩:=mem_clRow hj;have hS:=haf ed (Array.mem_toList_iff.1 hed) hb;rcases h1 with h1 | h1
    ·rw[h1];exact hS
    ·rcases Nat.lt_or_ge ed.on l.length with h2 | h2
     ·exact ih hcl ed.on l[ed.on] (List.getElem?_eq_getElem h2) (fun e' he' hb'=>hcl ed.on _ (List.getElem?_eq_getElem h2) hS e' he' hb') j h1
     ·rw[List.getD,List.getElem?_eq_none (by rw[vW];exact h2)]at h1;simp at h1
   ·rw[List.getElem?_eq_none (by simp;omega)]at hi;cases hi
def drawB (ops:Array Oper):Bool :=
 let tab:=yJ ops.toList
 (List.range ops.size).all fun i=>match ops[i]? with
  | none=>true
  | some o => (o.after.toList.all fun e => !Region.binds .any e || decide (e.on < i)) &&
   (List.range ops.size).all fun j=>match ops[j]? with
    | none=>true
    | some oj=>j == i||(
     (match oj.dst with
      | some d=>!((o.looksAt ops).contains d)||((decide (j<i)&&(tab.getD i []).contains j)||(decide (i<j)&&(tab.getD j []).contains i))
      | none=>true) &&
     ((match o.dst,oj.dst with
      | some d,some d'=>!(d == d')
      | _,_=>true) &&
     (!(isWr oj.op)||(!(needB o.op||isWr o.op)||((decide (j<i)&&((tab.getD i []).contains j||earlyE ops o))||(decide (i<j)&&((tab.getD j []).contains i||lateE ops oj i)))))))
structure DrawOK (ops : Array Oper) : Prop where
 down:∀(i:Nat) (o:Oper),ops[i]? = some o->∀ e∈o.after,Region.binds .any e=true->e.on<i
 looks:∀(i j:Nat) (o oj:Oper),ops[i]? = some o->ops[j]? = some oj->j≠i->∀ d,oj.dst=some d->d∈o.looksAt ops->(j<i/\j∈(yJ ops.toList).getD i [])∨(i<j/\i∈(yJ ops.toList).getD j [])
 own:∀(i j:Nat) (o oj:Oper),ops[i]? = some o->ops[j]? = some oj->j≠i->∀ d,o.dst=some d->oj.dst≠some d
 wrs:∀(i j:Nat) (o oj:Oper),ops[i]? = some o->ops[j]? = some oj->j≠i->isWr oj.op=true->(needB o.op||isWr o.op)=true->(j<i/\(j∈(yJ ops.toList).getD i []∨earlyE ops o=true))∨(i<j/\(i∈(yJ ops.toList).getD j []∨lateE ops oj i=true))
theorem drawB_ok {ops:Array Oper} (h:drawB ops=true):DrawOK ops:=by
 have get:∀(i:Nat) (o:Oper),ops[i]? = some o->(o.after.toList.all fun e=>!Region.binds .any e||decide (e.on<i))=true/\∀(j:Nat) (oj:Oper),ops[j]? = some oj->j≠i ->
   ((match oj.dst with
      | some d=>!((o.looksAt ops).contains d)||((decide (j<i)&&((yJ ops.toList).getD i []).contains j)||(decide (i<j)&&((yJ ops.toList).getD j []).contains i))
      | none=>true)=true /\
     (match o.dst,oj.dst with
      | some d,some d'=>!(d == d')
      | _,_=>true)=true /\
     (!(isWr oj.op)||(!(needB o.op||isWr o.op)||((decide (j<i)&&(((yJ ops.toList).getD i []).contains j||earlyE ops o))||(decide (i<j)&&(((yJ ops.toList).getD j []).contains i||lateE ops oj i)))))=true):=by
  intro i o ho;have hi:i<ops.size:=(Array.getElem?_eq_some_iff.1 ho).1;unfold drawB at h;have:=List.all_eq_true.1 h i (List.mem_range.2 hi);rw[ho]at this;simp only[Bool.and_eq_true]at this;refine⟨this.1,fun j oj hoj hne=>?_⟩;have hj:j<ops.size:=(Array.getElem?_eq_some_iff.1 hoj).1;have h2:=List.all_eq_true.1 this.2 j (List.mem_range.2 hj);rw[hoj]at h2;simp only[Bool.or_eq_true,beq_iff_eq,Bool.and_eq_true]at h2;rcases h2 with h2 | h2
  ·exact absurd h2 hne
  ·simpa only[Bool.or_eq_true,beq_iff_eq,Bool.and_eq_true] using h2
 constructor
 ·intro i o ho e he hb;have:=List.all_eq_true.1 (get i o ho).1 e (Array.mem_toList_iff.2 he);rw[hb]at this;simpa using this
 ·intro i j o oj ho hoj hne d hd hm;have:=((get i o ho).2 j oj hoj hne).1;rw[hd]at this;simp only[List.contains_iff_mem,Bool.or_eq_true,Bool.not_eq_true',Bool.and_eq_true,decide_eq_true_eq]at this;rcases this with h1 | h1
  ·rw[List.contains_iff_mem.2 hm]at h1;cases h1
  ·exact h1
 ·intro i j o oj ho hoj hne d hd hd';have:=((get i o ho).2 j oj hoj hne).2.1;rw[hd,hd']at this;simp at this
 ·intro i j o oj ho hoj hne hw hn;have:=((get i o ho).2 j oj hoj hne).2.2;rw[hw,hn]at this;simp only[Bool.not_true,Bool.false_or,List.contains_iff_mem,Bool.or_eq_true,Bool.and_eq_true,decide_eq_true_eq]at this;exact this

theorem ready_mem {ops:Array Oper} {listed:Array Bool} {i:Nat} (h:i∈Region.ready .any ops listed):listed.getD i true=false/\∃ o,ops[i]? = some o/\∀ e∈o.after,Region.binds .any e=true->listed.getD e.on false=true:=by
 unfold Region.ready at h;rw[List.mem_filter]at h;obtain⟨h1,h2⟩:=h;simp only[Bool.and_eq_true,Bool.not_eq_true']at h2;refine⟨h2.1,?_⟩;cases ho:ops[i]? with
 | none=>rw[ho]at h2;simp at h2
 | some o =>
  rw[ho]at h2;refine⟨o,rfl,fun e he hb=>?_⟩;have:=h2.2;simp only[Option.map_some,Option.getD_some]at this;rw[Array.all_eq_true_iff_forall_mem]at this;have:=this e he;rw[hb]at this;simpa using this
theorem mem_ready_of {ops:Array Oper} {listed:Array Bool} {i:Nat} {o:Oper} (h0:listed.getD i true=false) (ho:ops[i]? = some o) (h:∀ e∈o.after,Region.binds .any e=true->listed.getD e.on false=true):i∈Region.ready .any ops listed:=by
 unfold Region.ready;rw[List.mem_filter];refine⟨List.mem_range.2 (Array.getElem?_eq_some_iff.1 ho).1,?_⟩;rw[h0,ho];simp only[Bool.not_false,Bool.true_and,Option.map_some,Option.getD_some];rw[Array.all_eq_true_iff_forall_mem];intro e he;cases hb:Region.binds .any e with
 | false=>simp
 | true=>rw[h e he hb];simp
theorem Uz {l:Array Bool} {i:Nat} (h:i<l.size) (b:Bool):(l.setIfInBounds i true).getD i b=true:=by
 simp[Array.getD,h]
theorem gp {l:Array Bool} {i j:Nat} (h:j≠i) (b:Bool):(l.setIfInBounds i true).getD j b=l.getD j b:=by
 rw[Array.getD_eq_getD_getElem?,Array.getD_eq_getD_getElem?,Array.getElem?_setIfInBounds_ne (fun e=>h e.symm)]
theorem WK {l:Array Bool} {i:Nat} (h:i<l.size):l.getD i true=l.getD i false:=by simp[Array.getD,h]
def left (listed : Array Bool) : Nat → Nat
 | 0=>0
 | m+1=>left listed m+if listed.getD m true then 0 else 1
theorem left_set {listed : Array Bool} {i : Nat} (hi : i < listed.size) (h : listed.getD i true = false) : ∀ m, left (listed.setIfInBounds i true) m + (if i < m then 1 else 0) = left listed m
 | 0=>by simp[left]
 | m+1=>by
  have ih:=left_set hi h m;simp only[left];by_cases e:m=i
  ·subst e;rw[Uz hi,h];rw[if_neg (by omega)]at ih;simp;omega
  ·rw[gp e];have h5:(if i<m+1 then 1 else 0:Nat)=if i<m then 1 else 0:=by split <;> split <;> omega
   rw[h5];omega
theorem left_zero {listed : Array Bool} : ∀ {m : Nat}, left listed m = 0 → ∀ j, j < m → listed.getD j true = true
 | 0,_,j,hj=>by omega
 | m+1,h,j,hj=>by
  simp only[left]at h;by_cases e:j=m
  ·subst e;cases hx:listed.getD j true with
   | true=>rfl
   | false=>rw[hx]at h;simp at h
  ·exact left_zero (m:=m) (by omega) j (by omega)
theorem least_left {listed : Array Bool} : ∀ {m : Nat}, 0 < left listed m → ∃ k, k < m ∧ listed.getD k true = false ∧ ∀ j, j < k → listed.getD j true = true
 | 0,h=>by simp[left]at h
 | m+1,h=>by
  rcases Nat.eq_zero_or_pos (left listed m)with e | e
  ·refine⟨m,by omega,?_,fun j hj=>left_zero e j hj⟩;simp only[left]at h;cases hx:listed.getD m true with
   | false=>rfl
   | true=>rw[hx]at h;simp at h;omega
  ·obtain⟨k,h1,h2,h3⟩:=least_left e;exact⟨k,by omega,h2,h3⟩
theorem left_none {n : Nat} : ∀ m, m ≤ n → left (Array.replicate n false) m = m
 | 0,_=>rfl
 | m+1,h=>by
  simp only[left];rw[left_none m (by omega)];simp[Array.getD,show m<n by omega]
theorem crel_ment {D : Nat → Prop} {w : World} {ρ : List Loc} {k u : Nat} : ∀ {c : Cell} {v : Value} (_ : CRel D w ρ c v) (_ : c.ment k u), ∃ l, ρ[k]? = some l ∧ u ≤ l.u
 | .p ..,_,h,hm=>by obtain⟨rfl,rfl⟩:=hm;obtain⟨l,h1,h2,_⟩:=h;exact⟨l,h1,h2⟩
 | .gs ..,_,h,hm=>by obtain⟨rfl,rfl⟩:=hm;obtain⟨l,h1,h2,_⟩:=h;exact⟨l,h1,h2⟩
 | .sl ..,_,h,hm=>by obtain⟨rfl,rfl⟩:=hm;obtain⟨l,h1,h2,_⟩:=h;exact⟨l,h1,h2⟩
 | .cl F n f,_,h,hm=>by
  obtain⟨caps,rfl,_,h2⟩:=h;obtain⟨j,hj,hm⟩:=hm;obtain⟨u',_,hr⟩:=h2 j hj;exact crel_ment hr hm
 | .any,_,_,hm=>hm.elim
 | .bool _,_,_,hm=>hm.elim
 | .int _ _,_,_,hm=>hm.elim
 | .nil,_,_,hm=>hm.elim
 | .fn _,_,_,hm=>hm.elim
 | .str _,_,_,hm=>hm.elim
 | .row ..,_,_,hm=>hm.elim
 | .xp ..,_,_,hm=>hm.elim
theorem crels_ment {D : Nat → Prop} {w : World} {ρ : List Loc} {k u : Nat} : ∀ {l : List Cell} {vs : List Value}, CRels D w ρ l vs → ∀ c ∈ l, c.ment k u → ∃ l, ρ[k]? = some l ∧ u ≤ l.u
 | [],_,_,c,hc,_=>by simp at hc
 | _ :: _,[],h,_,_,_=>h.elim
 | x :: l,v :: vs,h,c,hc,hm=>by
  rcases List.mem_cons.1 hc with e | e
  ·subst e;exact crel_ment h.1 hm
  ·exact crels_ment h.2 c e hm
theorem j8 {D : Nat → Prop} {w : World} {ρ : List Loc} {k u : Nat} : ∀ {x : V} {v : Value}, VRel D w ρ x v → x.ment k u → ∃ l, ρ[k]? = some l ∧ u ≤ l.u
 | .c _,_,h,hm=>crel_ment h hm
 | .g _,_,h,hm=>by obtain⟨vs,_,h2⟩:=h;obtain⟨c,h3,h4⟩:=hm;exact crels_ment h2 c h3 h4
 | .t2 _ _,_,h,hm=>by
  obtain⟨x,y,_,h1,h2⟩:=h;rcases hm with hm | hm
  ·exact j8 h1 hm
  ·exact j8 h2 hm
 | .t3 _ _ _,_,h,hm=>by
  obtain⟨x,y,z,_,h1,h2,h3⟩:=h;rcases hm with hm | hm | hm
  ·exact j8 h1 hm
  ·exact j8 h2 hm
  ·exact j8 h3 hm
 | .t4 _ _ _ _,_,h,hm=>by
  obtain⟨x,y,z,u,_,h1,h2,h3,h4⟩:=h;rcases hm with hm | hm | hm | hm
  ·exact j8 h1 hm
  ·exact j8 h2 hm
  ·exact j8 h3 hm
  ·exact j8 h4 hm
 | .un,_,_,hm=>hm.elim
def Ux : List Oper → Nat
 | []=>0
 | o :: l=>match Ux l with
  | 0=>if gY o.op then 1 else 0
  | n+1=>n+2
theorem freshN_lt : ∀ (l : List Oper) (i : Nat) (o : Oper), l[i]? = some o → gY o.op = true → i < Ux l
 | [],i,o,h,_=>by simp at h
 | x :: l,0,o,h,hf=>by
  simp at h;subst h;simp only[Ux];split
  ·rw[if_pos hf];omega
  ·omega
 | x :: l,i+1,o,h,hf=>by
  have:=freshN_lt l i o (by simpa using h) hf;simp only[Ux];split
  ·omega
  ·omega
theorem kB {P:Program} {r:Bool} {ops:Array Oper} {o:Oper} {σ:St} {fr:Nat} {v:V} {ub:Option (Nat × Blk)} (h:OpRes P r ops o σ fr v ub) {k:Nat} {B:Blk} (hu:ub=some (k,B)):(gY o.op=true/\k=fr/\B.u=1)∨(True/\isWr o.op=true/\∃ u x,x∈o.op.operands/\(σ.ev x).ment k u/\∃ B0,σ.bl[k]? = some B0/\B0.st=0/\B0.u=u/\B0.u<=B.u/\B.st=0):=by
 have key:SubOK o σ fr ub->(gY o.op=true/\k=fr/\B.u=1)∨(True/\isWr o.op=true/\∃ u x,x∈o.op.operands/\(σ.ev x).ment k u/\∃ B0,σ.bl[k]? = some B0/\B0.st=0/\B0.u=u/\B0.u<=B.u/\B.st=0):=by
  rintro (h | ⟨hf,B',e,e1⟩ | ⟨hw,k',B',u,x,e,e1,e2,B0,e3⟩)
  ·rw[h]at hu;cases hu
  ·rw[e]at hu;cases hu;exact .inl ⟨hf,rfl,e1⟩
  ·rw[e]at hu;cases hu;exact .inr ⟨trivial,hw,u,x,e1,e2,B0,e3⟩
 unfold OpRes at h;split at h
 ·exact key h.1
 ·rcases h with⟨d,b,_,h | h⟩ | h
  ·exact key h.2.1
  ·rw[h.2.2]at hu;cases hu
  ·rw[h.2.2]at hu;cases hu
section Text
variable {P:Program} {r:Bool} {ops:Array Oper} {n0 m:Nat} {sts:Nat->St} {vs:Nat->V} {ub:Nat->Option (Nat × Blk)}
theorem Chain.len (hc : Chain P r ops n0 ops.toList 0 sts vs ub) : ∀ i, i ≤ ops.size → (sts i).bl.length = (sts 0).bl.length
 | 0,_=>rfl
 | i+1,h=>by rw[hc.bl i (by simp;omega),setO_length,Chain.len hc i (by omega)]
theorem Chain.ph (hc : Chain P r ops n0 ops.toList 0 sts vs ub) (h0 : ∀ j, j < m → (sts 0).bl[n0 + j]? = some phB) : ∀ i, i ≤ ops.size → ∀ j, i ≤ j → j < m → (sts i).bl[n0 + j]? = some phB
 | 0,_,j,_,hj=>h0 j hj
 | i+1,h,j,hij,hj=>by
  have ih:=Chain.ph hc h0 i (by omega) j (by omega) hj;rw[hc.bl i (by simp;omega)];cases hu:ub i with
  | none=>exact ih
  | some p =>
   obtain⟨k,B⟩:=p;have ho:ops.toList[i]? = some ops[i]:=by simp[show i<ops.size by omega]
   have hne:k≠n0+j:=by
    intro e;rcases kB (hc.res i _ ho) hu with⟨_,h2,_⟩ | ⟨_,_,u,x,_,_,B0,h3,h4,_⟩
    ·omega
    ·rw[e,ih]at h3;cases h3;simp[phB]at h4
   simp only[yq];rw[List.getElem?_set_ne hne];exact ih
theorem Chain.ver (hc : Chain P r ops n0 ops.toList 0 sts vs ub) (h0 : ∀ j, j < m → (sts 0).bl[n0 + j]? = some phB) : ∀ i, i ≤ ops.size → ∀ j B, j < m → (sts i).bl[n0 + j]? = some B → B.st ≤ 1 → 1 ≤ B.u
 | 0,_,j,B,hj,hB,hst=>by rw[h0 j hj]at hB;cases hB;simp[phB]at hst
 | i+1,h,j,B,hj,hB,hst=>by
  have ih:=Chain.ver hc h0 i (by omega) j;rw[hc.bl i (by simp;omega)]at hB;cases hu:ub i with
  | none=>rw[hu]at hB;exact ih B hj hB hst
  | some p =>
   obtain⟨k,B'⟩:=p;have ho:ops.toList[i]? = some ops[i]:=by simp[show i<ops.size by omega]
   rw[hu]at hB;simp only[yq]at hB;by_cases e:k=n0+j
   ·rcases kB (hc.res i _ ho) hu with⟨_,_,h2⟩ | ⟨_,_,u,x,_,_,B0,h3,h4,h5,h6,_⟩
    ·rw[e]at hB;have hl:n0+j<(sts i).bl.length:=by
      have:=(List.getElem?_eq_some_iff.1 hB).1;simpa using this
     rw[List.getElem?_set_self hl]at hB;cases hB;exact Nat.le_of_eq h2.symm
    ·rw[e]at hB h3;rw[List.getElem?_set_self (List.getElem?_eq_some_iff.1 h3).1]at hB;cases hB;exact Nat.le_trans (ih B0 hj h3 (by omega)) h6
   ·rw[List.getElem?_set_ne e]at hB;exact ih B hj hB hst
theorem Chain.out (hc : Chain P r ops n0 ops.toList 0 sts vs ub) {t : Nat} : ∀ i, i ≤ ops.size → (∀ (j : Nat) (oj : Oper), j < i → ops[j]? = some oj → oj.dst ≠ some t) → (sts i).tm t = (sts 0).tm t
 | 0,_,_=>rfl
 | i+1,h,hn=>by
  have ho:ops.toList[i]? = some ops[i]:=by simp[show i<ops.size by omega]
  rw[hc.tm i _ ho t,if_neg (hn i _ (by omega) (by simp[show i<ops.size by omega]))];exact Chain.out hc i (by omega) fun j oj hj=>hn j oj (by omega)
theorem Chain.done (hc : Chain P r ops n0 ops.toList 0 sts vs ub) (hok : DrawOK ops) {t j : Nat} {oj : Oper} (hoj : ops[j]? = some oj) (hd : oj.dst = some t) : ∀ i, i ≤ ops.size → j < i → (sts i).tm t = vs j
 | 0,_,h=>by omega
 | i+1,h,hj=>by
  have ho':ops[i]? = some ops[i]:=by simp[show i<ops.size by omega]
  have ho:ops.toList[i]? = some ops[i]:=by simp[show i<ops.size by omega]
  rw[hc.tm i _ ho t];by_cases e:j=i
  ·subst e;rw[ho']at hoj;cases hoj;rw[if_pos hd]
  ·rw[if_neg fun h'=>hok.own j i oj _ hoj ho' (fun x=>e x.symm) t hd h'];exact Chain.done hc hok hoj hd i (by omega) (by omega)
theorem Chain.still (hc : Chain P r ops n0 ops.toList 0 sts vs ub) {k : Nat} : ∀ M i, i ≤ M → M ≤ ops.size → (∀ j B, i ≤ j → j < M → ub j ≠ some (k, B)) → (sts M).bl[k]? = (sts i).bl[k]?
 | 0,i,h,_,_=>by rw[show i=0 by omega]
 | M+1,i,h,hM,hn=>by
  rcases Nat.lt_or_ge M i with h1 | h1
  ·rw[show i=M+1 by omega]
  ·rw[<- Chain.still hc M i h1 (by omega) fun j B h2 h3=>hn j B h2 (by omega),hc.bl M (by simp;omega)];cases hu:ub M with
   | none=>rfl
   | some p =>
    obtain⟨k',B⟩:=p;have:k'≠k:=fun e=>hn M B h1 (by omega) (by rw[hu,e]);simp only[yq];rw[List.getElem?_set_ne this]
theorem Chain.slot (hc : Chain P r ops n0 ops.toList 0 sts vs ub) {t i : Nat} (hs : slotB ops i (.tmp t) = true) : ∀ j, i ≤ j → j ≤ ops.size → (sts j).tm t = (sts i).tm t
 | 0,h,_=>by rw[show i=0 by omega]
 | j+1,h,hj=>by
  rcases Nat.lt_or_ge j i with h1 | h1
  ·rw[show i=j+1 by omega]
  ·have ho:ops.toList[j]? = some ops[j]:=by simp[show j<ops.size by omega]
   have hd:ops[j].dst≠some t:=by
    have hmem:ops[j]∈ops.toList.drop i:=List.mem_iff_getElem?.2 ⟨j-i,by rw[List.getElem?_drop,show i+(j-i)=j by omega,ho]⟩;have:=List.all_eq_true.1 hs _ hmem;intro e;rw[e]at this;simp at this
   rw[hc.tm j _ ho t,if_neg hd];exact Chain.slot hc hs j h1 (by omega)
theorem Chain.no_late (hc:Chain P r ops n0 ops.toList 0 sts vs ub) {i j k:Nat} {o oj:Oper} {B:Blk} (ho:ops[i]? = some o) (hoj:ops[j]? = some oj) (hij:i<j) (hl:lateE ops oj i=true) (hw:isWr oj.op=true) (hn:(needB o.op||isWr o.op)=true) (hu:ub j=some (k,B)):∀ x∈o.op.operands,∀ u,¬((sts i).ev x).ment k u:=by
 intro x hx u hm;have hj:j<ops.size:=(Array.getElem?_eq_some_iff.1 hoj).1;have h:=hc.late j oj (by simpa using hoj);unfold UG at h;rw[hw,hu]at h;unfold lateE at hl;simp only[Bool.and_eq_true,Bool.not_eq_true']at hl;obtain⟨e,he,he2⟩:=List.any_eq_true.1 hl.1;simp only[Bool.and_eq_true,Bool.not_eq_true',beq_iff_eq]at he2;have h1:=List.all_eq_true.1 h e he;rw[he2.1,he2.2,hl.2,ho]at h1;simp only[Bool.false_or,Bool.or_false,hn,Bool.not_true]at h1;have h2:=List.all_eq_true.1 h1 x (Array.mem_toList_iff.2 hx);simp only[Bool.and_eq_true,Bool.not_eq_true']at h2;have hev:(sts j).ev x=(sts i).ev x:=by
  cases x with
  | tmp t=>exact Chain.slot hc h2.2 j (by omega) (by omega)
  | const c=>rfl
  | func f=>rfl
  | global g=>rfl
 rw[hev,V.mentB_of hm]at h2;cases h2.1
theorem Chain.no_early (hc:Chain P r ops n0 ops.toList 0 sts vs ub) {i j k u':Nat} {o oj:Oper} {y:Operand} (ho:ops[i]? = some o) (hoj:ops[j]? = some oj) (hji:j<i) (hl:earlyE ops o=true) (hw:isWr oj.op=true) (hy:y∈oj.op.operands) (hmy:((sts j).ev y).ment k u'):∀ x∈o.op.operands,∀ u,¬((sts i).ev x).ment k u:=by
 intro x hx u hm;have hi:i<ops.size:=(Array.getElem?_eq_some_iff.1 ho).1;have hg:o.guard=none:=by
  unfold earlyE at hl;split at hl
  ·rename_i h _;exact h
  ·rename_i h _;exact h
  ·cases hl
 have h:=hc.early i o (by simpa using ho) hg;rw[Nat.zero_add]at h;unfold earlyB at h;rw[hl]at h;have h1:=List.all_eq_true.1 h j (List.mem_range.2 hji);rw[hoj]at h1;simp only[hw,Bool.not_true,Bool.false_or]at h1;have h2:=List.all_eq_true.1 h1 y (Array.mem_toList_iff.2 hy);simp only[Bool.and_eq_true]at h2;have h3:=List.all_eq_true.1 h2.2 x (Array.mem_toList_iff.2 hx);have hev:(sts i).ev y=(sts j).ev y:=by
  cases y with
  | tmp t=>exact Chain.slot hc h2.1 i (by omega) (by omega)
  | const c=>rfl
  | func f=>rfl
  | global g=>rfl
 rw[hev]at h3;exact disjV_of h3 hmy hm
end Text
structure At2 (C : Ctx) (ops : Array Oper) (n0 m : Nat) (sts : Nat → St) (vs : Nat → V) (ub : Nat → Option (Nat × Blk)) (ρ : List Loc) (bl : List Blk) (listed : Array Bool) (a : Act) (w : World) : Prop where
 sat:Sat C.D0 C.w0 C.r ρ bl w
 tmps:C.N<=a.tmps.size/\LocsLe C.ρ0 ρ
 defers:a.defers=[]
 len:bl.length=(sts 0).bl.length
 closed:ClosedS ops.toList fun i=>listed.getD i false=true
 out:∀ t:Nat,(∀(j:Nat) (oj:Oper),listed.getD j false=true->ops[j]? = some oj->oj.dst≠some t)->VRel (Dof C.D0 ρ bl) w ρ ((sts 0).tm t) (a.tmps.getD t undef)
 done:∀(j:Nat) (oj:Oper),listed.getD j false=true->ops[j]? = some oj->∀ t,oj.dst=some t->VRel (Dof C.D0 ρ bl) w ρ (vs j) (a.tmps.getD t undef)
 ph:∀ j,j<m->j<ops.size->listed.getD j false=false->∃ l B,ρ[n0+j]? = some l/\l.u=0/\bl[n0+j]? = some B/\B.st=2/\l=phL
 wf:∀ j f B,listed.getD j false=true->j<ops.size->ub j=some (n0+f,B)->f<m->f<ops.size->listed.getD f false=true
 blk:∀ M k,M<=ops.size->(∀ j B,j<ops.size->ub j=some (k,B)->(listed.getD j false=true↔j<M))->bl[k]? = (sts M).bl[k]?

theorem any_sound {P : Program} {C : Ctx} {ops : Array Oper} {n0 m : Nat} {sts : Nat → St} {vs : Nat → V} {ub : Nat → Option (Nat × Blk)} {Q : Exit → Act → World → Prop} (hok : DrawOK ops) (hc : Chain P C.r ops n0 ops.toList 0 sts vs ub) (h0 : ∀ j, j < m → (sts 0).bl[n0 + j]? = some phB) (hm : ∀ (i : Nat) (o : Oper), ops[i]? = some o → gY o.op = true → i < m)
  (hdst:∀ o∈ops.toList,yX C.N o.dst) (hQ:∀ a w,Rel C (sts ops.size) a w->Q .normal a w) :
  ∀(n:Nat) (listed:Array Bool) (ρ:List Loc) (bl:List Blk) (a:Act) (w:World),n=left listed ops.size->listed.size=ops.size->At2 C ops n0 m sts vs ub ρ bl listed a w->wpAny P .any ops Q n listed a w:=by
 intro n;induction n with
 | zero =>
  intro listed ρ bl a w hn hs hat
  have hall:∀ j,j<ops.size->listed.getD j false=true:=fun j hj=>by
   rw[<- WK (by omega)];exact left_zero hn.symm j hj
  refine⟨?_,hQ a w ?_⟩
  ·rw[List.eq_nil_iff_forall_not_mem];intro i hi;obtain⟨g1,o,g2,_⟩:=ready_mem hi;have hi':i<ops.size:=(Array.getElem?_eq_some_iff.1 g2).1;rw[WK (by omega),hall i hi']at g1;cases g1
  ·have hbl:bl=(sts ops.size).bl:=List.ext_getElem? fun k=>hat.blk ops.size k (Nat.le_refl _) fun j B hj _=>⟨fun _=>hj,fun _=>hall j hj⟩;refine⟨ρ,by rw[<- hbl];exact hat.sat,hat.tmps,hat.defers,fun t=>?_⟩;rw[<- hbl];by_cases hex:∃(j:Nat) (oj:Oper),ops[j]? = some oj/\oj.dst=some t
   ·obtain⟨j,oj,hoj,hd⟩:=hex;have hj:j<ops.size:=(Array.getElem?_eq_some_iff.1 hoj).1;rw[hc.done hok hoj hd _ (Nat.le_refl _) hj];exact hat.done j oj (hall j hj) hoj t hd
   ·have hne:∀(j:Nat) (oj:Oper),ops[j]? = some oj->oj.dst≠some t:=fun j oj h1 h2=>hex ⟨j,oj,h1,h2⟩;rw[hc.out _ (Nat.le_refl _) fun j oj _=>hne j oj];exact hat.out t fun j oj _=>hne j oj
 | succ n ih =>
  intro listed ρ bl a w hn hs hat
  obtain⟨k0,hk1,hk2,hk3⟩:=least_left (listed:=listed) (m:=ops.size) (by omega);have hr:k0∈Region.ready .any ops listed:=mem_ready_of hk2 (Array.getElem?_eq_getElem hk1) fun e he hb=>by
   have h1:=hok.down k0 _ (Array.getElem?_eq_getElem hk1) e he hb;have h2:=hk3 _ h1;rw[WK (by omega)]at h2;exact h2
  refine⟨fun e=>(by rw[e]at hr;cases hr),fun i hir=>?_⟩;obtain⟨g1,o,g2,g3⟩:=ready_mem hir;have hisz:i<ops.size:=(Array.getElem?_eq_some_iff.1 g2).1;have hil:i<listed.size:=by omega
  have g1':listed.getD i false=false:=by rw[<- WK hil];exact g1
  have g2':ops.toList[i]? = some o:=by simpa using g2
  have hres:=hc.res i o g2';rw[Nat.zero_add]at hres
  -- what waits and what is waited for
  have hcl:∀ j∈(yJ ops.toList).getD i [],listed.getD j false=true:=clTab_closed _ ops.toList hat.closed i o g2' g3;have hcl2:∀(j:Nat) (oj:Oper),ops[j]? = some oj->listed.getD j false=true->∀ x∈(yJ ops.toList).getD j [],listed.getD x false=true:=fun j oj hoj hl =>
   clTab_closed _ ops.toList hat.closed j oj (by simpa using hoj) fun e he hb=>hat.closed j oj (by simpa using hoj) hl e he hb
  have hlook:∀ t∈o.looksAt ops,VRel (Dof C.D0 ρ bl) w ρ ((sts i).tm t) (a.tmps.getD t undef):=by
   intro t hlt;by_cases hex:∃(j:Nat) (oj:Oper),ops[j]? = some oj/\oj.dst=some t
   ·obtain⟨j,oj,hoj,hd⟩:=hex;have uniq:∀(j':Nat) (oj':Oper),ops[j']? = some oj'->oj'.dst=some t->j'=j:=by
     intro j' oj' h1 h2;rcases Nat.decEq j' j with e | e
     ·exact absurd h2 (hok.own j j' oj oj' hoj h1 e t hd)
     ·exact e
    by_cases hji:j=i
    ·rw[hc.out i (by omega) fun j' oj' hj' h1 h2=>by have:=uniq j' oj' h1 h2;omega];exact hat.out t fun j' oj' hl h1 h2=>by
      rw[uniq j' oj' h1 h2,hji,g1']at hl;cases hl
    ·rcases hok.looks i j o oj g2 hoj hji t hd hlt with⟨h1,h2⟩ | ⟨h1,h2⟩
     ·rw[hc.done hok hoj hd i (by omega) h1];exact hat.done j oj (hcl j h2) hoj t hd
     ·rw[hc.out i (by omega) fun j' oj' hj' h3 h4=>by have:=uniq j' oj' h3 h4;omega];refine hat.out t fun j' oj' hl h3 h4=>?_;rw[uniq j' oj' h3 h4]at hl;have:=hcl2 j oj hoj hl i h2;rw[g1']at this;cases this
   ·have hne:∀(j:Nat) (oj:Oper),ops[j]? = some oj->oj.dst≠some t:=fun j oj h1 h2=>hex ⟨j,oj,h1,h2⟩;rw[hc.out i (by omega) fun j oj _=>hne j oj];exact hat.out t fun j oj _=>hne j oj
  have hops:∀ x∈o.op.operands,VRel (Dof C.D0 ρ bl) w ρ ((sts i).ev x) (a.eval x):=by
   intro x hx;cases x with
   | tmp t=>exact hlook t (by unfold Oper.looksAt;rw[List.mem_append];left;rw[List.mem_filterMap];exact⟨.tmp t,Array.mem_toList_iff.2 hx,rfl⟩)
   | const c=>exact VW _ _ _ c
   | func f=>rfl
   | global g=>trivial
  -- which places are written by operations that came up
  have hment:∀ f u x,f<m->f<ops.size->x∈o.op.operands->((sts i).ev x).ment (n0+f) u->1<=u->listed.getD f false=true:=by
   intro f u x hf hf' hx hmt hu;cases hl:listed.getD f false with
   | true=>rfl
   | false =>
    obtain⟨l,B,q1,q2,_⟩:=hat.ph f hf hf' hl;obtain⟨l',q3,q4⟩:=j8 (hops x hx) hmt;rw[q1]at q3;cases q3;omega
  have hag:Agree o (sts i) bl:=by
   intro hnb x hx k u hmt B hB hst hBu;rw[hat.blk i k (by omega) ?_]
   ·exact hB
   intro j Bj hj hu;have hoj:ops[j]? = some ops[j]:=Array.getElem?_eq_getElem hj;have hresj:=hc.res j ops[j] (by simp[hj]);rw[Nat.zero_add]at hresj;rcases kB hresj hu with⟨h1,h2,_⟩ | ⟨_,h1,u',y,hy,hmy,_⟩
   ·subst h2;have hjm:=hm j _ hoj h1;rcases Nat.lt_or_ge j i with hji | hji
    ·refine⟨fun _=>hji,fun _=>hment j u x hjm hj hx hmt ?_⟩;have:=hc.ver h0 i (by omega) j B hjm hB hst;omega
    ·have:=hc.ph h0 i (by omega) j hji hjm;rw[this]at hB;cases hB;simp[phB]at hst
   ·rcases Nat.decEq j i with e | e
    ·rcases hok.wrs i j o _ g2 hoj e h1 (by rw[hnb];rfl)with⟨h3,h4 | h4⟩ | ⟨h3,h4 | h4⟩
     ·exact⟨fun _=>h3,fun _=>hcl j h4⟩
     ·exact absurd hmt (hc.no_early g2 hoj h3 h4 h1 hy hmy x hx u)
     ·refine⟨fun hl=>?_,fun h=>by omega⟩;have:=hcl2 j _ hoj hl i h4;rw[g1']at this;cases this
     ·exact absurd hmt (hc.no_late g2 hoj h3 h4 h1 (by rw[hnb];rfl) hu x hx u)
    ·subst e;exact⟨fun hl=>absurd hl (by rw[g1'];simp),fun h=>by omega⟩
  have hfr:gY o.op=true->∃ l B,ρ[n0+i]? = some l/\l.u=0/\bl[n0+i]? = some B/\B.st=2/\l=phL:=fun hf=>hat.ph i (hm i o g2 hf) hisz g1';have hN:=hat.tmps.1;have hdo:yX C.N o.dst:=hdst o (by rw[Array.mem_toList_iff];exact Array.mem_of_getElem? g2)
  -- the state behind the operation
  have after:∀(x:Value) (w':World) (ρ':List Loc),Sat C.D0 C.w0 C.r ρ' (yq bl (ub i)) w'->Ext (Dof C.D0 ρ bl) w w'->(∀ b,b<w.heap.size->Dof C.D0 ρ' (yq bl (ub i)) b->Dof C.D0 ρ bl b)->LocsLe ρ ρ'->(∀ k,(∀ B,ub i≠some (k,B))->ρ'[k]? = ρ[k]?)->VRel (Dof C.D0 ρ' (yq bl (ub i))) w' ρ' (vs i) x->wpAny P .any ops Q n (listed.setIfInBounds i true) (a.put o.dst x) w':=by
   intro x w' ρ' hsat hext hdof hle hsame hx;have hget:∀ t:Nat,o.dst≠some t->(a.put o.dst x).tmps.getD t undef=a.tmps.getD t undef:=by
    intro t hne;cases hd:o.dst with
    | none=>rfl
    | some d =>
     rw[hd]at hne;simp only[Act.put];rw[Array.getD_eq_getD_getElem?,Array.getD_eq_getD_getElem?,Array.getElem?_setIfInBounds_ne (fun e=>hne (by rw[e]))]
   have hlen:(a.put o.dst x).tmps.size=a.tmps.size:=by cases o.dst <;> simp[Act.put]
   have hl':∀ j,(listed.setIfInBounds i true).getD j false=true↔(j=i∨listed.getD j false=true):=by
    intro j;by_cases e:j=i
    ·subst e;rw[Uz hil];simp
    ·rw[gp e];simp[e]
   have hm':=left_set hil g1 ops.size;rw[if_pos hisz]at hm';have hlb:=hc.len i (by omega);refine ih _ ρ' (yq bl (ub i)) _ _ (by omega) (by simpa using hs) ⟨hsat,⟨by omega,hat.tmps.2.trans hle⟩,by cases o.dst <;> exact hat.defers,by rw[setO_length];exact hat.len,?_,fun t hne=>?_,fun j oj hl hoj t hd=>?_,fun j hj hj' hl=>?_,fun j f B hl hj hu hf hf'=>?_,fun M k hM hcond=>?_⟩
   ·intro j oj hoj hl e he hb;rw[hl']at hl ⊢
    rcases hl with e1 | hl
    ·subst e1;rw[g2']at hoj;cases hoj;exact .inr (g3 e he hb)
    ·exact .inr (hat.closed j oj hoj hl e he hb)
   ·rw[hget t (hne i o (by rw[hl'];exact .inl rfl) g2)];exact(hat.out t fun j oj hl hoj=>hne j oj (by rw[hl'];exact .inr hl) hoj).step hext hdof hle
   ·rw[hl']at hl;by_cases e:j=i
    ·subst e;rw[g2]at hoj;cases hoj;rw[hd];have hlt:t<a.tmps.size:=Nat.lt_of_lt_of_le (hdo t hd) hN;simp only[Act.put];rw[show(a.tmps.setIfInBounds t x).getD t undef=x by simp[Array.getD,hlt]];exact hx
    ·have hl:=hl.resolve_left e;rw[hget t fun e'=>hok.own i j o oj g2 hoj e t e' hd];exact(hat.done j oj hl hoj t hd).step hext hdof hle
   ·have hjl:listed.getD j false=false/\j≠i:=by
     by_cases e:j=i
     ·subst e;rw[Uz hil]at hl;cases hl
     ·rw[gp e]at hl;exact⟨hl,e⟩
    obtain⟨l,B,q1,q2,q3,q4⟩:=hat.ph j hj hj' hjl.1;have hnk:∀ B',ub i≠some (n0+j,B'):=by
     intro B' hu;rcases kB hres hu with⟨_,h2,_⟩ | ⟨_,_,u,x',h3,h4,B0,h5,h6,h7,_⟩
     ·have:=hjl.2;omega
     ·have hv:=hc.ver h0 i (by omega) j B0 hj h5 (by omega);have:=hment j u x' hj hj' h3 h4 (by omega);rw[hjl.1]at this;cases this
    refine⟨l,B,by rw[hsame _ hnk];exact q1,q2,?_,q4⟩;cases hu:ub i with
    | none=>exact q3
    | some p =>
     obtain⟨k',B'⟩:=p;simp only[yq];rw[List.getElem?_set_ne (fun e=>hnk B' (by rw[hu,e]))];exact q3
   ·rw[hl']at hl ⊢
    rcases hl with e | hl
    ·subst e;rcases kB hres hu with⟨_,h2,_⟩ | ⟨_,_,u,x',h3,h4,B0,h5,h6,h7,_⟩
     ·left;omega
     ·have hv:=hc.ver h0 j (by omega) f B0 hf h5 (by omega);exact .inr (hment f u x' hf hf' h3 h4 (by omega))
    ·exact .inr (hat.wf j f B hl hj hu hf hf')
   ·cases hu:ub i with
    | none =>
     simp only[yq];refine hat.blk M k hM fun j B hj hju=>?_;have hji:j≠i:=by intro e;rw[e,hu]at hju;cases hju
     have:=hcond j B hj hju;rw[hl']at this;rw[<- this];simp[hji]
    | some p =>
     obtain⟨k',B'⟩:=p;simp only[yq];by_cases e:k'=k
     ·subst e;have hiM:i<M:=(hcond i B' hisz hu).1 (by rw[hl'];exact .inl rfl);have hkl:k'<bl.length:=by
       rw[hat.len,<- hlb];rcases kB hres hu with⟨h1,h2,_⟩ | ⟨_,_,u,x',_,_,B0,h5,_⟩
       ·rw[h2];exact(List.getElem?_eq_some_iff.1 (hc.ph h0 i (by omega) i (Nat.le_refl _) (hm i o g2 h1))).1
       ·exact(List.getElem?_eq_some_iff.1 h5).1
      rw[List.getElem?_set_self hkl];rw[hc.still M (i+1) hiM hM ?_]
      ·rw[hc.bl i (by simp;omega),hu];simp only[yq];rw[List.getElem?_set_self (by rw[hlb,<- hat.len];exact hkl)]
      ·intro j B hij hjM hju;have hj:j<ops.size:=by omega
       have hjl:listed.getD j false=true:=by
        have:=(hcond j B hj hju).2 hjM;rw[hl']at this;exact this.resolve_left (by omega)
       have hoj:ops[j]? = some ops[j]:=Array.getElem?_eq_getElem hj;have hresj:=hc.res j ops[j] (by simp[hj]);rw[Nat.zero_add]at hresj;have hwj:isWr ops[j].op=true:=by
        rcases kB hresj hju with⟨h1,h2,_⟩ | ⟨_,h1,_⟩
        ·exfalso;have hjm:=hm j _ hoj h1;rcases kB hres hu with⟨_,h3,_⟩ | ⟨_,_,u,x',_,_,B0,h5,h6,_⟩
         ·omega
         ·rw[h2,hc.ph h0 i (by omega) j (by omega) hjm]at h5;cases h5;simp[phB]at h6
        ·exact h1
       rcases kB hres hu with⟨h1,h2,_⟩ | ⟨_,h1,u,x',hx',hmt,_⟩
       ·have him:=hm i o g2 h1;have:=hat.wf j i B hjl hj (by rw[hju,h2]) him hisz;rw[g1']at this;cases this
       ·rcases hok.wrs i j o _ g2 hoj (by omega) hwj (by rw[h1];simp)with⟨h3,_⟩ | ⟨h3,h4 | h4⟩
        ·omega
        ·have:=hcl2 j _ hoj hjl i h4;rw[g1']at this;cases this
        ·exact absurd hmt (hc.no_late g2 hoj h3 h4 hwj (by rw[h1];simp) hju x' hx' u)
     ·rw[List.getElem?_set_ne e];refine hat.blk M k hM fun j B hj hju=>?_;have hji:j≠i:=by intro e';rw[e',hu]at hju;cases hju;exact e rfl
      have:=hcond j B hj hju;rw[hl']at this;rw[<- this];simp[hji]
  unfold wpOp;rw[g2];simp only;have run:(∀ D0 w0,Steps2 P D0 w0 C.r o (sts i) (n0+i) (vs i) (ub i))->o.wp P a w (wpAny P .any ops Q n (listed.setIfInBounds i true)) Q:=by
   intro hst;exact hst C.D0 C.w0 ρ bl a w hat.sat hag hfr hops _ _ after
  unfold OpRes at hres;split at hres
  ·rename_i hg;rw[if_pos (by simp[Region.wanted,hg])];exact .inl (run hres.2)
  ·rename_i g want hg;have look:∀ d,(ops[g]?).bind (·.dst)=some d->∃ D ρ,VRel D w ρ ((sts i).tm d) (a.tmps.getD d undef):=fun d hd=>⟨_,ρ,hlook d (by unfold Oper.looksAt;rw[List.mem_append];right;rw[hg];simp only;rw[hd];simp)⟩;rcases hres with⟨d,b,hgv,hcase⟩ | ⟨hgu,hv0,hu0⟩;rotate_left
   ·have hy:=guard_un (a:=a) (w:=w) hgu look;have hwt:Region.wanted o (yielded ops a.tmps)=false:=by
     unfold Region.wanted;rw[hg];simp only[hy];rfl
    rw[hwt,if_neg (by simp)];exact after undef w ρ (by rw[hu0];exact hat.sat) (Ext.refl _ _) (fun b _ h=>by rw[hu0]at h;exact h) (LocsLe.refl _) (fun _ _=>rfl) (by rw[hv0];rfl)
   obtain⟨hy,hv',_,_⟩:=WF (a:=a) (w:=w) hgv look;have hwt:Region.wanted o (yielded ops a.tmps)=(b == want):=by
    unfold Region.wanted;rw[hg];simp only[hy];rfl
   rw[hwt];rcases hcase with⟨hb,_,hst⟩ | ⟨hb,hv0,hu0⟩
   ·rw[if_pos (by simp[hb])];exact .inl (run hst)
   ·rw[if_neg (by rw[hb];cases want <;> simp)];refine after undef w ρ (by rw[hu0];exact hat.sat) (Ext.refl _ _) (fun b _ h=>by rw[hu0]at h;exact h) (LocsLe.refl _) (fun _ _=>rfl) (by rw[hv0];rfl)
end Go.Proofs.YtkmbnldginonbaaGreat
