/- A walk in pieces: behind each piece the state is told anew. -/
import Derived.Test.YtibaocbpeaejkaaGreatUc4
import Derived.Test.YtibaocbpeaejkaaGreatUc9
import Derived.Test.YtibaocbpeaejkaaGreatUc12
namespace Go.Proofs.YtibaocbpeaejkaaGreat
open Go.RowKit
structure Swp (E : Env) (N : Nat) (c : Code) (σ : St) (R : Exit → St → Prop) : Prop where
 run:∀(C:Ctx) (a:Act) (w:World),C.r=E.r->C.ρ0.length≤E.m0->C.N=N->Rel C σ a w->c.wp E.P (QR C R) a w
theorem swp_of {E:Env} (hE:EnvOK E) (hm:E.P.follows .mixedOrders=true) {N:Nat} {c:Code} {σ:St} {R:Exit->St->Prop} (hc:codeB N c=true) (h:awp E c σ R):Swp E N c σ R :=
 ⟨fun C a w h1 h2 h3 hr=>awp_sound (C:=C) hE h1 h2 hm c (by rw[h3];exact hc) h hr⟩
theorem swp_seq {E:Env} (hE:EnvOK E) (hm:E.P.follows .mixedOrders=true) {N:Nat} {x y:Code} {σ:St} {R:Exit->St->Prop} (hc:codeB N x=true) (h:awp E x σ (seqR (fun σ'=>∃ σ2,Weak E.m0 σ' σ2/\Swp E N y σ2 R) R)):Swp E N (.seq x y) σ R:=by
 refine⟨fun C a w h1 h2 h3 hr=>?_⟩
 refine wp_seq (wp_mono (awp_sound (C:=C) hE h1 h2 hm x (by rw[h3];exact hc) h hr) ?_)
 rintro e a' w' ⟨σ',hrel,hk⟩
 cases e with
 | normal =>
  obtain⟨σ2,hw,hs⟩:=hk
  exact hs.run C a' w' h1 h2 h3 (hw C a' w' h2 hrel)
 | _=>exact⟨σ',hrel,hk⟩
theorem swp_seq0 {E:Env} (hE:EnvOK E) (hm:E.P.follows .mixedOrders=true) {N:Nat} {x y:Code} {σ:St} {R:Exit->St->Prop} (hc:codeB N x=true) (h:awp E x σ (seqR (fun σ'=>Swp E N y σ' R) R)):Swp E N (.seq x y) σ R:=by
 refine⟨fun C a w h1 h2 h3 hr=>?_⟩
 refine wp_seq (wp_mono (awp_sound (C:=C) hE h1 h2 hm x (by rw[h3];exact hc) h hr) ?_)
 rintro e a' w' ⟨σ',hrel,hk⟩
 cases e with
 | normal=>exact hk.run C a' w' h1 h2 h3 hrel
 | _=>exact⟨σ',hrel,hk⟩
theorem swp_seqS {E:Env} {N:Nat} {x y:Code} {σ:St} {R:Exit->St->Prop} (h:Swp E N x σ (seqR (fun σ'=>Swp E N y σ' R) R)):Swp E N (.seq x y) σ R:=by
 refine⟨fun C a w h1 h2 h3 hr=>?_⟩
 refine wp_seq (wp_mono (h.run C a w h1 h2 h3 hr) ?_)
 rintro e a' w' ⟨σ',hrel,hk⟩
 cases e with
 | normal=>exact hk.run C a' w' h1 h2 h3 hrel
 | _=>exact⟨σ',hrel,hk⟩
theorem swp_block {E:Env} {N id:Nat} {c:Code} {σ:St} {R:Exit->St->Prop} (h:Swp E N c σ (blockR id R)):Swp E N (.block id c) σ R:=by
 refine⟨fun C a w h1 h2 h3 hr=>?_⟩
 refine wp_block (wp_mono (h.run C a w h1 h2 h3 hr) ?_)
 rintro e a' w' ⟨σ',hrel,hk⟩
 cases e with
 | exit i =>
  simp only[blockR]at hk
  simp only[Exit.inBlock]
  split
  ·rename_i e;rw[if_pos e]at hk;exact⟨σ',hrel,hk⟩
  ·rename_i e;rw[if_neg e]at hk;exact⟨σ',hrel,hk⟩
 | _=>exact⟨σ',hrel,hk⟩
theorem swp_loop {E:Env} {N:Nat} {c:Code} {σ:St} {R:Exit->St->Prop} {α:Type} (S:α->St) (m:α->Nat) (I:α->Prop) (x0:α) (h0:Weak E.m0 σ (S x0)) (hI:I x0) (hr:∀ x,I x->Swp E N c (S x) (seqR (fun σ2=>∃ x',m x'<m x/\Weak E.m0 σ2 (S x')/\I x') R)):Swp E N (.loop c) σ R:=by
 refine⟨fun C a w h1 h2 h3 hrel=>?_⟩
 refine wp_loop_ghost (fun n a w=>∃ x,n=m x/\I x/\Rel C (S x) a w) (m x0) ⟨x0,rfl,hI,h0 _ _ _ h2 hrel⟩ ?_
 rintro n a w ⟨x,rfl,hx,hrel⟩
 refine wp_mono ((hr x hx).run C a w h1 h2 h3 hrel) ?_
 rintro e a' w' ⟨σ2,hrel2,hk⟩
 cases e with
 | normal =>
  obtain⟨x',hlt,hw,hI'⟩:=hk
  exact⟨m x',hlt,x',rfl,hI',hw _ _ _ h2 hrel2⟩
 | _=>exact⟨σ2,hrel2,hk⟩
end Go.Proofs.YtibaocbpeaejkaaGreat
/- Runs whose results are told cell by cell. -/
namespace Go.Proofs.YtibaocbpeaejkaaGreat
open Go.RowKit
def sameC : Cell → Cell → Bool
 | .bool a,.bool b=>a == b
 | .int k a,.int l b=>decide (k=l)&&decide (a=b)
 | .nil,.nil=>true
 | .nil,.row _ n _=>n == 0
 | .row sz n f,.row sz' n' f'=>sz == sz'&&(n == n'&&((List.range n).all fun i=>(List.range sz).all fun j=>sameC (f i j) (f' i j)))
 | _,_=>false
theorem sameC_ok (a:Cell):∀(b:Cell),sameC a b=true->∀(D:Nat->Prop) (w:World) (v:Value),CRel D w [] a v->CRel D w [] b v:=by
 induction a with
 | bool a =>
  intro b h D w v hv
  cases b with
  | bool b=>simp[sameC]at h;subst h;exact hv
  | _=>simp[sameC]at h
 | int k a =>
  intro b h D w v hv
  cases b with
  | int l b=>simp[sameC]at h;obtain⟨rfl,rfl⟩:=h;exact hv
  | _=>simp[sameC]at h
 | nil =>
  intro b h D w v hv
  cases b with
  | nil=>exact hv
  | row sz n f =>
   have h:n=0:=by simpa [sameC] using h
   subst h
   have hv:v = .slice none 0 0:=hv
   exact⟨none,0,hv,Nat.le_refl _,fun h=>absurd h (Nat.lt_irrefl 0)⟩
  | _=>simp[sameC]at h
 | row sz n f ih =>
  intro b h D w v hv
  cases b with
  | row sz' n' f' =>
   simp only[sameC,Bool.and_eq_true,beq_iff_eq,List.all_eq_true,List.mem_range]at h
   obtain⟨rfl,rfl,h⟩:=h
   obtain⟨A,c,e1,e2,e3⟩:=hv
   refine⟨A,c,e1,e2,fun hn=>?_⟩
   obtain⟨b,o,g1,g2,g3,g4⟩:=e3 hn
   refine⟨b,o,g1,g2,g3,fun i j hi hj=>?_⟩
   obtain⟨u,hu,hr⟩:=g4 i j hi hj
   exact⟨u,hu,ih i j (f' i j) (h i hi j hj) D w u hr⟩
  | _=>simp[sameC]at h
 | _=>intro b h;cases b <;> simp[sameC]at h
def sameL : List Cell → List Cell → Bool
 | [],[]=>true
 | a :: l,b :: l'=>sameC a b&&sameL l l'
 | _,_=>false
def sameV : V → V → Bool
 | .c a,.c b=>sameC a b
 | .g l,.g l'=>sameL l l'
 | .t2 a b,.t2 c d=>sameV a c&&sameV b d
 | _,_=>false
theorem sameL_ok : ∀ (l l' : List Cell), sameL l l' = true → ∀ (D : Nat → Prop) (w : World) (vs : List Value), CRels D w [] l vs → CRels D w [] l' vs
 | [],[],_,_,_,_,hv=>hv
 | a :: l,b :: l',h,D,w,v :: vs,hv=>by
  simp only[sameL,Bool.and_eq_true]at h
  exact⟨sameC_ok a b h.1 D w v hv.1,sameL_ok l l' h.2 D w vs hv.2⟩
 | [],_ :: _,h,_,_,_,_=>by simp[sameL]at h
 | _ :: _,[],h,_,_,_,_=>by simp[sameL]at h
 | _ :: _,_ :: _,_,_,_,[],hv=>hv.elim
theorem sameV_ok : ∀ (a b : V), sameV a b = true → ∀ (D : Nat → Prop) (w : World) (v : Value), VRel D w [] a v → VRel D w [] b v
 | .c a,.c b,h,D,w,v,hv=>sameC_ok a b h D w v hv
 | .g l,.g l',h,D,w,v,hv=>by
  obtain⟨vs,h1,h2⟩:=hv
  exact⟨vs,h1,sameL_ok l l' h D w _ h2⟩
 | .t2 a b,.t2 c d,h,D,w,v,hv=>by
  simp only[sameV,Bool.and_eq_true]at h
  obtain⟨x,y,h1,h2,h3⟩:=hv
  exact⟨x,y,h1,sameV_ok a c h.1 D w x h2,sameV_ok b d h.2 D w y h3⟩
 | .c _,.g _,h,_,_,_,_=>by simp[sameV]at h
 | .c _,.t2 ..,h,_,_,_,_=>by simp[sameV]at h
 | .c _,.t3 ..,h,_,_,_,_=>by simp[sameV]at h
 | .c _,.t4 ..,h,_,_,_,_=>by simp[sameV]at h
 | .g _,.c _,h,_,_,_,_=>by simp[sameV]at h
 | .g _,.t2 ..,h,_,_,_,_=>by simp[sameV]at h
 | .g _,.t3 ..,h,_,_,_,_=>by simp[sameV]at h
 | .g _,.t4 ..,h,_,_,_,_=>by simp[sameV]at h
 | .t2 ..,.c _,h,_,_,_,_=>by simp[sameV]at h
 | .t2 ..,.g _,h,_,_,_,_=>by simp[sameV]at h
 | .t2 ..,.t3 ..,h,_,_,_,_=>by simp[sameV]at h
 | .t2 ..,.t4 ..,h,_,_,_,_=>by simp[sameV]at h
 | .t3 ..,_,h,_,_,_,_=>by simp[sameV]at h
 | .t4 ..,_,h,_,_,_,_=>by simp[sameV]at h
 | .un,_,h,_,_,_,_=>by simp[sameV]at h
 | .c _,.un,h,_,_,_,_=>by simp[sameV]at h
 | .g _,.un,h,_,_,_,_=>by simp[sameV]at h
 | .t2 ..,.un,h,_,_,_,_=>by simp[sameV]at h
theorem run_same {inl:FuncId->Bool} {f:FuncId} {args:List V} {Y:V} (h:(pureX orcC (runX ER orcC okF inl 1000 40) f args).map (fun X=>sameV X Y)=some true):FnOK Tryz.prog false f args Y:=by
 cases hx:pureX orcC (runX ER orcC okF inl 1000 40) f args with
 | none=>rw[hx]at h;cases h
 | some X =>
  rw[hx]at h
  have h:sameV X Y=true:=by simpa using h
  have hf:=run_call orcC_ok hx
  refine⟨hf.1,fun D w vs h1 h2 h3=>(hf.2 D w vs h1 h2 h3).mono ?_⟩
  rintro e w' ⟨v,h4,h5,h6⟩
  exact⟨v,h4,sameV_ok X Y h D w' v h5,h6⟩
end Go.Proofs.YtibaocbpeaejkaaGreat
/- An append keeps what stood: the old array's places too. -/
namespace Go.Proofs.YtibaocbpeaejkaaGreat
open Go.RowKit
def RelR (C:Ctx) (ρ:List Loc) (σ:St) (a:Act) (w:World):Prop:=Sat C.D0 C.w0 C.r ρ σ.bl w/\(C.N≤a.tmps.size/\LocsLe C.ρ0 ρ)/\a.defers=[]/\∀ t,VRel (Dof C.D0 ρ σ.bl) w ρ (σ.tm t) (a.tmps.getD t undef)
theorem RelR.put {C:Ctx} {ρ:List Loc} {σ:St} {a:Act} {w:World} (h:RelR C ρ σ a w) {dst:Option Nat} (hd:dstOK C.N dst) {v:V} {x:Value} (hv:VRel (Dof C.D0 ρ σ.bl) w ρ v x):RelR C ρ (σ.put dst v) (a.put dst x) w:=by
 obtain⟨hs,hN,hdf,hf⟩:=h
 obtain⟨h1,h2,h3⟩:=frame_put hN.1 hd hf hv
 exact⟨by rw[St.put_bl];exact hs,⟨h1,hN.2⟩,h2.trans hdf,by rw[St.put_bl];exact h3⟩
theorem append_runK {P : Program} {D0 : Nat → Prop} {w0 : Base} {w : World} {r : Bool} {ρ : List Loc} {bl : List Blk} (h : Sat D0 w0 r ρ bl w) {k : Nat} {l : Loc} {B : Blk} (h1 : ρ[k]? = some l) (h2 : bl[k]? = some B) (h3 : B.st = 0)
  {t ty:TypeId} {i:TypeInfo} {z:Value} (ht:P.underlying t=some (.slice B.t)) (hi:P.info? B.t=some i) (hz:i.zero=some z) (hsz:i.size=B.sz) (hzs:z.cells.size=B.sz) (hzU:r=true->∀(x:Nat) (d:Int),z.cells[x]? ≠ some (.int .u32 d))
  {m c:Nat} {A:Option Addr} {news:List Value} (hl:news.length=m*B.sz) (hA:0<m->∃ a,A=some a/\∀ j u,news[j]? = some u->w.cell? (a.add j)=some u) (h1c:∀ u∈news,u.oneCell'=true) (hnU:r=true->∀(x:Nat) (d:Int),news[x]? ≠ some (.int .u32 d))
  (hmax:B.n+m≤maxLen) (hbytes:(B.n+m)*i.bytes≤140737488355328) {fy:Nat->Nat->Cell} (hfy:∀ a b,a<m->b<B.sz->∃ u,news[a*B.sz+b]? = some u/\CRel (Dof D0 ρ bl) w ρ (fy a b) u) :
  ∃ w' l',(Builtin.append_ #[t,t] ty #[l.v,.slice A m c]).run P w = .ok l'.v w'/\Grown w w' l l' B.t B.sz (B.n+m) (Dof D0 ρ bl) ρ r (appF B.n B.f fy)/\(∀ x,x<w.heap.size->l.b≠some x->w'.heap[x]? = w.heap[x]?)/\w.heap.size≤w'.heap.size/\w'.os=w.os/\w'.tape=w.tape/\w'.output=w.output/\(l'.b=l.b∨∀ x,x<w.heap.size->w'.heap[x]? = w.heap[x]?):=by
 obtain⟨q0,q1⟩:=h.at_ k l B h1 h2 (by omega)
 have hm63:((B.n+m:Nat):Int)≤9223372036854775807:=by simp only[maxLen]at hmax;omega
 have zU:r=true->∀(n x:Nat) (d:Int),(Builtin.zeroCells z.cells n)[x]? ≠ some (.int .u32 d):=by
  intro hr n x d e
  have hx:x<(Builtin.zeroCells z.cells n).size:=(Array.getElem?_eq_some_iff.1 e).1
  rw[size_zeroCells]at hx
  have hp:0<z.cells.size:=by
   rcases Nat.eq_zero_or_pos z.cells.size with e0 | e0
   ·rw[e0]at hx;simp at hx
   ·exact e0
  have hlt:x%z.cells.size<z.cells.size:=Nat.mod_lt _ hp
  simp only[Builtin.zeroCells]at e
  rw[Array.getElem?_map,Array.getElem?_range,if_pos (by simpa using hx)]at e
  simp only[Option.map_some,Option.some.injEq]at e
  rw[getElem!_pos z.cells _ hlt]at e
  exact hzU hr (x%z.cells.size) d (by rw[Array.getElem?_eq_getElem hlt,e])
 rcases q1 with⟨n0,b0,v0⟩ | ⟨g,cap,cs,gb,gm,gv,gh,gs,gn,gc,gf⟩
 ·rcases Nat.eq_zero_or_pos m with hm | hm
  ·subst hm
   refine⟨w,⟨l.u+1,none,0,0⟩,?_,.inl ⟨by omega,rfl⟩,fun _ _ _=>rfl,Nat.le_refl _,rfl,rfl,rfl,.inr fun _ _=>rfl⟩
   rw[v0];exact run_append_zero ht hi none 0 0 c A (Nat.le_refl _)
  ·obtain⟨a,rfl,hnews⟩:=hA hm
   have hr:=run_append_nil (P:=P) w t ty B.t i z ht hi hz a m c news (by rw[hsz];exact hl) hnews hm (by omega) (by rw[n0]at hbytes;simp only[Nat.zero_add]at hbytes;omega)
   have hge:=grownCap_ge w m 0 B.t
   have hcm:grownCap w m 0 B.t≤maxLen:=grownCap_le_maxLen w m 0 B.t (by omega)
   refine⟨_,⟨l.u+1,some w.heap.size,m,grownCap w m 0 B.t⟩,by rw[v0];exact hr,.inr ⟨_,_,_,by rw[n0,Nat.zero_add],.inr (Nat.le_refl _),heap_alloc_new w.drew _,?_,by omega,hcm,fun x y hx hy=>?_,fun hr' x d e=>?_⟩,fun x hx _=>heap_alloc_old w.drew _ hx,by simp,rfl,rfl,rfl,.inr fun x hx=>heap_alloc_old w.drew _ hx⟩
   ·rw[Array.size_append,List.size_toArray,hl,size_zeroCells,hzs,← Nat.add_mul];congr 1;omega
   ·rw[n0,Nat.zero_add]at hx
    obtain⟨u,hu,hur⟩:=hfy x y hx hy
    refine⟨u,?_,by unfold appF;rw[n0,if_neg (by omega)];exact hur⟩
    rw[Array.getElem?_append_left (by rw[List.size_toArray];exact(List.getElem?_eq_some_iff.1 hu).1)]
    simpa using hu
   ·rcases Nat.lt_or_ge x news.length with hx | hx
    ·rw[Array.getElem?_append_left (by simpa using hx)]at e
     exact hnU hr' x d (by simpa using e)
    ·rw[Array.getElem?_append_right (by simpa using hx)]at e
     exact zU hr' _ _ d e
 ·have hnoU:r=true->∀(x:Nat) (d:Int),cs[x]? ≠ some (.int .u32 d):=by
   intro hr x d e
   refine h.noU hr g x d (.inr ⟨k,l,B,h1,h2,h3,gb⟩) ?_
   simp only[World.cell?,gh,Option.isSome_none,Bool.false_eq_true,if_false]
   exact e
  have hsmall:B.n*B.sz≤cs.size:=by rw[gs];exact Nat.mul_le_mul_right _ gn
  rcases Nat.eq_zero_or_pos m with hm | hm
  ·subst hm
   refine⟨w,⟨l.u+1,some g,B.n,cap⟩,?_,.inr ⟨g,cap,cs,rfl,.inl gb,gh,gs,gn,gc,fun x y hx hy=>?_,hnoU⟩,fun _ _ _=>rfl,Nat.le_refl _,rfl,rfl,rfl,.inr fun _ _=>rfl⟩
   ·rw[gv];exact run_append_zero ht hi _ _ _ c A gn
   ·obtain⟨u,hu,hur⟩:=gf x y hx hy
    rw[if_pos h3]at hur
    exact⟨u,hu,by unfold appF;rw[if_pos (show x<B.n by omega)];exact hur⟩
  ·obtain⟨a,rfl,hnews⟩:=hA hm
   by_cases hroom:B.n+m≤cap
   ·have hfit:B.n*i.size+news.length≤cs.size:=by rw[hsz,hl,gs,← Nat.add_mul];exact Nat.mul_le_mul_right _ hroom
    have hr:=run_append_room (P:=P) (ty:=ty) w t B.t i ht hi g B.n cap cs gh a m c news (by rw[hsz];exact hl) hnews h1c hroom hfit
    rw[hsz]at hr hfit
    have hget:∀ x:Nat,(cs.toList.take (B.n*B.sz)++news++cs.toList.drop (B.n*B.sz+news.length)).toArray[x]? = if x<B.n*B.sz then cs[x]? else if x<B.n*B.sz+news.length then news[x-B.n*B.sz]? else cs[x]? := by
     intro x
     simp only[List.getElem?_toArray,List.append_assoc]
     have htl:(cs.toList.take (B.n*B.sz)).length=B.n*B.sz:=by simp;omega
     rcases Nat.lt_or_ge x (B.n*B.sz)with hx | hx
     ·rw[List.getElem?_append_left (by omega),if_pos hx,List.getElem?_take_of_lt hx];simp
     ·rw[List.getElem?_append_right (by omega),htl,if_neg (by omega)]
      rcases Nat.lt_or_ge (x-B.n*B.sz) news.length with hx2 | hx2
      ·rw[List.getElem?_append_left hx2,if_pos (by omega)]
      ·rw[List.getElem?_append_right hx2,if_neg (by omega),List.getElem?_drop]
       simp
       congr 1
       omega
    refine⟨_,⟨l.u+1,some g,B.n+m,cap⟩,by rw[gv];exact hr,.inr ⟨g,cap,_,rfl,.inl gb,setRow_heap w g cs _ B.t _ gh,?_,hroom,gc,fun x y hx hy=>?_,fun hr' x d e=>?_⟩,fun x _ hne=>setRow_other w g x _ (fun e=>hne (by rw[e];exact gb)),by simp,rfl,rfl,rfl,.inl gb.symm⟩
    ·simp only[List.size_toArray,List.length_append,List.length_take,List.length_drop,Array.length_toList]
     omega
    ·rw[hget]
     rcases idx_split hx hy with⟨e1,e2⟩ | ⟨e1,e2,e3,e4,e5⟩
     ·obtain⟨u,hu,hur⟩:=gf x y e1 hy
      rw[if_pos h3]at hur
      exact⟨u,by rw[if_pos e2];exact hu,by unfold appF;rw[if_pos e1];exact hur⟩
     ·obtain⟨u,hu,hur⟩:=hfy (x-B.n) y e2 hy
      exact⟨u,by rw[if_neg (by omega),if_pos (by omega),e4];exact hu,by unfold appF;rw[if_neg (by omega)];exact hur⟩
    ·rw[hget]at e
     split at e
     ·exact hnoU hr' x d e
     ·split at e
      ·exact hnU hr' _ d e
      ·exact hnoU hr' x d e
   ·have holds:∀ j u,(cs.toList.take (B.n*B.sz))[j]? = some u->w.cell? ((⟨g,0,none⟩:Addr).add j)=some u:=by
     intro j u hj
     have hjl:j<B.n*B.sz:=by have:=(List.getElem?_eq_some_iff.1 hj).1;simp at this;omega
     rw[List.getElem?_take_of_lt hjl]at hj
     rw[Addr.add_lit,Nat.zero_add]
     simp only[World.cell?,gh,Option.isSome_none,Bool.false_eq_true,if_false]
     simpa using hj
    have hlo:(cs.toList.take (B.n*B.sz)).length=B.n*B.sz:=by simp;omega
    have hr:=run_append_grow (P:=P) (ty:=ty) w t B.t i z ht hi hz ⟨g,0,none⟩ B.n cap _ (by rw[hsz];exact hlo) holds a m c news (by rw[hsz];exact hl) hnews (by omega) (by omega) (growslice_fits (by omega) hbytes)
    have hge:=grownCap_ge w (B.n+m) cap B.t
    have hcm:grownCap w (B.n+m) cap B.t≤maxLen:=grownCap_le_maxLen w (B.n+m) cap B.t hmax
    have hget:∀ x:Nat,x<(B.n+m)*B.sz->((cs.toList.take (B.n*B.sz)).toArray++news.toArray++Builtin.zeroCells z.cells (grownCap w (B.n+m) cap B.t-(B.n+m)))[x]? = if x<B.n*B.sz then cs[x]? else news[x-B.n*B.sz]? := by
     intro x hx
     rw[Nat.add_mul]at hx
     rw[Array.getElem?_append_left (by simp;omega)]
     rcases Nat.lt_or_ge x (B.n*B.sz)with hx1 | hx1
     ·rw[Array.getElem?_append_left (by simp;omega),if_pos hx1]
      simp[List.getElem?_take_of_lt hx1]
     ·rw[Array.getElem?_append_right (by simp;omega),if_neg (by omega)]
      simp only[List.size_toArray,hlo,List.getElem?_toArray]
    refine⟨_,⟨l.u+1,some w.heap.size,B.n+m,grownCap w (B.n+m) cap B.t⟩,by rw[gv];exact hr,.inr ⟨_,_,_,rfl,.inr (Nat.le_refl _),heap_alloc_new w.drew _,?_,by omega,hcm,fun x y hx hy=>?_,fun hr' x d e=>?_⟩,fun x hx _=>heap_alloc_old w.drew _ hx,by simp,rfl,rfl,rfl,.inr fun x hx=>heap_alloc_old w.drew _ hx⟩
    ·rw[Array.size_append,Array.size_append,List.size_toArray,List.size_toArray,hlo,hl,size_zeroCells,hzs,← Nat.add_mul,← Nat.add_mul];congr 1;omega
    ·rw[hget _ (idx_lt hx hy (Nat.le_refl _))]
     rcases idx_split hx hy with⟨e1,e2⟩ | ⟨e1,e2,e3,e4,e5⟩
     ·obtain⟨u,hu,hur⟩:=gf x y e1 hy
      rw[if_pos h3]at hur
      exact⟨u,by rw[if_pos e2];exact hu,by unfold appF;rw[if_pos e1];exact hur⟩
     ·obtain⟨u,hu,hur⟩:=hfy (x-B.n) y e2 hy
      exact⟨u,by rw[if_neg (by omega),e4];exact hu,by unfold appF;rw[if_neg (by omega)];exact hur⟩
    ·rcases Nat.lt_or_ge x ((B.n+m)*B.sz)with hx | hx
     ·rw[hget x hx]at e
      split at e
      ·exact hnoU hr' x d e
      ·exact hnU hr' _ d e
     ·rw[Nat.add_mul]at hx
      rw[Array.getElem?_append_right (by simp;omega)]at e
      exact zU hr' _ _ d e
theorem app_coreK {P : Program} {C : Ctx} {σ : St} {a : Act} {w : World} {ρ : List Loc} (hs : Sat C.D0 C.w0 C.r ρ σ.bl w) (hN : C.N ≤ a.tmps.size ∧ LocsLe C.ρ0 ρ) (hdf : a.defers = []) (hf : ∀ t, VRel (Dof C.D0 ρ σ.bl) w ρ (σ.tm t) (a.tmps.getD t undef))
  {k u m:Nat} {B:Blk} (hB:σ.bl[k]? = some B) (hu:B.u=u) (h0:B.st=0) {vx vy:Value} (hvx:CRel (Dof C.D0 ρ σ.bl) w ρ (.gs k u) vx) {y:V} (hvy:VRel (Dof C.D0 ρ σ.bl) w ρ y vy) {fy:Nat->Nat->Cell} (hsrc:srcA σ.bl B.sz k y=some (m,fy))
  {T ty:TypeId} {ti te:TI} (ht:tyOf P T=some ti) (he:ti.elem=some B.t) (hte:tyOf P B.t=some te) (hsz:te.size=B.sz) (hzl:te.zero.length=te.size) (hpos:0<te.size) (hzU:C.r=true->te.zero.all Cell.noU=true) (hby:te.bytes≤8388608) (hmax:B.n+m≤16777216)
  (hone:∀ i j,i<m->j<B.sz->St.one σ.bl (fy i j)=true/\(C.r=true->(fy i j).noU=true)) {dst:Option Nat} (hd:dstOK C.N dst) :
  ∃ v' w',(Builtin.append_ #[T,T] ty #[vx,vy]).run P w = .ok v' w'/\∃(l l':Loc),ρ[k]? = some l/\vx=l.v/\v'=l'.v/\RelR C (ρ.set k l') (St.put { σ with bl:=σ.bl.set k ⟨B.t,B.sz,B.n+m,B.u+1,0,appF B.n B.f fy⟩ } dst (.c (.gs k (u+1)))) (a.put dst v') w'/\(∀ x,x<w.heap.size->l.b≠some x->w'.heap[x]? = w.heap[x]?)/\w.heap.size≤w'.heap.size/\(l'.b=l.b∨∀ x,x<w.heap.size->w'.heap[x]? = w.heap[x]?)/\(∀ x,x<w.heap.size->Dof C.D0 (ρ.set k l') (σ.bl.set k ⟨B.t,B.sz,B.n+m,B.u+1,0,appF B.n B.f fy⟩) x->Dof C.D0 ρ σ.bl x):=by
 obtain⟨l,h1,h2,h3⟩:=hvx
 obtain⟨g0,_⟩:=hs.at_ k l B h1 hB (by omega)
 have hvl:=h3 (by omega)
 obtain⟨A,c,news,rfl,n1,n2,n3,n4⟩:=src_rel hs (by omega) hvy hsrc
 obtain⟨d,i,zv,hdd,hi,hz,rfl⟩:=tyOf_spec hte
 obtain⟨w',l',r1,r2,r3,r4,r5,r6,r7,r8⟩:=append_runK (P:=P) (ty:=ty) hs h1 hB h0 (under_elem ht he) hi hz hsz (by rw[← hsz,← hzl];simp[tiOf]) (fun hr x dd e=>by
   have:=List.all_eq_true.1 (hzU hr) (cellOf (.int .u32 dd)) (List.mem_map.2 ⟨_,by rw[Array.mem_toList_iff];exact Array.mem_of_getElem? e,rfl⟩)
   simp[cellOf,Cell.noU]at this) n1 n2 (fun x hx=>by
   obtain⟨j,hj⟩:=List.getElem?_of_mem hx
   obtain⟨p,q,hp,hq,hr⟩:=n4 j x hj
   exact(one_rel hs (hone p q hp hq).1 hr).1) (fun hr x dd e=>by
   obtain⟨p,q,hp,hq,hrr⟩:=n4 x _ e
   exact noU_rel hs (hone p q hp hq).1 ((hone p q hp hq).2 hr) hrr dd rfl) (by unfold maxLen;omega) (by
   have:(B.n+m)*i.bytes≤16777216*8388608:=Nat.mul_le_mul hmax hby
   omega) n3
 obtain⟨s1,s2,s3,s4⟩:=hs.bump h1 hB h0 r2 r3 r4 r5 r6 r7
 refine⟨l'.v,w',by rw[hvl];exact r1,l,l',h1,hvl,rfl,RelR.put (σ:={ σ with bl:=σ.bl.set k ⟨B.t,B.sz,B.n+m,B.u+1,0,appF B.n B.f fy⟩ }) ⟨s1,⟨hN.1,hN.2.trans s4⟩,hdf,frame_step s2 s3 s4 hf⟩ hd ?_,r3,r4,r8,s3⟩
 have hlu:l'.u=l.u+1:=by
  rcases r2 with⟨_,e⟩ | ⟨g,cap',cs',e,_⟩ <;> rw[e]
 exact⟨l',List.getElem?_set_self (List.getElem?_eq_some_iff.1 h1).1,by omega,fun _=>rfl⟩
def keepC (alias:Bool) (k u sz m:Nat) (f:Nat->Nat->Cell):Cell:=match alias with
 | true => .sl k (u+1) sz 0 m
 | false => .row sz m f
theorem app_keep {P : Program} {C : Ctx} {σ : St} {a : Act} {w : World} {ρ : List Loc} (hs : Sat C.D0 C.w0 C.r ρ σ.bl w) (hN : C.N ≤ a.tmps.size ∧ LocsLe C.ρ0 ρ) (hdf : a.defers = []) (hf : ∀ t, VRel (Dof C.D0 ρ σ.bl) w ρ (σ.tm t) (a.tmps.getD t undef))
  {k u m:Nat} {B:Blk} (hB:σ.bl[k]? = some B) (hu:B.u=u) (h0:B.st=0) {vx vy:Value} (hvx:CRel (Dof C.D0 ρ σ.bl) w ρ (.gs k u) vx) {y:V} (hvy:VRel (Dof C.D0 ρ σ.bl) w ρ y vy) {fy:Nat->Nat->Cell} (hsrc:srcA σ.bl B.sz k y=some (m,fy))
  {T ty:TypeId} {ti te:TI} (ht:tyOf P T=some ti) (he:ti.elem=some B.t) (hte:tyOf P B.t=some te) (hsz:te.size=B.sz) (hzl:te.zero.length=te.size) (hpos:0<te.size) (hzU:C.r=true->te.zero.all Cell.noU=true) (hby:te.bytes≤8388608) (hmax:B.n+m≤16777216)
  (hone:∀ i j,i<m->j<B.sz->St.one σ.bl (fy i j)=true/\(C.r=true->(fy i j).noU=true)) {d s c:Nat} (hd:dstOK C.N (some d)) (hds:s≠d) (hsl:σ.tm s = .c (.sl k u B.sz 0 c)) (hcl:∀ i j,i<c->j<B.sz->(B.f i j).clos=true) :
  ∃ v' w' alias,(Builtin.append_ #[T,T] ty #[vx,vy]).run P w = .ok v' w'/\Rel C (St.put (St.put { σ with bl:=σ.bl.set k ⟨B.t,B.sz,B.n+m,B.u+1,0,appF B.n B.f fy⟩ } (some d) (.c (.gs k (u+1)))) (some s) (.c (keepC alias k u B.sz c B.f))) (a.put (some d) v') w':=by
 obtain⟨v',w',r1,l,l',h1,e1,e2,⟨s1,s2,s3,s4⟩,r3,r4,r8,r9⟩:=app_coreK (P:=P) (ty:=ty) hs hN hdf hf hB hu h0 hvx hvy hsrc ht he hte hsz hzl hpos hzU hby hmax hone (dst:=some d) hd
 have hkl:k<ρ.length:=(List.getElem?_eq_some_iff.1 h1).1
 have hkb:k<σ.bl.length:=(List.getElem?_eq_some_iff.1 hB).1
 obtain⟨g0,g1⟩:=hs.at_ k l B h1 hB (by omega)
 -- what the slot holds
 have hv:=hf s
 rw[hsl]at hv
 obtain⟨l1,q1,q2,q3⟩:=hv
 rw[h1]at q1
 cases q1
 obtain⟨q4,A,cp,q5,q6,q7⟩:=q3 (by omega)
 have hln:l.n=B.n:=loc_n hs h1 hB (by omega)
 -- the block behind the append
 have hat':(ρ.set k l')[k]? = some l':=List.getElem?_set_self hkl
 have hbl':(σ.bl.set k ⟨B.t,B.sz,B.n+m,B.u+1,0,appF B.n B.f fy⟩)[k]? = some ⟨B.t,B.sz,B.n+m,B.u+1,0,appF B.n B.f fy⟩:=List.getElem?_set_self hkb
 have hput:∀(τ:St) (v:V),(St.put τ (some d) v).bl=τ.bl:=fun τ v=>St.put_bl τ (some d) v
 rw[hput]at s1 s4
 obtain⟨g2,g3⟩:=s1.at_ k l' _ hat' hbl' (Nat.zero_le 1)
 have hln':l'.n=B.n+m:=loc_n s1 hat' hbl' (Nat.zero_le 1)
 have hval:(a.put (some d) v').tmps.getD s undef=a.tmps.getD s undef:=by
  show(a.tmps.setIfInBounds d v').getD s undef=_
  rw[Array.getD_eq_getD_getElem?,Array.getD_eq_getD_getElem?,Array.getElem?_setIfInBounds_ne (fun e=>hds e.symm)]
 have fin:∀ alias:Bool,CRel (Dof C.D0 (ρ.set k l') (σ.bl.set k ⟨B.t,B.sz,B.n+m,B.u+1,0,appF B.n B.f fy⟩)) w' (ρ.set k l') (keepC alias k u B.sz c B.f) (a.tmps.getD s undef)->Rel C (St.put (St.put { σ with bl:=σ.bl.set k ⟨B.t,B.sz,B.n+m,B.u+1,0,appF B.n B.f fy⟩ } (some d) (.c (.gs k (u+1)))) (some s) (.c (keepC alias k u B.sz c B.f))) (a.put (some d) v') w':=fun alias hk=>by
  refine⟨ρ.set k l',by rw[St.put_bl,hput];exact s1,s2,s3,fun t=>?_⟩
  rw[St.put_bl,hput]
  show VRel _ _ _ (upd _ s _ t) _
  unfold upd
  by_cases e:t=s
  ·rw[if_pos e,e,hval]
   exact hk
  ·rw[if_neg e]
   exact s4 t
 rcases r8 with r8 | r8
 ·refine⟨v',w',true,r1,fin true ⟨l',hat',?_,fun _=>⟨by omega,A,cp,q5,q6,fun hn=>?_⟩⟩⟩
  ·show u+1≤l'.u
   rw[g2]
   show u+1≤B.u+1
   omega
  ·obtain⟨b,b1,b2⟩:=q7 hn
   exact⟨b,by rw[r8];exact b1,b2⟩
 ·by_cases hal:l'.b=l.b
  ·refine⟨v',w',true,r1,fin true ⟨l',hat',?_,fun _=>⟨by omega,A,cp,q5,q6,fun hn=>?_⟩⟩⟩
   ·show u+1≤l'.u
    rw[g2]
    show u+1≤B.u+1
    omega
   ·obtain⟨b,b1,b2⟩:=q7 hn
    exact⟨b,by rw[hal];exact b1,b2⟩
  ·refine⟨v',w',false,r1,fin false ⟨A,cp,q5,q6,fun hn=>?_⟩⟩
   obtain⟨b,b1,b2⟩:=q7 hn
   have hlt:b<w.heap.size:=hs.lt (.inr ⟨k,l,B,h1,hB,h0,b1⟩)
   refine⟨b,0*B.sz,b2,Nat.lt_of_lt_of_le hlt r4,?_,fun i j hi hj=>?_⟩
   ·rintro (hx | ⟨k2,l2,B2,t1,t2,t3,t4⟩)
    ·have t5:=hs.own h1 hB (by omega) b1
     have t6:=hs.d0 b hx
     rcases t5 with t5 | t5
     ·have t5:C.w0.heap.size≤b:=t5
      have:=t6.1
      omega
     ·exact t6.2 t5
    ·by_cases e:k2=k
     ·subst e
      rw[hat']at t1
      cases t1
      exact hal (by rw[t4,b1])
     ·rw[List.getElem?_set_ne (fun h=>e h.symm)]at t1 t2
      exact e (hs.dist k2 k l2 l B2 B b t1 h1 t2 hB (by omega) (by omega) t4 b1)
   ·rcases g1 with⟨g4,_,_⟩ | ⟨b',cap,cs,g4,g5,g6,g7,g8,g9,g10,g11⟩
    ·omega
    ·rw[g4]at b1
     cases b1
     obtain⟨x,hx,hxr⟩:=g11 i j (by omega) hj
     rw[if_pos h0]at hxr
     refine⟨x,?_,(hxr.clos (ρ':=[]) (hcl i j hi hj)).step ⟨r4,fun y hy _=>r8 y hy⟩ (fun y hy hD=>?_) (LocsLe.refl _)⟩
     ·rw[Nat.zero_mul,Nat.zero_add]
      simp only[World.cell?,r8 b hlt,g7]
      simpa using hx
     ·exact r9 y hy hD
end Go.Proofs.YtibaocbpeaejkaaGreat
/- A region with an append, a slot that holds a part of the list remembered. -/
namespace Go.Proofs.YtibaocbpeaejkaaGreat
open Go.RowKit
theorem aops_app {E : Env} (hE : EnvOK E) {C : Ctx} (hC : C.r = E.r) {ops : Array Oper} {Q : Exit → Act → World → Prop} {K : St → Prop} {l2 : List Oper} (hQ : ∀ σ a w, K σ → Rel C σ a w → wpList E.P ops Q l2 a w) :
  ∀(l:List Oper) (σ:St) (a:Act) (w:World),(∀ o∈l,dstOK C.N o.dst)->aops E ops l σ K->Rel C σ a w->wpList E.P ops Q (l++l2) a w
 | [],σ,a,w,_,h,hr=>hQ σ a w h hr
 | o :: rest,σ,a,w,hd,h,hr=>by
  have ih:=fun σ a w=>aops_app (ops:=ops) hE hC hQ rest σ a w (fun o ho=>hd o (by simp[ho]))
  rw[List.cons_append]
  unfold wpList
  simp only[aops]at h
  split at h
  ·rename_i hg
   rw[if_pos (by simp[Region.wanted,hg])]
   exact .inl (aop_sound hE hC h (hd o (by simp)) hr fun σ' a' w' hk hrel=>ih σ' a' w' hk hrel)
  ·rename_i g want hg
   split at h
   ·rename_i d b hgv
    have h:=cs_iff.1 h
    rw[gw_true,gw_false]at h
    obtain⟨hy,hv,hlt,htm⟩:=guard_val (a:=a) (w:=w) hgv (by obtain⟨ρ,hs,hN,hdf,hf⟩:=hr;exact fun d _=>⟨_,ρ,hf d⟩)
    have hwt:Region.wanted o (yielded ops a.tmps)=(b == want):=by
     unfold Region.wanted
     rw[hg]
     simp only[hy]
     rfl
    rw[hwt]
    by_cases e:b=want
    ·rw[if_pos (by simp[e])]
     refine .inl (aop_sound hE hC (h.1 e) (hd o (by simp)) (put_same hr fun D ρ=>?_) fun σ' a' w' hk hrel=>ih σ' a' w' hk hrel)
     rw[hv,e];rfl
    ·have e':b=!want:=by cases b <;> cases want <;> simp_all
     rw[if_neg (by simpa using e)]
     have h2:Rel C (σ.put (some d) (.c (.bool !want))) a w:=put_same hr fun D ρ=>by rw[hv,e'];rfl
     obtain⟨ρ,hs,hN,hdf,hf⟩:=h2
     exact ih _ _ _ (h.2 e') (Rel.put hs hN hdf hf (hd o (by simp)) rfl)
   ·split at h
    ·rename_i hgu
     have hy:=guard_un (a:=a) (w:=w) hgu (by obtain⟨ρ,hs,hN,hdf,hf⟩:=hr;exact fun d _=>⟨_,ρ,hf d⟩)
     have hwt:Region.wanted o (yielded ops a.tmps)=false:=by
      unfold Region.wanted
      rw[hg]
      simp only[hy]
      rfl
     rw[hwt,if_neg (by simp)]
     obtain⟨ρ,hs,hN,hdf,hf⟩:=hr
     exact ih _ _ _ h (Rel.put hs hN hdf hf (hd o (by simp)) rfl)
    ·exact h.elim
structure AppK (E : Env) (o : Oper) (s : Nat) (σ : St) (k u c m d : Nat) (B : Blk) (fy : Nat → Nat → Cell) : Prop where
 op:∃(x y:Operand) (T:TypeId) (ti te:TI),o.op = .call { callee := .builtin .append,args:=#[x,y],argTypes:=#[T,T] }/\E.ty T=some ti/\ti.elem=some B.t/\E.ty B.t=some te/\σ.ev x = .c (.gs k u)/\srcA σ.bl B.sz k (σ.ev y)=some (m,fy)/\te.size=B.sz/\te.zero.length=te.size/\0<te.size/\(E.r=true->te.zero.all Cell.noU=true)/\te.bytes≤8388608
 guard:o.guard=none
 dst:o.dst=some d
 ne:s≠d
 bl:σ.bl[k]? = some B
 ver:B.u=u
 live:B.st=0
 max:B.n+m≤16777216
 one:∀ i j,i<m->j<B.sz->St.one σ.bl (fy i j)=true/\(E.r=true->(fy i j).noU=true)
 part:σ.tm s = .c (.sl k u B.sz 0 c)
 clos:∀ i j,i<c->j<B.sz->(B.f i j).clos=true
def appSt (σ:St) (s k u c m d:Nat) (B:Blk) (fy:Nat->Nat->Cell) (alias:Bool):St:=St.put (St.put { σ with bl:=σ.bl.set k ⟨B.t,B.sz,B.n+m,B.u+1,0,appF B.n B.f fy⟩ } (some d) (.c (.gs k (u+1)))) (some s) (.c (keepC alias k u B.sz c B.f))
theorem appK_sound {E : Env} (hE : EnvOK E) {C : Ctx} (hC : C.r = E.r) {o : Oper} {σ : St} {a : Act} {w : World} {s k u c m d : Nat} {B : Blk} {fy : Nat → Nat → Cell} (h : AppK E o s σ k u c m d B fy) (hd : dstOK C.N o.dst) (hr : Rel C σ a w) {next : Act → World → Prop} {Q : Exit → Act → World → Prop}
  (hn:∀ alias a' w',Rel C (appSt σ s k u c m d B fy alias) a' w'->next a' w'):o.wp E.P a w next Q:=by
 obtain⟨x,y,T,ti,te,hx,t1,t2,t3,t4,t5,t6,t7,t8,t9,t10⟩:=h.op
 obtain⟨ρ,hs,hN,hdf,hf⟩:=hr
 have hvx:=ev_rel hf x
 rw[t4]at hvx
 have hti:=hE.ty _ _ t1
 obtain⟨v',w',al,p1,p2⟩:=app_keep (P:=E.P) (ty:=o.type) hs hN hdf hf h.bl h.ver h.live hvx (ev_rel hf y) t5 hti t2 (hE.ty _ _ t3) t6 t7 t8 (fun hr=>t9 (by rw[← hC];exact hr)) t10 h.max (fun i j hi hj=>⟨(h.one i j hi hj).1,fun hr=>(h.one i j hi hj).2 (by rw[← hC];exact hr)⟩) (by rw[← h.dst];exact hd) h.ne h.part h.clos
 unfold Oper.wp execOp
 simp only[hx,resolve,invoke,builtin,Sem.run_bind,Sem.run_pure,Result.andThen_ok,List.map_toArray,List.map_cons,List.map_nil,p1]
 show next (a.put o.dst v') w'
 rw[h.dst]
 exact hn al _ _ p2
theorem swp_keep {E : Env} (hE : EnvOK E) {N id : Nat} {ops : Array Oper} {pre post : List Oper} {o : Oper} {s : Nat} (hl : ops.toList = pre ++ o :: post) (hdst : (ops.toList.all (dstB N)) = true) {σ : St} {R : Exit → St → Prop}
  (h:aops E ops pre σ fun τ=>∃ k u c m d B fy,AppK E o s τ k u c m d B fy/\∀ alias,aops E ops post (appSt τ s k u c m d B fy alias) (R .normal)):Swp E N (.region id ops false) σ R:=by
 refine⟨fun C a w h1 h2 h3 hr=>?_⟩
 have hdo:∀ o'∈ops.toList,dstOK C.N o'.dst:=by
  intro o' ho d hd'
  have:=List.all_eq_true.1 hdst o' ho
  unfold dstB at this
  rw[hd']at this
  rw[h3]
  simpa using this
 refine wp_region_list ?_
 rw[hl]at hdo ⊢
 refine aops_app hE h1 (fun τ a w hk hrel=>?_) pre σ a w (fun o' ho=>hdo o' (by simp[ho])) h hr
 obtain⟨k,u,c,m,d,B,fy,hK,hrest⟩:=hk
 unfold wpList
 rw[if_pos (by simp[Region.wanted,hK.guard])]
 refine .inl (appK_sound hE h1 hK (hdo o (by simp)) hrel fun al a' w' hrel'=>?_)
 exact aops_sound hE h1 (fun σ a w hk hrel=>⟨σ,hrel,hk⟩) post _ a' w' (fun o' ho=>hdo o' (by simp[ho])) (hrest al) hrel'
end Go.Proofs.YtibaocbpeaejkaaGreat
/- Blocks told anew in place, the first of them kept as it lies. -/
namespace Go.Proofs.YtibaocbpeaejkaaGreat
open Go.RowKit
theorem genE {tm : Nat → V} {bl : List Blk} {tl : List (Nat × V)} {xs : List Gx} (pre : List Blk) (hpre : bl.take pre.length = pre) (hst2 : pre.all (fun B => Nat.ble 2 B.st) = true) (ks : List (Option Nat)) (hi : injK ks = true) (hb : srcsG pre.length bl ks ks xs) (hl : allP tl fun p => regV pre.length bl ks (tm p.1) p.2) {C : Ctx} {a : Act} {w : World} {ρ : List Loc} (hs : Sat C.D0 C.w0 C.r ρ bl w) (hf : ∀ t, VRel (Dof C.D0 ρ bl) w ρ (tm t) (a.tmps.getD t undef)) :
  Sat C.D0 C.w0 C.r (ρ.take pre.length++ks.map (locK ρ)) (pre++xs.map gb) w/\∀ t,VRel (Dof C.D0 (ρ.take pre.length++ks.map (locK ρ)) (pre++xs.map gb)) w (ρ.take pre.length++ks.map (locK ρ)) (asg tl t) (a.tmps.getD t undef):=by
 obtain⟨hlen,hget⟩:=srcsG_get hb
 have hlb:bl.length=ρ.length:=hs.len.symm
 have hq:pre.length≤ρ.length:=by
  have:=congrArg List.length hpre
  rw[List.length_take]at this
  omega
 have hql:(ρ.take pre.length).length=pre.length:=by rw[List.length_take];omega
 have get:∀(j:Nat) (l:Loc) (B:Blk),(ρ.take pre.length++ks.map (locK ρ))[j]? = some l->(pre++xs.map gb)[j]? = some B->2≤B.st∨pre.length≤j/\((∃(k:Nat) (lk:Loc) (Bk:Blk),ks[j-pre.length]? = some (some k)/\ρ[k]? = some lk/\bl[k]? = some Bk/\l={ lk with u:=0 }/\B.t=Bk.t/\B.sz=Bk.sz/\B.n=Bk.n/\Bk.st=0/\B.st=0/\B.u=0/\∀ i j,i<B.n->j<B.sz->regC pre.length bl ks (B.f i j) fun y=>Bk.f i j=y)∨(l=⟨0,none,0,0⟩/\B.n=0/\B.u=0)):=by
  intro j l B e1 e2
  rcases Nat.lt_or_ge j pre.length with hj | hj
  ·left
   rw[List.getElem?_append_left hj]at e2
   exact Nat.le_of_ble_eq_true (List.all_eq_true.1 hst2 B (List.mem_of_getElem? e2))
  right
  refine⟨hj,?_⟩
  rw[List.getElem?_append_right (by omega),hql,List.getElem?_map]at e1
  rw[List.getElem?_append_right hj,List.getElem?_map]at e2
  cases hx:xs[j-pre.length]? with
  | none=>rw[hx]at e2;cases e2
  | some x =>
   rw[hx]at e2
   simp at e2
   obtain⟨k,hk,hsrc⟩:=hget _ x hx
   rw[hk]at e1
   simp at e1
   subst e1 e2
   cases k with
   | none=>exact .inr ⟨rfl,hsrc,rfl⟩
   | some k =>
    obtain⟨Bk,q1,q2,q3,q4,q5,q6⟩:=hsrc
    have hkl:k<ρ.length:=by rw[hs.len];exact(List.getElem?_eq_some_iff.1 q1).1
    refine .inl ⟨k,ρ[k],Bk,hk,List.getElem?_eq_getElem hkl,q1,?_,q2.symm,q3.symm,q4.symm,q5,rfl,rfl,q6⟩
    simp[locK,List.getD,List.getElem?_eq_getElem hkl]
 have hD:∀ b,Dof C.D0 (ρ.take pre.length++ks.map (locK ρ)) (pre++xs.map gb) b->Dof C.D0 ρ bl b:=by
  rintro b (hx | ⟨j,l,B,e1,e2,e3,e4⟩)
  ·exact .inl hx
  ·rcases get j l B e1 e2 with q0 | ⟨_,⟨k,lk,Bk,q1,q2,q3,q4,q5,q6,q7,q8,q9,q10⟩ | ⟨q1,q2⟩⟩
   ·omega
   ·subst q4
    exact .inr ⟨k,lk,Bk,q2,q3,q8,e4⟩
   ·subst q1;cases e4
 have at_j:∀ j k,pre.length.ble j=true->ks[j-pre.length]? = some k->(ρ.take pre.length++ks.map (locK ρ))[j]? = some (locK ρ k):=fun j k h1 h2=>by
  have:=Nat.le_of_ble_eq_true h1
  rw[List.getElem?_append_right (by omega),hql,List.getElem?_map,h2];rfl
 have out:∀(k:Nat) (l:Loc) (B:Blk) (b:Nat),ρ[k]? = some l->bl[k]? = some B->B.st≤1->l.b=some b->pre.length.ble k=true->(ks.any fun x=>x == some k)=false->¬ Dof C.D0 (ρ.take pre.length++ks.map (locK ρ)) (pre++xs.map gb) b:=by
  rintro k l B b p1 p2 p3 p4 p5 p6 (hx | ⟨j,l',B',e1,e2,e3,e4⟩)
  ·have h1:=hs.own p1 p2 p3 p4
   have h2:=hs.d0 b hx
   rcases h1 with h1 | h1
   ·have:=h2.1
    have h3:C.w0.heap.size≤b:=h1
    omega
   ·exact h2.2 h1
  ·rcases get j l' B' e1 e2 with q0 | ⟨_,⟨k',lk,Bk,q1,q2,q3,q4,q5,q6,q7,q8,q9,q10⟩ | ⟨q1,q2⟩⟩
   ·omega
   ·subst q4
    have:=hs.dist k k' l lk B Bk b p1 q2 p2 q3 p3 (by omega) p4 e4
    subst this
    have:=List.any_eq_false.1 p6 (some k) (List.mem_of_getElem? q1)
    simp at this
   ·subst q1;cases e4
 refine⟨⟨hs.below,hs.d0,by rw[List.length_append,hql];simp[hlen],fun j l B e1 e2 hst=>?_,fun i j li lj Bi Bj b e1 e2 e3 e4 e5 e6 e7 e8=>?_,fun hr b o d hb=>hs.noU hr b o d (hD b hb)⟩,fun t=>?_⟩
 ·rcases get j l B e1 e2 with q0 | ⟨_,⟨k,lk,Bk,q1,q2,q3,q4,q5,q6,q7,q8,q9,q10,q11⟩ | ⟨q1,q2,q3⟩⟩
  ·omega
  ·subst q4
   refine⟨q10.symm,?_⟩
   rcases(hs.at_ k lk Bk q2 q3 (by omega)).2 with⟨g1,g2,g3⟩ | ⟨b,cap,cs,g2,g3,g4,g5,g6,g7,g8,g9⟩
   ·exact .inl ⟨q7.trans g1,g2,g3⟩
   ·refine .inr ⟨b,cap,cs,g2,g3,by rw[q7];exact g4,by rw[q5];exact g5,by rw[q6];exact g6,by rw[q7];exact g7,g8,fun x y hx hy=>?_⟩
    obtain⟨u,hu,hur⟩:=g9 x y (by omega) (by omega)
    refine⟨u,by rw[q6];exact hu,?_⟩
    rw[if_pos q8]at hur
    rw[if_pos q9]
    exact regC_rel hs hD at_j out (q11 x y hx hy) fun z hz=>by subst hz;exact hur
  ·subst q1
   exact⟨q3.symm,.inl ⟨q2,rfl,rfl⟩⟩
 ·rcases get i li Bi e1 e3 with q0 | ⟨hi1,⟨k,lk,Bk,q1,q2,q3,q4,q5,q6,q7,q8,q9,q10⟩ | ⟨q1,q2⟩⟩
  ·omega
  ·rcases get j lj Bj e2 e4 with p0 | ⟨hj1,⟨k',lk',Bk',p1,p2,p3,p4,p5,p6,p7,p8,p9,p10⟩ | ⟨p1,p2⟩⟩
   ·omega
   ·subst q4 p4
    have:=hs.dist k k' lk lk' Bk Bk' b q2 p2 q3 p3 (by omega) (by omega) e7 e8
    subst this
    have:=injK_eq hi q1 p1
    omega
   ·subst p1;cases e8
  ·subst q1;cases e7
 ·rcases asg_mem tl t with e | e
  ·show VRel _ _ _ (asg tl t) _
   rw[e];trivial
  ·have e1:=allP_mem hl _ e
   have e2:VRel (Dof C.D0 ρ bl) w ρ (tm t) (a.tmps.getD t undef):=hf t
   show VRel _ _ _ (asg tl t) _
   generalize asg tl t=y at e1 ⊢
   have e1:regV pre.length bl ks (tm t) y:=e1
   have fin:∀ y:V,tm t=y/\y.clos=true->VRel (Dof C.D0 (ρ.take pre.length++ks.map (locK ρ)) (pre++xs.map gb)) w (ρ.take pre.length++ks.map (locK ρ)) y (a.tmps.getD t undef):=fun y h=>by
    rw[h.1]at e2
    exact(e2.clos h.2).step (Ext.refl _ _) (fun b _ hb=>hD b hb) (LocsLe.refl _)
   match y,e1 with
   | .c y,e1 =>
    exact regC_rel hs hD at_j out e1 fun x hx=>by
     have hx:tm t = .c x:=hx
     rw[hx]at e2
     exact e2
   | .g l,e1 =>
    rcases e1 with⟨h1,h2⟩ | ⟨l',h1,h2⟩
    ·exact fin _ ⟨h1,h2⟩
    ·rw[h1]at e2
     obtain⟨vs,h3,h4⟩:=e2
     exact⟨vs,h3,regL_rel hs hD at_j out h2 h4⟩
   | .t2 ..,e1=>exact fin _ e1
   | .t3 ..,e1=>exact fin _ e1
   | .t4 ..,e1=>exact fin _ e1
   | .un,e1=>exact fin _ e1
theorem Weak.gen2 {tm:Nat->V} {bl:List Blk} {tl:List (Nat × V)} {xs:List Gx} (ks:List (Option Nat)) (h0:∃ B,bl[0]? = some B/\B.u=0/\B.st=0) (hi:injK (some 0 :: ks)=true) (hb:srcsG 0 bl (some 0 :: ks) (some 0 :: ks) xs) (hl:allP tl fun p=>regV 0 bl (some 0 :: ks) (tm p.1) p.2):Weak 1 ⟨tm,bl⟩ (gst tl xs):=by
 rintro C a w hm0 ⟨ρ,hs,hN,hdf,hf⟩
 obtain⟨g1,g2⟩:=genE [] rfl rfl (some 0 :: ks) hi hb hl hs hf
 refine⟨_,g1,⟨hN.1,fun k l h=>?_⟩,hdf,g2⟩
 obtain⟨l',h1,h2⟩:=hN.2 k l h
 have hk:k<1:=Nat.lt_of_lt_of_le (List.getElem?_eq_some_iff.1 h).1 hm0
 obtain rfl:=Nat.lt_one_iff.1 hk
 obtain⟨B,a3,a4,a5⟩:=h0
 have e1:=(hs.at_ 0 l' B h1 a3 (by omega)).1
 refine⟨l',?_,h2⟩
 show some (locK ρ (some 0))=some l'
 simp only[locK,List.getD,h1,Option.getD_some]
 rw[a4]at e1
 rw[← e1]
end Go.Proofs.YtibaocbpeaejkaaGreat
/- The closure of arith.Divisors: a list of numbers, longer by its multiples. -/
namespace Go.Proofs.YtibaocbpeaejkaaGreat
open Go.RowKit
theorem Swp.weak {E:Env} {N:Nat} {c:Code} {σ σ2:St} {R:Exit->St->Prop} (hw:Weak E.m0 σ σ2) (h:Swp E N c σ2 R):Swp E N c σ R:=⟨fun C a w h1 h2 h3 hr=>h.run C a w h1 h2 h3 (hw C a w h2 hr)⟩
namespace Dv
def F (n:Nat) (f:Nat->Int) (p:Int) (i:Nat):Int:=f (i%n)*p^(i / n)
theorem F_low {n i:Nat} {f:Nat->Int} {p:Int} (h:i<n):F n f p i=f i:=by
 unfold F
 rw[Nat.mod_eq_of_lt h,Nat.div_eq_of_lt h,Int.pow_zero,Int.mul_one]
theorem F_next {n t q:Nat} {f:Nat->Int} {p:Int} (h:t<n):F n f p (n*(q+1)+t)=F n f p t*p^(q+1):=by
 rw[F_low h]
 unfold F
 rw[Nat.mul_add_mod,Nat.mod_eq_of_lt h,Nat.mul_add_div (by omega),Nat.div_eq_of_lt h,Nat.add_zero]
abbrev gI (n:Nat) (g:Nat->Int):Gx:=⟨3,1,n,fun i _ => .int .i64 (g i)⟩
abbrev gBox:Gx:=⟨23,1,1,fun _ _ => .gs 1 0⟩
abbrev kC (n:Nat) (g:Nat->Int) (al:Bool):Cell:=match al with
 | true => .sl 1 0 1 0 n
 | false => .row 1 n fun i _ => .int .i64 (g i)
abbrev sO (n:Nat) (g:Nat->Int) (p e:Int) (q:Nat):St:=gst [(0,.c (.int .i64 p)),(1,.c (.int .i64 (e-q))),(2,.c (.p 0 0 1 0 0)),(5,.c (.int .i64 n)),(6,.c (.int .i64 (p^(q+1))))] [gBox,gI (n*(q+1)) g]
abbrev sI (n:Nat) (g:Nat->Int) (p e:Int) (q t:Nat) (al:Bool):St:=gst [(0,.c (.int .i64 p)),(1,.c (.int .i64 (e-q))),(2,.c (.p 0 0 1 0 0)),(5,.c (.int .i64 n)),(6,.c (.int .i64 (p^(q+1)))),(21,.c (kC n g al)),(22,.c (.int .i64 n)),(23,.c (.int .i64 t))] [gBox,gI (n*(q+1)+t) g]
abbrev sJ (n:Nat) (g:Nat->Int) (p e:Int) (q t:Nat) (al:Bool):St:=gst [(0,.c (.int .i64 p)),(1,.c (.int .i64 (e-q))),(2,.c (.p 0 0 1 0 0)),(5,.c (.int .i64 n)),(6,.c (.int .i64 (p^(q+1)))),(8,.c (.int .i64 (g t))),(21,.c (kC n g al)),(22,.c (.int .i64 n)),(23,.c (.int .i64 t))] [gBox,gI (n*(q+1)+t) g]
abbrev sK (n:Nat) (g:Nat->Int) (p e:Int) (q t:Nat) (al:Bool):St:=gst [(0,.c (.int .i64 p)),(1,.c (.int .i64 (e-q))),(2,.c (.p 0 0 1 0 0)),(5,.c (.int .i64 n)),(6,.c (.int .i64 (p^(q+1)))),(21,.c (kC n g al)),(22,.c (.int .i64 n)),(23,.c (.int .i64 t))] [gBox,gI (n*(q+1)+(t+1)) g]
theorem app_int {n q t:Nat} {g:Nat->Int} {x:Int} (hx:x=g (n*(q+1)+t)) (i j:Nat) (hi:i<n*(q+1)+(t+1)) (hj:j<1):appF (n*(q+1)+t) (fun i _ => .int .i64 (g i)) (rowF 1 [.int .i64 x]) i j = .int .i64 (g i):=by
 obtain rfl:=Nat.lt_one_iff.1 hj
 unfold appF
 split
 ·rfl
 ·rename_i c
  have e:i=n*(q+1)+t:=by omega
  rw[e,Nat.sub_self,hx]
  rfl
theorem one1 {bl:List Blk} {x:Int} (i j:Nat) (hi:i<1) (hj:j<1):St.one bl (rowF 1 [.int .i64 x] i j)=true/\(E0m.r=true->(rowF 1 [Cell.int .i64 x] i j).noU=true):=by
 obtain rfl:=Nat.lt_one_iff.1 hi
 obtain rfl:=Nat.lt_one_iff.1 hj
 exact⟨rfl,fun _=>rfl⟩
theorem upd1 {f:Nat->Nat->Cell} {x:Cell} {i j:Nat} (hi:i<1) (hj:j<1):updF f 0 0 [x] i j=x:=by
 obtain rfl:=Nat.lt_one_iff.1 hi
 obtain rfl:=Nat.lt_one_iff.1 hj
 rfl
structure Bds (n : Nat) (f : Nat → Int) (p e : Int) : Prop where
 pos:1≤n
 low:n≤1000
 e0:0≤e
 e1:e≤1000
 num:∀ i q:Nat,i<n->(q:Int)<e->inR .i64 (F n f p i*p^(q+1))
 pow:∀ q:Nat,(q:Int)<e->inR .i64 (p^(q+1)*p)
set_option maxHeartbeats 4000000 in
theorem div_swp {n : Nat} {f : Nat → Int} {p e : Int} (hb : Bds n f p e) (c : Code) (hc : Tryz.f74.body = some c) :
  Swp E0m 34 c (gst [(0,.c (.int .i64 p)),(1,.c (.int .i64 e)),(2,.c (.p 0 0 1 0 0))] [gBox,gI n (F n f p)]) fun x σ=>(x = .normal∨x = .ret)/\Weak 1 σ (gst [] [gBox,gI (n*(e.toNat+1)) (F n f p)]):=by
 obtain rfl:=Option.some.inj hc.symm
 obtain⟨h1,h2,h3,h4,h5,h6⟩:=hb
 have hF:∀ q t:Nat,t<n->F n f p t*p^(q+1)=F n f p (n*(q+1)+t):=fun q t ht=>(F_next ht).symm
 generalize F n f p=g at *
 have hN:∀ q:Nat,(q:Int)≤e->n*(q+1)≤1001000:=fun q hq=>Nat.le_trans (Nat.mul_le_mul h2 (show q+1≤1001 by omega)) (by decide)
 have p1:p=p^(0+1):=by rw[Nat.zero_add,Int.pow_succ,Int.pow_zero,Int.one_mul]
 have n1:n=n*(0+1):=by rw[Nat.zero_add,Nat.mul_one]
 refine swp_seq0 E0m_ok mixed (by kernel_rfl) ?_
 conv=>whnf
 refine swp_seq0 E0m_ok mixed (by kernel_rfl) ?_
 conv=>whnf
 refine swp_block ?_
 refine swp_loop (fun q:Nat=>sO n g p e q) (fun q=>e.toNat-q) (fun q=>(q:Int)≤e) 0 ?_ (by omega) fun q hq=>?_
 ·exact Weak.gen2 [some 1] ⟨_,rfl,rfl,rfl⟩ rfl ⟨⟨_,rfl,rfl,rfl,rfl,rfl,fun i j hi hj=>⟨_,rfl,rfl,rfl⟩⟩,⟨_,rfl,rfl,rfl,n1,rfl,fun i j hi hj=>regE rfl rfl⟩,trivial⟩ ⟨⟨_,rfl,rfl⟩,⟨_,rfl,by show e=e-((0:Nat):Int);omega⟩,⟨_,rfl,rfl,rfl⟩,⟨_,rfl,rfl⟩,⟨_,rfl,p1⟩,trivial⟩
 have hN:=hN q hq
 have hF:=hF q
 have h5:=fun i a b=>h5 i q a b
 have h6:=h6 q
 refine swp_seq0 E0m_ok mixed (by kernel_rfl) ?_
 conv=>whnf
 refine bcase (fun(h:decide ((0:Int)<e-(q:Int))=true)=>?_) fun(h:decide ((0:Int)<e-(q:Int))=false)=>?_
 ·have h:=of_decide_eq_true h
  have h6:=h6 (by omega)
  have hn1:n≤n*(q+1):=Nat.le_mul_of_pos_right n (by omega)
  have hn2:(n:Int)≤((n*(q+1):Nat):Int):=by exact_mod_cast hn1
  conv=>whnf
  refine swp_seqS (swp_block ?_)
  refine swp_seq E0m_ok mixed (by kernel_rfl) ?_
  conv=>whnf
  refine⟨by omega,by omega,?_⟩
  conv=>whnf
  refine⟨hn2,?_⟩
  conv=>whnf
  refine⟨sI n g p e q 0 true,Weak.gen2 [some 1] ⟨_,rfl,rfl,rfl⟩ rfl ⟨⟨_,rfl,rfl,rfl,rfl,rfl,fun i j hi hj=>⟨_,rfl,rfl,rfl⟩⟩,⟨_,rfl,rfl,rfl,rfl,rfl,fun i j hi hj=>regE rfl rfl⟩,trivial⟩ ⟨⟨_,rfl,rfl⟩,⟨_,rfl,rfl⟩,⟨_,rfl,rfl,rfl⟩,⟨_,rfl,rfl⟩,⟨_,rfl,rfl⟩,⟨_,_,rfl,rfl,rfl,by omega⟩,⟨_,rfl,by omega⟩,⟨_,rfl,rfl⟩,trivial⟩,?_⟩
  refine swp_block ?_
  refine swp_loop (fun x:Nat × Bool=>sI n g p e q x.1 x.2) (fun x=>n-x.1) (fun x=>x.1≤n) (0,true) (Weak.refl _) (Nat.zero_le _) ?_
  rintro ⟨t,al⟩ ht
  have ht:t≤n:=ht
  have hF:=hF t
  have h5:=h5 t
  refine swp_seq0 E0m_ok mixed (by kernel_rfl) ?_
  conv=>whnf
  refine swp_seq0 E0m_ok mixed (by kernel_rfl) ?_
  conv=>whnf
  refine bcase (fun(k:decide ((t:Int)<n)=true)=>?_) fun(k:decide ((t:Int)<n)=false)=>?_
  ·have k:=of_decide_eq_true k
   have hF:=hF (by omega)
   have h5:=h5 (by omega) (by omega)
   conv=>whnf
   refine swp_seqS (swp_block ?_)
   have eq8:g (0+((t:Nat):Int).toNat)=g t:=by rw[Int.toNat_natCast,Nat.zero_add]
   have hl:n*(q+1)+t+1≤16777216:=by omega
   have hm1:n-(t+1)<n-t:=by omega
   have hm2:t+1≤n:=by omega
   cases al
   ·refine swp_seq E0m_ok mixed (by kernel_rfl) ?_
    conv=>whnf
    refine⟨Int.natCast_nonneg t,k,?_⟩
    conv=>whnf
    refine⟨sJ n g p e q t false,Weak.gen2 [some 1] ⟨_,rfl,rfl,rfl⟩ rfl ⟨⟨_,rfl,rfl,rfl,rfl,rfl,fun i j hi hj=>⟨_,rfl,rfl,rfl⟩⟩,⟨_,rfl,rfl,rfl,rfl,rfl,fun i j hi hj=>regE rfl rfl⟩,trivial⟩ ⟨⟨_,rfl,rfl⟩,⟨_,rfl,rfl⟩,⟨_,rfl,rfl,rfl⟩,⟨_,rfl,rfl⟩,⟨_,rfl,rfl⟩,⟨_,rfl,rfl⟩,.inl ⟨_,_,rfl,rfl,fun _ _ _ _=>rfl⟩,⟨_,rfl,rfl⟩,⟨_,rfl,rfl⟩,trivial⟩,?_⟩
    refine swp_of E0m_ok mixed (by kernel_rfl) ?_
    conv=>whnf
    refine⟨h5,?_⟩
    conv=>whnf
    refine⟨hl,?_⟩
    conv=>whnf
    refine⟨fun i j hi hj=>one1 i j hi hj,?_⟩
    conv=>whnf
    refine Swp.weak (σ2:=sK n g p e q t false) (Weak.gen2 [some 1] ⟨_,rfl,rfl,rfl⟩ rfl ⟨⟨_,rfl,rfl,rfl,rfl,rfl,fun i j hi hj=>⟨_,rfl,upd1 hi hj,rfl⟩⟩,⟨_,rfl,rfl,rfl,rfl,rfl,fun i j hi hj=>regE (app_int hF i j hi hj) rfl⟩,trivial⟩ ⟨⟨_,rfl,rfl⟩,⟨_,rfl,rfl⟩,⟨_,rfl,rfl,rfl⟩,⟨_,rfl,rfl⟩,⟨_,rfl,rfl⟩,.inl ⟨_,_,rfl,rfl,fun _ _ _ _=>rfl⟩,⟨_,rfl,rfl⟩,⟨_,rfl,rfl⟩,trivial⟩) ?_
    refine swp_of E0m_ok mixed (by kernel_rfl) ?_
    conv=>whnf
    refine⟨⟨by omega,by omega⟩,?_⟩
    conv=>whnf
    exact⟨(t+1,false),hm1,Weak.gen2 [some 1] ⟨_,rfl,rfl,rfl⟩ rfl ⟨⟨_,rfl,rfl,rfl,rfl,rfl,fun i j hi hj=>⟨_,rfl,rfl,rfl⟩⟩,⟨_,rfl,rfl,rfl,rfl,rfl,fun i j hi hj=>regE rfl rfl⟩,trivial⟩ ⟨⟨_,rfl,rfl⟩,⟨_,rfl,rfl⟩,⟨_,rfl,rfl,rfl⟩,⟨_,rfl,rfl⟩,⟨_,rfl,rfl⟩,.inl ⟨_,_,rfl,rfl,fun _ _ _ _=>rfl⟩,⟨_,rfl,rfl⟩,⟨_,rfl,rfl⟩,trivial⟩,hm2⟩
   ·refine swp_seq E0m_ok mixed (by kernel_rfl) ?_
    conv=>whnf
    refine⟨Int.natCast_nonneg t,k,?_⟩
    conv=>whnf
    refine⟨sJ n g p e q t true,Weak.gen2 [some 1] ⟨_,rfl,rfl,rfl⟩ rfl ⟨⟨_,rfl,rfl,rfl,rfl,rfl,fun i j hi hj=>⟨_,rfl,rfl,rfl⟩⟩,⟨_,rfl,rfl,rfl,rfl,rfl,fun i j hi hj=>regE rfl rfl⟩,trivial⟩ ⟨⟨_,rfl,rfl⟩,⟨_,rfl,rfl⟩,⟨_,rfl,rfl,rfl⟩,⟨_,rfl,rfl⟩,⟨_,rfl,rfl⟩,⟨_,rfl,eq8⟩,⟨_,_,rfl,rfl,rfl,rfl⟩,⟨_,rfl,rfl⟩,⟨_,rfl,rfl⟩,trivial⟩,?_⟩
    refine swp_keep E0m_ok (pre:=[_,_,_,_,_]) (post:=[_]) (s:=21) rfl (by kernel_rfl) ?_
    conv=>whnf
    refine⟨h5,?_⟩
    conv=>whnf
    refine⟨1,0,n,1,32,_,_,⟨⟨_,_,_,_,_,rfl,rfl,rfl,rfl,rfl,rfl,rfl,rfl,by decide,fun _=>rfl,by decide⟩,rfl,rfl,by decide,rfl,rfl,rfl,?_,fun i j hi hj=>?_,rfl,fun i j hi hj=>rfl⟩,fun al=>?_⟩
    ·exact hl
    ·exact one1 i j hi hj
    ·cases al
     ·conv=>whnf
      refine Swp.weak (σ2:=sK n g p e q t false) (Weak.gen2 [some 1] ⟨_,rfl,rfl,rfl⟩ rfl ⟨⟨_,rfl,rfl,rfl,rfl,rfl,fun i j hi hj=>⟨_,rfl,upd1 hi hj,rfl⟩⟩,⟨_,rfl,rfl,rfl,rfl,rfl,fun i j hi hj=>regE (app_int hF i j hi hj) rfl⟩,trivial⟩ ⟨⟨_,rfl,rfl⟩,⟨_,rfl,rfl⟩,⟨_,rfl,rfl,rfl⟩,⟨_,rfl,rfl⟩,⟨_,rfl,rfl⟩,.inl ⟨_,_,rfl,rfl,fun _ _ _ _=>rfl⟩,⟨_,rfl,rfl⟩,⟨_,rfl,rfl⟩,trivial⟩) ?_
      refine swp_of E0m_ok mixed (by kernel_rfl) ?_
      conv=>whnf
      refine⟨⟨by omega,by omega⟩,?_⟩
      conv=>whnf
      exact⟨(t+1,false),hm1,Weak.gen2 [some 1] ⟨_,rfl,rfl,rfl⟩ rfl ⟨⟨_,rfl,rfl,rfl,rfl,rfl,fun i j hi hj=>⟨_,rfl,rfl,rfl⟩⟩,⟨_,rfl,rfl,rfl,rfl,rfl,fun i j hi hj=>regE rfl rfl⟩,trivial⟩ ⟨⟨_,rfl,rfl⟩,⟨_,rfl,rfl⟩,⟨_,rfl,rfl,rfl⟩,⟨_,rfl,rfl⟩,⟨_,rfl,rfl⟩,.inl ⟨_,_,rfl,rfl,fun _ _ _ _=>rfl⟩,⟨_,rfl,rfl⟩,⟨_,rfl,rfl⟩,trivial⟩,hm2⟩
     ·conv=>whnf
      refine Swp.weak (σ2:=sK n g p e q t true) (Weak.gen2 [some 1] ⟨_,rfl,rfl,rfl⟩ rfl ⟨⟨_,rfl,rfl,rfl,rfl,rfl,fun i j hi hj=>⟨_,rfl,upd1 hi hj,rfl⟩⟩,⟨_,rfl,rfl,rfl,rfl,rfl,fun i j hi hj=>regE (app_int hF i j hi hj) rfl⟩,trivial⟩ ⟨⟨_,rfl,rfl⟩,⟨_,rfl,rfl⟩,⟨_,rfl,rfl,rfl⟩,⟨_,rfl,rfl⟩,⟨_,rfl,rfl⟩,⟨_,_,rfl,rfl,rfl,rfl⟩,⟨_,rfl,rfl⟩,⟨_,rfl,rfl⟩,trivial⟩) ?_
      refine swp_of E0m_ok mixed (by kernel_rfl) ?_
      conv=>whnf
      refine⟨⟨by omega,by omega⟩,?_⟩
      conv=>whnf
      exact⟨(t+1,true),hm1,Weak.gen2 [some 1] ⟨_,rfl,rfl,rfl⟩ rfl ⟨⟨_,rfl,rfl,rfl,rfl,rfl,fun i j hi hj=>⟨_,rfl,rfl,rfl⟩⟩,⟨_,rfl,rfl,rfl,rfl,rfl,fun i j hi hj=>regE rfl rfl⟩,trivial⟩ ⟨⟨_,rfl,rfl⟩,⟨_,rfl,rfl⟩,⟨_,rfl,rfl,rfl⟩,⟨_,rfl,rfl⟩,⟨_,rfl,rfl⟩,⟨_,_,rfl,rfl,rfl,rfl⟩,⟨_,rfl,rfl⟩,⟨_,rfl,rfl⟩,trivial⟩,hm2⟩
  ·have k:=of_decide_eq_false k
   have k1:t=n:=by omega
   have e1:n*(q+1)+t=n*(q+1+1):=by rw[k1,Nat.mul_succ n (q+1)]
   have e2:e-(q:Int)-1=e-((q+1:Nat):Int):=by omega
   have e3:p^(q+1)*p=p^(q+1+1):=(Int.pow_succ p (q+1)).symm
   have m1:e.toNat-(q+1)<e.toNat-q:=by omega
   have m2:((q+1:Nat):Int)≤e:=by omega
   conv=>whnf
   refine swp_of E0m_ok mixed (by kernel_rfl) ?_
   conv=>whnf
   refine⟨⟨by omega,by omega⟩,?_⟩
   conv=>whnf
   refine⟨h6,?_⟩
   conv=>whnf
   exact⟨q+1,m1,Weak.gen2 [some 1] ⟨_,rfl,rfl,rfl⟩ rfl ⟨⟨_,rfl,rfl,rfl,rfl,rfl,fun i j hi hj=>⟨_,rfl,rfl,rfl⟩⟩,⟨_,rfl,rfl,rfl,e1,rfl,fun i j hi hj=>regE rfl rfl⟩,trivial⟩ ⟨⟨_,rfl,rfl⟩,⟨_,rfl,e2⟩,⟨_,rfl,rfl,rfl⟩,⟨_,rfl,rfl⟩,⟨_,rfl,e3⟩,trivial⟩,m2⟩
 ·have h:=of_decide_eq_false h
  have e1:q=e.toNat:=by omega
  have e2:n*(q+1)=n*(e.toNat+1):=by rw[e1]
  conv=>whnf
  exact⟨.inl rfl,Weak.gen2 [some 1] ⟨_,rfl,rfl,rfl⟩ rfl ⟨⟨_,rfl,rfl,rfl,rfl,rfl,fun i j hi hj=>⟨_,rfl,rfl,rfl⟩⟩,⟨_,rfl,rfl,rfl,e2,rfl,fun i j hi hj=>regE rfl rfl⟩,trivial⟩ trivial⟩
end Dv
end Go.Proofs.YtibaocbpeaejkaaGreat
/- The closure of arith.Divisors as a contract over its caller's blocks. -/
namespace Go.Proofs.YtibaocbpeaejkaaGreat
open Go.RowKit
namespace Dv
theorem two_back {D0 : Nat → Prop} {w0 : Base} {r : Bool} {w : World} {la l1 : Loc} {Ba Bx : Blk} (v : Nat) (hs : Sat D0 w0 r [l1, la] [Bx, Ba] w) (h1 : Bx.st = 0) (h2 : Ba.st = 0) (h5 : ∀ i j, Bx.f i j = .gs 1 Ba.u) (h6 : ∀ i j, (Ba.f i j).clos = true) :
  Sat D0 w0 r [{ la with u:=v },l1] [{ Ba with u:=v },{ Bx with f:=fun _ _ => .gs 0 v }] w:=by
 have hD:∀ b,Dof D0 [{ la with u:=v },l1] [{ Ba with u:=v },{ Bx with f:=fun _ _ => .gs 0 v }] b->Dof D0 [l1,la] [Bx,Ba] b:=by
  rintro b (h | ⟨k,l,B,e1,e2,e3,e4⟩)
  ·exact .inl h
  ·match k,e1,e2 with
   | 0,e1,e2=>cases e1;cases e2;exact .inr ⟨1,la,Ba,rfl,rfl,h2,e4⟩
   | 1,e1,e2=>cases e1;cases e2;exact .inr ⟨0,l1,Bx,rfl,rfl,h1,e4⟩
   | k+2,e1,_=>simp at e1
 have ha:=hs.at_ 1 la Ba rfl rfl (by omega)
 have hx:=hs.at_ 0 l1 Bx rfl rfl (by omega)
 refine⟨hs.below,hs.d0,rfl,fun k l B e1 e2=>?_,fun i j li lj Bi Bj b e1 e2 e3 e4 e5 e6 e7 e8=>?_,fun hr b o d hb=>hs.noU hr b o d (hD b hb)⟩
 ·match k,e1,e2 with
  | 0,e1,e2 =>
   cases e1;cases e2
   refine fun _=>⟨rfl,?_⟩
   rcases ha.2 with⟨g1,g2,g3⟩ | ⟨b,cap,cs,g2,g3,g4,g5,g6,g7,g8,g9⟩
   ·exact .inl ⟨g1,g2,g3⟩
   ·refine .inr ⟨b,cap,cs,g2,g3,g4,g5,g6,g7,g8,fun i j hi hj=>?_⟩
    obtain⟨u,hu,hr⟩:=g9 i j hi hj
    exact⟨u,hu,(hr.clos (h6 i j)).step (Ext.refl _ _) (fun b _ hb=>hD b hb) (LocsLe.refl _)⟩
  | 1,e1,e2 =>
   cases e1;cases e2
   refine fun _=>⟨hx.1,?_⟩
   rcases hx.2 with⟨g1,g2,g3⟩ | ⟨b,cap,cs,g2,g3,g4,g5,g6,g7,g8,g9⟩
   ·exact .inl ⟨g1,g2,g3⟩
   ·refine .inr ⟨b,cap,cs,g2,g3,g4,g5,g6,g7,g8,fun i j hi hj=>?_⟩
    obtain⟨u,hu,hr⟩:=g9 i j hi hj
    rw[if_pos h1,h5]at hr
    obtain⟨l,q1,q2,q3⟩:=hr
    cases q1
    refine⟨u,hu,?_⟩
    rw[if_pos h1]
    exact⟨_,rfl,Nat.le_refl _,fun _=>q3 ha.1⟩
  | k+2,e1,_=>simp at e1
 ·match i,j,e1,e2,e3,e4 with
  | 0,0,_,_,_,_=>rfl
  | 1,1,_,_,_,_=>rfl
  | 0,1,e1,e2,e3,e4 =>
   cases e1;cases e2;cases e3;cases e4
   have:=hs.dist 1 0 la l1 Ba Bx b rfl rfl rfl rfl (by omega) (by omega) e7 e8
   omega
  | 1,0,e1,e2,e3,e4 =>
   cases e1;cases e2;cases e3;cases e4
   have:=hs.dist 0 1 l1 la Bx Ba b rfl rfl rfl rfl (by omega) (by omega) e7 e8
   omega
  | k+2,_,e1,_,_,_=>simp at e1
  | _,k+2,_,e2,_,_=>simp at e2
theorem frame_rel {D:Nat->Prop} {w:World} {ρ:List Loc} {args:List V} {vs:List Value} {N:Nat} (hargs:VRels D w ρ args vs) (t:Nat):VRel D w ρ (args.getD t (.c .any)) ((vs.toArray++Array.replicate (N-vs.toArray.size) undef).getD t undef):=by
 have hlen:=hargs.length
 have h2:=hargs.get t
 rcases Nat.lt_or_ge t vs.length with hlt | hge
 ·have:(vs.toArray++Array.replicate (N-vs.toArray.size) undef).getD t undef=vs.getD t undef:=by
   rw[Array.getD_eq_getD_getElem?,Array.getElem?_append_left (by simpa using hlt)]
   simp[List.getD]
  rw[this];exact h2
 ·rw[show args.getD t (V.c .any) = .c .any by rw[List.getD,List.getElem?_eq_none (by omega)];rfl]
  trivial
theorem div_fnS {n u : Nat} {f : Nat → Int} {p e : Int} {fA fB : Nat → Nat → Cell} (hb : Bds n f p e) (t5 : ∀ i j, i < n → j < 1 → fA i j = .int .i64 (F n f p i)) (s5 : ∀ i j, i < 1 → j < 1 → fB i j = .gs 0 u) :
  FnS Tryz.prog false 74 [⟨3,1,n,u,0,fA⟩,⟨23,1,1,0,0,fB⟩] [.c (.int .i64 p),.c (.int .i64 e),.c (.p 1 0 1 0 0)] (.c .any) [⟨3,1,n*(e.toNat+1),u+1,0,fun i _ => .int .i64 (F n f p i)⟩,⟨23,1,1,0,0,fun _ _ => .gs 0 (u+1)⟩]:=by
 refine⟨by kernel_rfl,fun D w0 ρ w vs hs hargs=>?_⟩
 obtain⟨c,hc⟩:∃ c,Tryz.f74.body=some c:=⟨_,rfl⟩
 refine calls_of_wp (fn:=Tryz.f74) (c:=c) (Tryz.func74) hc ?_
 have hrl:=hs.len
 match ρ,hs,hargs,hrl with
 | [l0,l1],hs,hargs,_ =>
  have u0:l0.u=u:=(hs.at_ 0 l0 _ rfl rfl (Nat.zero_le 1)).1
  have u1:l1.u=0:=(hs.at_ 1 l1 _ rfl rfl (Nat.zero_le 1)).1
  have el:{ l1 with u:=0 }=l1:=by rw[← u1]
  obtain ⟨g1, g2⟩ := genE (C := ⟨D, w0, false, 34, []⟩) (a := { tmps := vs.toArray ++ Array.replicate (34 - vs.toArray.size) undef, defers := [] }) (tm := fun t => [V.c (.int .i64 p), .c (.int .i64 e), .c (.p 1 0 1 0 0)].getD t (.c .any)) (tl := [(0, .c (.int .i64 p)), (1, .c (.int .i64 e)), (2, .c (.p 0 0 1 0 0))]) (xs := [gBox, gI n (F n f p)]) [] rfl rfl [some 1, some 0] rfl
   ⟨⟨_,rfl,rfl,rfl,rfl,rfl,fun i j hi hj=>⟨_,rfl,s5 i j hi hj,rfl⟩⟩,⟨_,rfl,rfl,rfl,rfl,rfl,fun i j hi hj=>regE (t5 i j hi hj) rfl⟩,trivial⟩ ⟨⟨_,rfl,rfl⟩,⟨_,rfl,rfl⟩,⟨_,rfl,rfl,rfl⟩,trivial⟩ hs (frame_rel hargs)
  have e1:List.take ([]:List Blk).length [l0,l1]++[some 1,some 0].map (locK [l0,l1])=[l1,{ l0 with u:=0 }]:=by
   show [{ l1 with u:=0 },{ l0 with u:=0 }]=_
   rw[el]
  rw[e1]at g1 g2
  have hrel:Rel ⟨D,w0,false,34,[l1]⟩ (gst [(0,.c (.int .i64 p)),(1,.c (.int .i64 e)),(2,.c (.p 0 0 1 0 0))] [gBox,gI n (F n f p)]) { tmps:=vs.toArray++Array.replicate (34-vs.toArray.size) undef,defers:=[] } w :=
   ⟨_,g1,⟨by simp;omega,LocsLe.append [l1] _⟩,rfl,g2⟩
  refine wp_mono ((div_swp hb c hc).run _ _ _ rfl (Nat.le_refl _) rfl hrel) ?_
  rintro x a w' ⟨σ,hr,hx,hw⟩
  obtain⟨ρ2,hs2,hN2,hdf2,hf2⟩:=hw _ a w' (Nat.le_refl _) hr
  have hl2:=hs2.len
  match ρ2,hs2,hN2,hf2,hl2 with
  | [m1,ma],hs2,hN2,hf2,_ =>
   have v1:m1.u=0:=(hs2.at_ 0 m1 _ rfl rfl (Nat.zero_le 1)).1
   obtain⟨l',r1,r2,r3⟩:=hN2.2 0 l1 rfl
   cases r1
   have em:m1=l1:=r2 (by omega)
   obtain⟨y,hy,_⟩:=ret_run (v := .c .any) (fn:=Tryz.f74) E0m_ok hs2 hf2 rfl
   have fin:a.defers=[]/\∃ v,(results Tryz.f74 a.tmps).run Tryz.prog w' = .ok v w'/\∃ y ρ',Ending.returned v = .returned y/\Sat D w0 false ρ' [⟨3,1,n*(e.toNat+1),u+1,0,fun i _ => .int .i64 (F n f p i)⟩,⟨23,1,1,0,0,fun _ _ => .gs 0 (u+1)⟩] w'/\LocsLe [l0,l1] ρ'/\VRel (Dof D ρ' [⟨3,1,n*(e.toNat+1),u+1,0,fun i _ => .int .i64 (F n f p i)⟩,⟨23,1,1,0,0,fun _ _ => .gs 0 (u+1)⟩]) w' ρ' (.c .any) y:=by
    refine⟨hdf2,y,hy,y,_,rfl,two_back (u+1) hs2 rfl rfl (fun _ _=>rfl) (fun _ _=>rfl),fun k l hk=>?_,trivial⟩
    match k,hk with
    | 0,hk =>
     cases hk
     exact⟨_,rfl,fun h=>by have h:u+1=l0.u:=h;omega,by show l0.u≤u+1;omega⟩
    | 1,hk =>
     cases hk
     exact⟨m1,rfl,fun _=>em,by omega⟩
    | k+2,hk=>simp at hk
   rcases hx with rfl | rfl
   ·exact fin
   ·exact fin
end Dv
end Go.Proofs.YtibaocbpeaejkaaGreat
/- The evaluator with a table of calls; the runs of arith.Divisors and what stands on it. -/
namespace Go.Proofs.YtibaocbpeaejkaaGreat
open Go.RowKit
def clnY (f:FuncId):Bool:=[98].contains f
def opY (E:Env) (q:FuncId->List V->Option V) (qs:FuncId->List Blk->List V->Option (V × List Blk)) (inl:FuncId->Bool) (o:Oper) (σ:St):Option St :=
 match o.op with
 | .call { callee := .value g,args,.. }=>match calleeX σ g with
  | some (f,_)=>match clnY f with
   | true=>opX E q qs inl o (dfzL (args.toList.flatMap fun x=>nmV (σ.ev x)) σ)
   | false=>opX E q qs inl o σ
  | none=>none
 | _=>opX E q qs inl o σ
theorem opY_ok {E:Env} (hE:EnvOK E) {q:FuncId->List V->Option V} {qs:FuncId->List Blk->List V->Option (V × List Blk)} (hq:∀ f ags X,q f ags=some X->FnOK E.P E.r f ags X) (hqs:∀ f bl ags X bl',qs f bl ags=some (X,bl')->FnS E.P E.r f bl ags X bl') {inl:FuncId->Bool} {o:Oper} {σ σ':St} (h:opY E q qs inl o σ=some σ'):OpGo E o σ σ':=by
 unfold opY at h
 split at h
 ·split at h
  ·split at h
   ·exact OpGo.lax (Lax.dfzL _ σ) (opX_ok hE hq hqs h)
   ·exact opX_ok hE hq hqs h
  ·cases h
 ·exact opX_ok hE hq hqs h
def regY (E : Env) (q : FuncId → List V → Option V) (qs : FuncId → List Blk → List V → Option (V × List Blk)) (inl : FuncId → Bool) (ops : Array Oper) : List Oper → St → Option St
 | [],σ=>some σ
 | o :: rest,σ=>match o.guard with
  | none=>match opY E q qs inl o σ with
   | some σ'=>regY E q qs inl ops rest σ'
   | none=>none
  | some (g,want)=>match guardV σ ops g with
   | some (d,b)=>match gw want b with
    | true=>match opY E q qs inl o (σ.put (some d) (.c (.bool want)))with
     | some σ'=>regY E q qs inl ops rest σ'
     | none=>none
    | false=>regY E q qs inl ops rest ((σ.put (some d) (.c (.bool !want))).put o.dst .un)
   | none=>match guardU σ ops g with
    | true=>regY E q qs inl ops rest (σ.put o.dst .un)
    | false=>none
theorem regY_ok {E : Env} (hE : EnvOK E) {q : FuncId → List V → Option V} {qs : FuncId → List Blk → List V → Option (V × List Blk)} (hq : ∀ f ags X, q f ags = some X → FnOK E.P E.r f ags X) (hqs : ∀ f bl ags X bl', qs f bl ags = some (X, bl') → FnS E.P E.r f bl ags X bl') {inl : FuncId → Bool} {ops : Array Oper} {C : Ctx} (hC : C.r = E.r) {Q : Exit → Act → World → Prop} {σ1 : St} (hQ : ∀ a w, Rel C σ1 a w → Q .normal a w) :
  ∀(l:List Oper) (σ:St) (a:Act) (w:World),(∀ o∈l,dstOK C.N o.dst)->regY E q qs inl ops l σ=some σ1->Rel C σ a w->wpList E.P ops Q l a w
 | [],σ,a,w,_,h,hr=>by cases h;exact hQ a w hr
 | o :: rest,σ,a,w,hd,h,hr=>by
  have ih:=fun σ a w=>regY_ok (inl:=inl) (ops:=ops) hE hq hqs hC hQ rest σ a w (fun o ho=>hd o (by simp[ho]))
  unfold wpList
  simp only[regY]at h
  split at h
  ·rename_i hg
   rw[if_pos (by simp[Region.wanted,hg])]
   split at h
   ·rename_i σ2 h2
    exact .inl (opY_ok hE hq hqs h2 hC (hd o (by simp)) hr fun a' w' hrel=>ih σ2 a' w' h hrel)
   ·cases h
  ·rename_i g want hg
   split at h
   ·rename_i d b hgv
    obtain⟨hy,hv,hlt,htm⟩:=guard_val (a:=a) (w:=w) hgv (by obtain⟨ρ,hs,hN,hdf,hf⟩:=hr;exact fun d _=>⟨_,ρ,hf d⟩)
    have hwt:Region.wanted o (yielded ops a.tmps)=(b == want):=by
     unfold Region.wanted
     rw[hg]
     simp only[hy]
     rfl
    rw[hwt]
    split at h
    ·rename_i hb
     have e:=gw_true.1 hb
     rw[if_pos (by simp[e])]
     split at h
     ·rename_i σ2 h2
      refine .inl (opY_ok hE hq hqs h2 hC (hd o (by simp)) (put_same hr fun D ρ=>?_) fun a' w' hrel=>ih σ2 a' w' h hrel)
      rw[hv,e];rfl
     ·cases h
    ·rename_i hb
     have e':=gw_false.1 hb
     have e:¬ b=want:=by rw[e'];cases want <;> simp
     rw[if_neg (by simpa using e)]
     have h2:Rel C (σ.put (some d) (.c (.bool !want))) a w:=put_same hr fun D ρ=>by rw[hv,e'];rfl
     obtain⟨ρ,hs,hN,hdf,hf⟩:=h2
     exact ih _ _ _ h (Rel.put hs hN hdf hf (hd o (by simp)) rfl)
   ·split at h
    ·rename_i hgu
     have hy:=guard_un (a:=a) (w:=w) hgu (by obtain⟨ρ,hs,hN,hdf,hf⟩:=hr;exact fun d _=>⟨_,ρ,hf d⟩)
     have hwt:Region.wanted o (yielded ops a.tmps)=false:=by
      unfold Region.wanted
      rw[hg]
      simp only[hy]
      rfl
     rw[hwt,if_neg (by simp)]
     obtain⟨ρ,hs,hN,hdf,hf⟩:=hr
     exact ih _ _ _ h (Rel.put hs hN hdf hf (hd o (by simp)) rfl)
    ·cases h
def loopY (N : Nat) (body : St → Option (Exit × St)) : Nat → St → Option (Exit × St)
 | 0,_=>none
 | n+1,σ=>fSt N σ fun σ=>match body σ with
  | some (.normal,σ')=>loopY N body n σ'
  | r=>r
def codeY (E : Env) (q : FuncId → List V → Option V) (qs : FuncId → List Blk → List V → Option (V × List Blk)) (inl : FuncId → Bool) (N lf : Nat) : Code → St → Option (Exit × St)
 | .skip,σ=>some (.normal,σ)
 | .region _ ops draw,σ=>match draw with
  | true=>match aheadX E q ops σ.bl.length ops.toList 0 { σ with bl:=σ.bl++List.replicate (freshN ops.toList) phB } with
   | some σ'=>some (.normal,σ')
   | none=>none
  | false=>match regY E q qs inl ops ops.toList σ with
   | some σ'=>some (.normal,σ')
   | none=>none
 | .seq a b,σ=>match codeY E q qs inl N lf a σ with
  | some (.normal,σ')=>codeY E q qs inl N lf b σ'
  | r=>r
 | .cond c x y,σ=>match σ.ev c with
  | .c (.bool true)=>codeY E q qs inl N lf x σ
  | .c (.bool false)=>codeY E q qs inl N lf y σ
  | _=>none
 | .block id c,σ=>match codeY E q qs inl N lf c σ with
  | some (.exit i,σ')=>match Nat.beq i id with
   | true=>some (.normal,σ')
   | false=>some (.exit i,σ')
  | r=>r
 | .exit id,σ=>some (.exit id,σ)
 | .ret,σ=>some (.ret,σ)
 | .label _,σ=>some (.normal,σ)
 | .loop c,σ=>loopY N (codeY E q qs inl N lf c) lf σ
 | _,_=>none
theorem codeY_ok {E : Env} (hE : EnvOK E) {q : FuncId → List V → Option V} {qs : FuncId → List Blk → List V → Option (V × List Blk)} (hq : ∀ f ags X, q f ags = some X → FnOK E.P E.r f ags X) (hqs : ∀ f bl ags X bl', qs f bl ags = some (X, bl') → FnS E.P E.r f bl ags X bl') {inl : FuncId → Bool} {N lf : Nat} (hm : E.P.follows .mixedOrders = true) {C : Ctx} (hC : C.r = E.r) :
  ∀(c:Code) {σ:St} {r:Exit × St} {a:Act} {w:World},codeB C.N c=true->codeY E q qs inl N lf c σ=some r->Rel C σ a w->c.wp E.P (QX C r) a w
 | .skip,σ,r,a,w,_,h,hr=>by cases h;exact wp_skip ⟨rfl,hr⟩
 | .region id ops draw,σ,r,a,w,hc,h,hr=>by
  simp only[codeB,Bool.and_eq_true]at hc
  simp only[codeY]at h
  cases draw with
  | true =>
   simp only at h
   split at h
   ·rename_i σ' h1
    cases h
    refine adraw_sound hE hC (K:=fun s=>s=σ') hm (fun s a w hs hrel=>⟨rfl,by rw[← hs];exact hrel⟩) hc.1 (by simpa using hc.2) ?_ hr
    exact aheadX_ok hq _ _ h1 rfl
   ·cases h
  | false =>
   simp only at h
   split at h
   ·rename_i σ' h1
    cases h
    refine wp_region_list (regY_ok hE hq hqs hC (fun a w hrel=>⟨rfl,hrel⟩) ops.toList σ a w (fun o ho d hd'=>?_) h1 hr)
    have:=List.all_eq_true.1 hc.1 o ho
    unfold dstB at this
    rw[hd']at this
    simpa using this
   ·cases h
 | .seq x y,σ,r,a,w,hc,h,hr=>by
  simp only[codeB,Bool.and_eq_true]at hc
  simp only[codeY]at h
  split at h
  ·rename_i σ' h1
   refine wp_seq (wp_mono (codeY_ok hE hq hqs hm hC x hc.1 h1 hr) ?_)
   rintro e a' w' ⟨rfl,hrel⟩
   exact codeY_ok hE hq hqs hm hC y hc.2 h hrel
  ·rename_i hno
   refine wp_seq (wp_mono (codeY_ok hE hq hqs hm hC x hc.1 h hr) ?_)
   rintro e a' w' ⟨rfl,hrel⟩
   obtain⟨e,σ'⟩:=r
   cases e with
   | normal=>exact absurd h (hno σ')
   | _=>exact⟨rfl,hrel⟩
 | .cond c x y,σ,r,a,w,hc,h,hr=>by
  simp only[codeB,Bool.and_eq_true]at hc
  simp only[codeY]at h
  have he:∀ b,σ.ev c = .c (.bool b)->a.eval c = .bool b:=by
   intro b hb
   obtain⟨ρ,hs,hN,hdf,hf⟩:=hr
   have:=ev_rel hf c
   rw[hb]at this
   exact this
  split at h
  ·rename_i hb
   exact wp_cond_split (he _ hb) (fun _=>codeY_ok hE hq hqs hm hC x hc.1 h hr) (fun e=>by cases e)
  ·rename_i hb
   exact wp_cond_split (he _ hb) (fun e=>by cases e) (fun _=>codeY_ok hE hq hqs hm hC y hc.2 h hr)
  ·cases h
 | .block id c,σ,r,a,w,hc,h,hr=>by
  simp only[codeB]at hc
  simp only[codeY]at h
  split at h
  ·rename_i i σ' h1
   refine wp_block (wp_mono (codeY_ok hE hq hqs hm hC c hc h1 hr) ?_)
   rintro e a' w' ⟨rfl,hrel⟩
   simp only[Exit.inBlock]
   split at h
   ·rename_i hb
    cases h
    rw[if_pos (Nat.eq_of_beq_eq_true hb)]
    exact⟨rfl,hrel⟩
   ·rename_i hb
    cases h
    rw[if_neg (Nat.ne_of_beq_eq_false hb)]
    exact⟨rfl,hrel⟩
  ·rename_i hno
   refine wp_block (wp_mono (codeY_ok hE hq hqs hm hC c hc h hr) ?_)
   rintro e a' w' ⟨rfl,hrel⟩
   obtain⟨e,σ'⟩:=r
   cases e with
   | exit i=>exact absurd h (hno i σ')
   | _=>exact⟨rfl,hrel⟩
 | .exit id,σ,r,a,w,_,h,hr=>by cases h;exact wp_exit ⟨rfl,hr⟩
 | .ret,σ,r,a,w,_,h,hr=>by cases h;exact wp_ret ⟨rfl,hr⟩
 | .label l,σ,r,a,w,_,h,hr=>by cases h;exact wp_label ⟨rfl,hr⟩
 | .loop c,σ,r,a,w,hc,h,hr=>by
  simp only[codeB]at hc
  simp only[codeY]at h
  refine wp_loop_ghost (fun n a w=>∃ σ,Rel C σ a w/\loopY N (codeY E q qs inl N lf c) n σ=some r) lf ⟨σ,hr,h⟩ ?_
  rintro n a w ⟨σ1,hrel,hn⟩
  cases n with
  | zero=>cases hn
  | succ n =>
   simp only[loopY,fSt_eq]at hn
   have hrel2:=Lax.nrm N σ1 C a w hrel
   split at hn
   ·rename_i σ2 h2
    refine wp_mono (codeY_ok hE hq hqs hm hC c hc h2 hrel2) ?_
    rintro e a' w' ⟨rfl,hrel3⟩
    exact⟨n,Nat.lt_succ_self n,σ2,hrel3,hn⟩
   ·rename_i hno
    refine wp_mono (codeY_ok hE hq hqs hm hC c hc hn hrel2) ?_
    rintro e a' w' ⟨rfl,hrel3⟩
    obtain⟨e,σ2⟩:=r
    cases e with
    | normal=>exact absurd hn (hno σ2)
    | _=>exact⟨rfl,hrel3⟩
 | .rangeFunc ..,_,_,_,_,_,h,_=>by cases h
 | .scope _,_,_,_,_,_,h,_=>by cases h
 | .goto _,_,_,_,_,_,h,_=>by cases h
 | .refuse _,_,_,_,_,_,h,_=>by cases h
def runY (E : Env) (orc : FuncId → List V → Option V) (spc : FuncId → List Blk → List V → Option (V × List Blk)) (ok inl : FuncId → Bool) (lf : Nat) : Nat → FuncId → List Blk → List V → Option (V × List Blk)
 | 0,_,_,_=>none
 | d+1,f,bl,ags=>match spc f bl ags with
  | some r=>some r
  | none=>match ok f with
  | false=>none
  | true=>match E.P.funcs[f]? with
   | some fn=>match fn.body with
    | some c=>fVs ags fun ags=>match codeY E (pureX orc (runY E orc spc ok inl lf d)) (runY E orc spc ok inl lf d) inl fn.ntmps lf c ⟨frame0 ags,bl⟩with
     | some (e,σ)=>match e with
      | .normal | .ret=>match retV E σ fn.results.toList with
       | some v=>fV v fun v=>fBs σ.bl fun bl'=>some (trimX v bl' bl.length)
       | none=>none
      | _=>none
     | none=>none
    | none=>none
   | none=>none
theorem runY_ok {E : Env} (hE : EnvOK E) (hm : E.P.follows .mixedOrders = true) {orc : FuncId → List V → Option V} (ho : ∀ f ags X, orc f ags = some X → FnOK E.P E.r f ags X) {spc : FuncId → List Blk → List V → Option (V × List Blk)} (hsp : ∀ f bl ags X bl', spc f bl ags = some (X, bl') → FnS E.P E.r f bl ags X bl') {ok inl : FuncId → Bool} (hok : ∀ f fn c, ok f = true → E.P.funcs[f]? = some fn → fn.body = some c → codeB fn.ntmps c = true ∧ hasBody E.P f = true) {lf : Nat} :
  ∀(d:Nat) (f:FuncId) (bl:List Blk) (ags:List V) (X:V) (bl':List Blk),runY E orc spc ok inl lf d f bl ags=some (X,bl')->FnS E.P E.r f bl ags X bl'
 | 0,_,_,_,_,_,h=>by cases h
 | d+1,f,bl,ags,X,bl',h=>by
  simp only[runY]at h
  split at h
  ·rename_i r hr
   cases h
   exact hsp _ _ _ _ _ hr
  split at h
  ·cases h
  rename_i hokf
  split at h
  case h_2=>cases h
  rename_i fn hfn
  split at h
  case h_2=>cases h
  rename_i c hc
  rw[fVs_eq]at h
  split at h
  case h_2=>cases h
  rename_i e σ hrun
  obtain⟨hcb,hbd⟩:=hok f fn c hokf hfn hc
  have ih:=runY_ok hE hm ho hsp hok (inl:=inl) (lf:=lf) d
  refine⟨hbd,fun D0 w0 ρ w vs hs hargs=>?_⟩
  refine calls_of_wp hfn hc ?_
  let C:Ctx:=⟨D0,w0,E.r,fn.ntmps,ρ⟩
  have hlen:=hargs.length
  have hargs':=nrmVs_rel hargs
  have hrel:Rel C ⟨frame0 (ags.map nrmV),bl⟩ { tmps:=vs.toArray++Array.replicate (fn.ntmps-vs.toArray.size) undef,defers:=[] } w:=by
   refine⟨ρ,hs,⟨by simp[C];omega,LocsLe.refl _⟩,rfl,fun t=>?_⟩
   have h1:=hargs'.get t
   show VRel (Dof D0 ρ bl) w ρ ((ags.map nrmV).getD t (.c .any)) _
   rcases Nat.lt_or_ge t vs.length with hlt | hge
   ·have:(vs.toArray++Array.replicate (fn.ntmps-vs.toArray.size) undef).getD t undef=vs.getD t undef:=by
     rw[Array.getD_eq_getD_getElem?,Array.getElem?_append_left (by simpa using hlt)]
     simp[List.getD]
    rw[this];exact h1
   ·rw[show(ags.map nrmV).getD t (V.c .any) = .c .any by rw[List.getD,List.getElem?_eq_none (by simp;omega)];rfl]
    trivial
  refine wp_mono (codeY_ok hE (pureX_ok ho ih) ih hm rfl c hcb hrun hrel) ?_
  rintro e' a w' ⟨rfl,hr⟩
  have fin:(match retV E σ fn.results.toList with
    | some v=>fV v fun v=>fBs σ.bl fun bl'=>some (trimX v bl' bl.length)
    | none=>none)=some (X,bl')->a.defers=[]/\∃ v,(results fn a.tmps).run E.P w' = .ok v w'/\∃ u ρ',Ending.returned v = .returned u/\Sat D0 w0 E.r ρ' bl' w'/\LocsLe ρ ρ'/\VRel (Dof D0 ρ' bl') w' ρ' X u:=by
   intro hk
   split at hk
   ·rename_i v hv
    rw[fV_eq,fBs_eq]at hk
    obtain⟨ρ1,hs1,hN1,hdf1,hf1⟩:=hr
    obtain⟨x,hx,hxr⟩:=ret_run hE hs1 hf1 hv
    have hrel2:Rel ⟨D0,w0,E.r,0,ρ⟩ ⟨asg [(0,v)],σ.bl⟩ ⟨#[x],[]⟩ w':=by
     refine⟨ρ1,hs1,⟨Nat.zero_le _,hN1.2⟩,rfl,fun t=>?_⟩
     show VRel _ _ _ (if t=0 then v else .c .any) _
     split
     ·rename_i e;subst e;exact hxr
     ·trivial
    obtain⟨ρ2,hs2,hN2,_,hf2⟩:=Lax.nrm 1 _ _ _ _ hrel2
    have h3:VRel (Dof D0 ρ2 (σ.bl.map nrmB)) w' ρ2 (nrmV v) x:=hf2 0
    refine⟨hdf1,x,hx,x,?_⟩
    unfold trimX at hk
    split at hk
    ·rename_i hb
     cases hk
     simp only[Bool.and_eq_true]at hb
     obtain⟨t1,t2⟩:=hs2.take bl.length fun k B hk hB hst i j hi hj=>by
      have hmem:B∈(σ.bl.map nrmB).take bl.length:=List.mem_of_getElem? (by rw[List.getElem?_take_of_lt hk];exact hB)
      have:=List.all_eq_true.1 hb.2 B hmem
      simp only[hst,beq_self_eq_true,Bool.not_true,Bool.false_or]at this
      exact allIJ_ok this hi hj
     exact⟨_,rfl,t1,hN2.2.take (Nat.le_of_eq hs.len),(h3.take hb.1).step (Ext.refl _ _) (fun b _ hb=>t2 b hb) (LocsLe.refl _)⟩
    ·cases hk
     exact⟨ρ2,rfl,hs2,hN2.2,h3⟩
   ·cases hk
  cases e' with
  | normal=>exact fin h
  | ret=>exact fin h
  | exit i=>cases h
  | goto l=>cases h
  | panic ch=>cases h
  | outgrown=>cases h

def valC : Cell → Int
 | .int .i64 x=>x
 | _=>0
def isInt : Cell → Bool
 | .int .i64 _=>true
 | _=>false
theorem isInt_ok {c:Cell} (h:isInt c=true):c = .int .i64 (valC c):=by
 unfold isInt at h
 split at h
 ·rfl
 ·cases h
def isG (u : Nat) : Cell → Bool
 | .gs 0 v=>v == u
 | _=>false
theorem isG_ok {u:Nat} {c:Cell} (h:isG u c=true):c = .gs 0 u:=by
 unfold isG at h
 split at h
 ·rw[beq_iff_eq.1 h]
 ·cases h
def dvB (B0 B1:Blk) (p e:Int):Bool :=
 B0.t == 3&&B0.sz == 1&&B0.st == 0&&B1.t == 23&&B1.sz == 1&&B1.n == 1&&B1.u == 0&&B1.st == 0&&isG B0.u (B1.f 0 0)&&allIJ B0.n 1 (fun i _=>isInt (B0.f i 0))&&decide (1≤B0.n)&&decide (B0.n≤1000)&&decide (0≤e)&&decide (e≤1000)&&allIJ B0.n e.toNat (fun i q=>inRX .i64 (valC (B0.f i 0)*p^(q+1)))&&allIJ e.toNat 1 (fun q _=>inRX .i64 (p^(q+1)*p))
def dvX (f:FuncId) (bl:List Blk) (ags:List V):Option (V × List Blk):=match f == 74 with
 | false=>none
 | true=>match bl,ags with
  | [B0,B1],[.c (.int .i64 p),.c (.int .i64 e),.c (.p 1 0 1 0 0)]=>match dvB B0 B1 p e with
   | true=>some (.c .any,[⟨3,1,B0.n*(e.toNat+1),B0.u+1,0,fun i _ => .int .i64 (Dv.F B0.n (fun i=>valC (B0.f i 0)) p i)⟩,⟨23,1,1,0,0,fun _ _ => .gs 0 (B0.u+1)⟩])
   | false=>none
  | _,_=>none
theorem dvX_ok (f:FuncId) (bl:List Blk) (ags:List V) (X:V) (bl':List Blk) (h:dvX f bl ags=some (X,bl')):FnS Tryz.prog false f bl ags X bl':=by
 unfold dvX at h
 split at h
 ·cases h
 rename_i hf
 split at h
 ·rename_i B0 B1 p e
  split at h
  ·rename_i hd
   cases h
   rw[beq_iff_eq.1 hf]
   unfold dvB at hd
   simp only[Bool.and_eq_true,beq_iff_eq,decide_eq_true_eq]at hd
   obtain⟨⟨⟨⟨⟨⟨⟨⟨⟨⟨⟨⟨⟨⟨⟨a1,a2⟩,a3⟩,a4⟩,a5⟩,a6⟩,a7⟩,a8⟩,a9⟩,b1⟩,b2⟩,b3⟩,b4⟩,b5⟩,b6⟩,b7⟩:=hd
   obtain⟨t0,s0,n0,u0,st0,f0⟩:=B0
   obtain⟨t1,s1,n1,u1,st1,f1⟩:=B1
   simp only at a1 a2 a3 a4 a5 a6 a7 a8 a9 b1 b2 b3 b6
   subst a1 a2 a3 a4 a5 a6 a7 a8
   refine Dv.div_fnS ⟨b2,b3,b4,b5,fun i q hi hq=>?_,fun q hq=>?_⟩ (fun i j hi hj=>?_) fun i j hi hj=>?_
   ·rw[Dv.F_low hi]
    exact inRX_ok (allIJ_ok b6 hi (show q<e.toNat by omega))
   ·exact inRX_ok (allIJ_ok b7 (show q<e.toNat by omega) (Nat.zero_lt_one))
   ·obtain rfl:=Nat.lt_one_iff.1 hj
    show f0 i 0=_
    rw[Dv.F_low hi]
    exact isInt_ok (allIJ_ok b1 hi Nat.zero_lt_one)
   ·obtain rfl:=Nat.lt_one_iff.1 hi
    obtain rfl:=Nat.lt_one_iff.1 hj
    exact isG_ok a9
  ·cases h
 ·cases h
theorem runY_same {orc:FuncId->List V->Option V} (ho:∀ f l X,orc f l=some X->FnOK Tryz.prog false f l X) {inl:FuncId->Bool} {f:FuncId} {args:List V} {Y:V} (h:(pureX orc (runY ER orc dvX okF inl 1000 40) f args).map (fun X=>sameV X Y)=some true):FnOK Tryz.prog false f args Y:=by
 cases hx:pureX orc (runY ER orc dvX okF inl 1000 40) f args with
 | none=>rw[hx]at h;cases h
 | some X =>
  rw[hx]at h
  have h:sameV X Y=true:=by simpa using h
  have h1:=runY_ok (E:=ER) ER_ok (by rw[ER_P];exact mixedR) (by rw[ER_P,ER_r];exact ho) (by rw[ER_P,ER_r];exact dvX_ok) (by rw[ER_P];exact okF_ok) (inl:=inl) (lf:=1000) 40
  rw[ER_P,ER_r]at h1
  have hf:=pureX_ok ho h1 f args X hx
  refine⟨hf.1,fun D w vs h1 h2 h3=>(hf.2 D w vs h1 h2 h3).mono ?_⟩
  rintro e w' ⟨v,h4,h5,h6⟩
  exact⟨v,h4,sameV_ok X Y h D w' v h5,h6⟩
end Go.Proofs.YtibaocbpeaejkaaGreat
/- The program's fpoly.variable, root, halves, over polynomials. -/
namespace Go.Proofs.YtibaocbpeaejkaaGreat
open Go.RowKit
section
variable {p:Int} [hp:Prm p] (hm:Fp.md p)
omit hp in
set_option maxHeartbeats 4000000 in
theorem var_list:FnOK Tryz.prog false 130 [] (.c (.row 1 2 (rowF 1 [.int .i64 0,.int .i64 1]))):=by
  refine fn_ok (E:=E0) E0_ok Tryz.func130 rfl mixed (by kernel_rfl) (by kernel_rfl) ?_
  conv=>whnf
  refine⟨fun i j hi hj=>?_,?_⟩
  · match i,j,hi,hj with
    | 0,0,_,_=>rfl
    | 1,0,_,_=>rfl
  conv=>whnf
  exact⟨rfl,Sub.refl _⟩
theorem var_P:FnOK Tryz.prog false 130 [] (pl (Pol.X:Pol (Zp p))):=by
  have h:=var_list
  refine⟨h.1,fun D w vs h1 h2 h3=>(h.2 D w vs h1 h2 h3).mono ?_⟩
  rintro e w' ⟨v,h4,h5,h6⟩
  refine⟨v,h4,?_,h6⟩
  show VRel D w' [] (Fp.cl (ofP (Pol.X:Pol (Zp p)))) v
  rw[ofP_X]
  refine subRowG rfl (fun i j hi hj=>?_) D w' v h5
  match i,j,hi,hj with
  | 0,0,_,_=>rfl
  | 1,0,_,_=>rfl
theorem rtp_len {a:Pol (Zp p)} (hd:Pol.dv a=0) (ha:a≠0):∃ k,a.len=p.toNat*k+1/\(rtp a).len=k+1:=by
  have h2:=two_le (p:=p)
  have e:=root_p hd
  have h0:=Pol.len_pos ha
  have h1:(a.len-1)%p.toNat=0:=Classical.byContradiction fun hn=>by
    obtain⟨_,h4⟩:=pw_p_f (rtp a)
    have:=h4 _ hn
    rw[e]at this
    exact Pol.lead_ne ha this
  have e2:=Nat.div_add_mod (a.len-1) p.toNat
  refine⟨(a.len-1) / p.toNat,by omega,Pol.len_eq (fun j hj=>?_) ?_⟩
  · show a.f (p.toNat*j)=0
    refine Pol.len_out a _ ?_
    have:=Nat.mul_le_mul_left p.toNat hj
    rw[Nat.mul_succ]at this
    omega
  · show a.f (p.toNat*((a.len-1) / p.toNat))≠0
    rw[show p.toNat*((a.len-1) / p.toNat)=a.len-1 by omega]
    exact Pol.lead_ne ha
omit hp in
set_option maxHeartbeats 4000000 in
theorem root_list {q n k:Nat} {F:Nat->Int} (hq:p=q) (h1:1≤q) (hn:n=q*k+1) (hl:n≤4096) (hp2:q≤65521):FnOK Tryz.prog false 102 [.c (.int .i64 p),.c (il n F)] (.c (il (k+1) fun j=>F (q*j))):=by
  have hmul:∀ j,q*(j+1)=q*j+q:=fun j=>Nat.mul_succ q j
  have hk:∀ j,q*j<n↔j≤k:=fun j=>by
    rw[hn,Nat.lt_succ_iff]
    exact⟨fun h=>Nat.le_of_mul_le_mul_left h h1,fun h=>Nat.mul_le_mul_left q h⟩
  have hj0:∀ j,j≤q*j:=fun j=>Nat.le_mul_of_pos_left j h1
  refine fn_ok (E:=E0) E0_ok Tryz.func102 rfl mixed (by kernel_rfl) (by kernel_rfl) ?_
  conv=>whnf
  refine loop_ints (fun j:Nat=>ist [(0,.c (.int .i64 p)),(1,.c (il n F)),(5,.c (.gs 0 0)),(6,.c (.int .i64 ((q*j:Nat):Int)))] [(3,j,fun j=>F (q*j))]) (fun j=>k+1-j) (fun j=>j≤k+1) 0 rfl ?_ (Nat.zero_le _) fun j hj=>?_
  · exact Weak.ints [none] rfl ⟨rfl,trivial⟩ ⟨⟨_,rfl,rfl⟩,⟨_,_,rfl,rfl,fun _ _ _ _=>rfl⟩,rfl,⟨_,rfl,by rw[Nat.mul_zero];rfl⟩,trivial⟩
  have hjj:=hj0 j
  have hkj:=hk j
  have hmj:=hmul j
  generalize hqj:q*j=m at *
  conv=>whnf
  refine bcase (fun(h:decide ((m:Int)<n)=true)=>?_) fun(h:decide ((m:Int)<n)=false)=>?_
  · have h:=of_decide_eq_true h
    have hjk:j≤k:=hkj.1 (by omega)
    conv=>whnf
    refine⟨by omega,by show(m:Int)<(n:Int);omega,?_⟩
    conv=>whnf
    refine⟨by show j+1≤16777216;omega,fun x y hx hy=>?_,?_⟩
    · obtain rfl : x = 0 := by have h : x < 1 := hx
                               omega
      obtain rfl : y = 0 := by have h : y < 1 := hy
                               omega
      exact⟨rfl,fun h=>by cases h⟩
    conv=>whnf
    refine⟨Fp.i64 (by omega) (by omega),?_⟩
    conv=>whnf
    refine⟨j+1,by omega,?_,by omega⟩
    refine Weak.ints [some 0] rfl ⟨⟨_,rfl,rfl,rfl,rfl,rfl,fun i hi=>appI ?_ (show j+1≤j+1 from Nat.le_refl _) hi⟩,trivial⟩ ⟨⟨_,rfl,rfl⟩,⟨_,_,rfl,rfl,fun _ _ _ _=>rfl⟩,⟨_,rfl,rfl,rfl⟩,⟨_,rfl,by rw[hmj];omega⟩,trivial⟩
    show(if i=j then F (m:Int).toNat else F (q*i))=F (q*i)
    by_cases e:i=j
    · subst e;rw[if_pos rfl,Int.toNat_natCast,hqj]
    · rw[if_neg e]
  · have h:=of_decide_eq_false h
    have hjk:j=k+1:=by
      have:¬ j≤k:=fun c=>h (by have:=hkj.2 c;omega)
      omega
    subst hjk
    conv=>whnf
    refine⟨fun i j _ _=>rfl,?_⟩
    conv=>whnf
    exact⟨rfl,Sub.refl _⟩
include hm
theorem root_P {a:Pol (Zp p)} (hl:a.len≤4096) (hd:Pol.dv a=0) (ha:a≠0):FnOK Tryz.prog false 102 [.c (.int .i64 p),pl a] (pl (rtp a)):=by
  have hm1:=hm.1
  have hm2:=hm.2.1
  obtain⟨k,e1,e2⟩:=rtp_len hd ha
  have:=root_list (p:=p) (q:=p.toNat) (n:=a.len) (k:=k) (F:=fun i=>(a.f i).v) (by omega) (by omega) e1 hl (by omega)
  rw[← e2]at this
  exact this
end
end Go.Proofs.YtibaocbpeaejkaaGreat
/- The program's fpoly.halves, over polynomials. -/
namespace Go.Proofs.YtibaocbpeaejkaaGreat
open Go.RowKit
section
variable {p:Int} [hp:Prm p] (hm:Fp.md p)
theorem ofP_one:ofP (1:Pol (Zp p))=(1,fun i=>if i=0 then 1 else 0):=by
 have h1:(1:Int)%p=1:=Int.emod_eq_of_lt (by omega) (by have:=hp.two;omega)
 refine Prod.ext Pol.len_one (funext fun i=>?_)
 show(if i=0 then(1:Zp p)else 0).v=if i=0 then 1 else 0
 split
 ·exact h1
 ·exact Int.zero_emod p
theorem divmod_nz {x y:Int} (hx:zlen x≤1000000) (h0:y≠0) (hy:zlen y≤1000000:=by decide):FnOK Tryz.prog true 85 [.g (nz x),.g (nz y)] (.t3 (.g (nz (x / y))) (.g (nz (x%y))) (.c (.int .i64 0))):=by
 have:=divmod_ok (a:=ofZ x) (b:=ofZ y) (ofZ_ok x) (ofZ_ok y) (by show zlen x+2≤LIM;unfold LIM;omega) (by show zlen y+1≤LIM;unfold LIM;omega) (by rw[ofZ_val];exact h0)
 rw[ofZ_val,ofZ_val]at this
 exact this
abbrev oneV:V := .c (.row 1 1 (rowF 1 [.int .i64 1]))
theorem sub_oneV:Sub oneV (pl (1:Pol (Zp p))):=by
 show Sub _ (Fp.cl (ofP (1:Pol (Zp p))))
 rw[ofP_one]
 refine subRowG rfl fun i j hi hj=>?_
 match i,j,hi,hj with
 | 0,0,_,_=>rfl
include hm
theorem subs_one {a:Pol (Zp p)} (ha:a.len≤4096):FnOK Tryz.prog false 132 [.c (.int .i64 p),pl a,oneV,.c (.int .i64 (p-1))] (pl (a-1)):=by
 refine Fp.arg_ok (subs_P hm ha (by rw[Pol.len_one];omega)) fun D w vs h=>?_
 match vs,h with
 | [v0,v1,v2,v3],⟨h0,h1,h2,h3,h4⟩=>exact⟨h0,h1,sub_oneV D w v2 h2,h3,h4⟩
omit hp hm in
theorem digs_len {e k:Nat} (h:e<4294967296^k):(digs e).length≤k:=by
 have:=zlen_nat e k h
 unfold zlen at this
 rwa [Int.natAbs_natCast]at this
set_option maxHeartbeats 8000000 in
theorem halves_odd {d:Nat} {f t:Pol (Zp p)} (h2:p≠2) (hd:1≤d) (hd2:d≤64) (hf:f≠0) (lf:f.len≤1024) (lt:t.len≤4096):FnOK Tryz.prog true 133 [.c (.int .i64 p),.c (.int .i64 d),pl f,pl t] (pl (Pol.rm (Crg.pw t (p.toNat^d / 2)) f-1)):=by
 have hm1:=hm.1
 have hm2:=hm.2.1
 have hq:(p.toNat:Int)=p:=by omega
 have hlt:p.toNat^d<4294967296^d:=Nat.pow_lt_pow_left (by omega) (by omega)
 have k0:=of_ok (x:=p) (by omega) (by omega)
 have k1:=pow_ok (x:=p.toNat) (n:=d) (by omega) (by omega) hd hd2
 rw[hq]at k1
 have k2:=of_ok (x:=2) (by decide) (by decide)
 have z1:zlen ((p.toNat^d:Nat):Int)≤d:=zlen_nat _ _ hlt
 have k3:=divmod_nz (x:=((p.toNat^d:Nat):Int)) (y:=2) (by omega) (by decide)
 have e3:((p.toNat^d:Nat):Int) / 2=((p.toNat^d / 2:Nat):Int):=(Int.natCast_ediv _ 2).symm
 rw[e3]at k3
 have k4:=(powMod_P hm (a:=t) (m:=f) (e:=p.toNat^d / 2) lt hf lf (Nat.le_trans (digs_len (k:=d) (by have:=Nat.div_le_self (p.toNat^d) 2;omega)) (by omega))).weak (r:=true)
 have lr:(Pol.rm (Crg.pw t (p.toNat^d / 2)) f).len≤4096:=by have:=(Pol.rm_spec (Crg.pw t (p.toNat^d / 2)) hf).2;omega
 have k5:=(subs_one hm lr).weak (r:=true)
 generalize ((p.toNat^d:Nat):Int)%2=r at *
 generalize hP:((p.toNat^d:Nat):Int)=P at *
 generalize ((p.toNat^d / 2:Nat):Int)=H at *
 generalize Pol.rm (Crg.pw t (p.toNat^d / 2)) f-1=R at *
 generalize Pol.rm (Crg.pw t (p.toNat^d / 2)) f=R0 at *
 refine fn_ok (E:=E1) E1_ok Tryz.func133 rfl mixed (by kernel_rfl) (by kernel_rfl) ?_
 conv=>whnf
 refine bneg (show decide (p=2)=false from decide_eq_false h2) ?_
 conv=>whnf
 refine⟨_,k0,?_⟩
 conv=>whnf
 refine⟨_,k1,?_⟩
 conv=>whnf
 refine⟨_,k2,?_⟩
 conv=>whnf
 refine⟨_,k3,?_⟩
 conv=>whnf
 refine⟨_,k4,?_⟩
 conv=>whnf
 refine⟨Fp.i64 (by omega) (by omega),?_⟩
 conv=>whnf
 refine⟨fun i j hi hj=>?_,?_⟩
 ·match i,j,hi,hj with
  | 0,0,_,_=>rfl
 conv=>whnf
 refine⟨_,k5,?_⟩
 conv=>whnf
 exact⟨rfl,Sub.refl _⟩
noncomputable def hv2 (f t : Pol (Zp p)) : Nat → Pol (Zp p) × Pol (Zp p)
 | 0=>(t,t)
 | n+1=>((hv2 f t n).1+Pol.rm ((hv2 f t n).2*(hv2 f t n).2) f,Pol.rm ((hv2 f t n).2*(hv2 f t n).2) f)
omit hm in
theorem hv2_len {f t : Pol (Zp p)} (hf : f ≠ 0) (lt : t.len ≤ 1024) (lf : f.len ≤ 1024) : ∀ n, (hv2 f t n).1.len ≤ 1024 ∧ (hv2 f t n).2.len ≤ 1024
 | 0=>⟨lt,lt⟩
 | n+1=>by
  obtain⟨h1,h2⟩:=hv2_len hf lt lf n
  have h3:=(Pol.rm_spec ((hv2 f t n).2*(hv2 f t n).2) hf).2
  have h4:=Pol.len_add (hv2 f t n).1 (Pol.rm ((hv2 f t n).2*(hv2 f t n).2) f)
  exact⟨by show((hv2 f t n).1+Pol.rm ((hv2 f t n).2*(hv2 f t n).2) f).len≤1024;omega,by show(Pol.rm ((hv2 f t n).2*(hv2 f t n).2) f).len≤1024;omega⟩
set_option maxHeartbeats 8000000 in
theorem halves_two {d:Nat} {f t:Pol (Zp p)} (h2:p=2) (hd:1≤d) (hd2:d≤64) (hf:f≠0) (lf:f.len≤1024) (lt:t.len≤1024):FnOK Tryz.prog true 133 [.c (.int .i64 p),.c (.int .i64 d),pl f,pl t] (pl (hv2 f t (d-1)).1):=by
 have hl:=hv2_len hf lt lf
 have k1:=fun n=>(times_P hm (hl n).2 (hl n).2).weak (r:=true)
 have k2:∀ n,FnOK Tryz.prog true 104 [.c (.int .i64 p),pl ((hv2 f t n).2*(hv2 f t n).2),pl f] (.t2 (pl (Pol.qo ((hv2 f t n).2*(hv2 f t n).2) f)) (pl (hv2 f t (n+1)).2)):=fun n=>by
  have h3:=Pol.len_mul_le (hv2 f t n).2 (hv2 f t n).2
  have h4:=hl n
  exact(divide_P hm (by omega) (by omega) (Pol.qo_spec _ hf) (Pol.rm_spec _ hf).2).weak
 have k3:∀ n,FnOK Tryz.prog true 132 [.c (.int .i64 p),pl (hv2 f t n).1,pl (hv2 f t (n+1)).2,.c (.int .i64 1)] (pl (hv2 f t (n+1)).1):=fun n=>(adds_P hm (by have:=hl n;omega) (by have:=hl (n+1);omega)).weak
 clear hl
 refine fn_ok (E:=E1) E1_ok Tryz.func133 rfl mixed (by kernel_rfl) (by kernel_rfl) ?_
 conv=>whnf
 refine bpos (show decide (p=2)=true from decide_eq_true h2) ?_
 conv=>whnf
 refine⟨Fp.i64 (by omega) (by omega),?_⟩
 conv=>whnf
 refine loop_ints (fun j:Nat=>gst [(0,.c (.int .i64 p)),(2,pl f),(9,pl (hv2 f t j).1),(10,pl (hv2 f t j).2),(18,.c (.int .i64 ((d:Int)-1))),(19,.c (.int .i64 j))] []) (fun j=>d-j) (fun j=>j≤d-1) 0 rfl ?_ (Nat.zero_le _) fun j hj=>?_
 ·exact Weak.gen [] rfl trivial ⟨⟨_,rfl,rfl⟩,.inl ⟨_,_,rfl,rfl,fun _ _ _ _=>rfl⟩,.inl ⟨_,_,rfl,rfl,fun _ _ _ _=>rfl⟩,.inl ⟨_,_,rfl,rfl,fun _ _ _ _=>rfl⟩,⟨_,rfl,rfl⟩,⟨_,rfl,rfl⟩,trivial⟩
 have k1:=k1 j
 have k2:=k2 j
 have k3:=k3 j
 conv=>whnf
 refine bcase (fun(h:decide ((j:Int)<(d:Int)-1)=true)=>?_) fun(h:decide ((j:Int)<(d:Int)-1)=false)=>?_
 ·have h:=of_decide_eq_true h
  conv=>whnf
  refine⟨_,k1,?_⟩
  conv=>whnf
  refine⟨_,k2,?_⟩
  conv=>whnf
  refine⟨_,k3,?_⟩
  conv=>whnf
  refine⟨Fp.i64 (by omega) (by omega),?_⟩
  conv=>whnf
  exact⟨j+1,by omega,Weak.gen [] rfl trivial ⟨⟨_,rfl,rfl⟩,.inl ⟨_,_,rfl,rfl,fun _ _ _ _=>rfl⟩,.inl ⟨_,_,rfl,rfl,fun _ _ _ _=>rfl⟩,.inl ⟨_,_,rfl,rfl,fun _ _ _ _=>rfl⟩,⟨_,rfl,rfl⟩,⟨_,rfl,rfl⟩,trivial⟩,by omega⟩
 ·have h:=of_decide_eq_false h
  have hj1:j=d-1:=by omega
  subst hj1
  conv=>whnf
  exact⟨rfl,Sub.refl _⟩
end
end Go.Proofs.YtibaocbpeaejkaaGreat
/- The program's fpoly.byDegree, over polynomials. -/
namespace Go.Proofs.YtibaocbpeaejkaaGreat
open Go.RowKit
section
variable {p:Int} [hp:Prm p] (hm:Fp.md p)
noncomputable abbrev pc (a:Pol (Zp p)):Cell:=il (ofP a).1 (ofP a).2
structure ByD (f : Pol (Zp p)) (N : Nat) (o : Nat → Pol (Zp p)) : Prop where
 ne:∀ i,i<N->o i≠0/\(o i).lead=1/\Pol.Dvs (o i) f
 irr:∀ i,i<N->∀ P,Pol.Irr P->(Pol.Dvs P (o i)↔Pol.Dvs P f/\P.len=i+1)
theorem ByD.one {f:Pol (Zp p)}:ByD f 1 fun _=>1 :=
 ⟨fun i _=>⟨Pol.one_ne,lead_one,Pol.Dvs.one f⟩,fun i hi P hP=>⟨fun h=>absurd h hP.not_one,fun h=>by have:=hP.two;omega⟩⟩
theorem ByD.add {f g:Pol (Zp p)} {d:Nat} {o:Nat->Pol (Zp p)} (h:ByD f d o) (g0:g≠0) (gl:g.lead=1) (gd:Pol.Dvs g f) (gi:∀ P,Pol.Irr P->(Pol.Dvs P g↔Pol.Dvs P f/\P.len=d+1)):ByD f (d+1) fun i=>if i=d then g else o i:=by
 refine⟨fun i hi=>?_,fun i hi P hP=>?_⟩
 ·show(if i=d then g else o i)≠0/\(if i=d then g else o i).lead=1/\_
  by_cases e:i=d
  ·rw[if_pos e];exact⟨g0,gl,gd⟩
  ·rw[if_neg e];exact h.ne i (by omega)
 ·show Pol.Dvs P (if i=d then g else o i)↔_
  by_cases e:i=d
  ·rw[if_pos e,e];exact gi P hP
  ·rw[if_neg e];exact h.irr i (by omega) P hP
theorem ByD.fin {f c w:Pol (Zp p)} {d:Nat} {o:Nat->Pol (Zp p)} (_:ByD f d o) (b:BdI f d c w) (hc:c.len≤1):∀ P,Pol.Irr P->Pol.Dvs P f->P.len≤d:=fun P hP hd=>by
 rcases Nat.lt_or_ge d P.len with h | h
 ·have:=((b.irr P hP).2 ⟨hd,h⟩).len b.ne
  have:=hP.two
  omega
 ·exact h
theorem ByD.pad {f c w:Pol (Zp p)} {d m:Nat} {o:Nat->Pol (Zp p)} (h:ByD f m o) (b:BdI f d c w) (hi:Pol.Irr c) (hdm:d≤m) (hm:m<c.len-1):ByD f (m+1) fun i=>if i=m then 1 else o i:=by
 refine h.add Pol.one_ne lead_one (Pol.Dvs.one f) fun P hP=>⟨fun k=>absurd k hP.not_one,fun⟨k1,k2⟩=>?_⟩
 have k3:=(b.irr P hP).2 ⟨k1,by omega⟩
 obtain⟨x,hx⟩:=k3
 rcases hi.irr P x hx with h1 | h1
 ·have:=hP.two;omega
 ·have hx0:x≠0:=Pol.ne_of_len (by omega)
  have:=Pol.len_mul hP.ne hx0
  rw[← hx]at this
  omega
theorem ByD.last {f c w:Pol (Zp p)} {d m:Nat} {o:Nat->Pol (Zp p)} (h:ByD f m o) (b:BdI f d c w) (hi:Pol.Irr c) (hdm:d≤m) (hm:c.len=m+1):(ByD f (m+1) fun i=>if i=m then c else o i)/\∀ P,Pol.Irr P->Pol.Dvs P f->P.len≤m+1:=by
 have key:∀ P,Pol.Irr P->Pol.Dvs P c->P.len=m+1:=fun P hP ⟨x,hx⟩=>by
  rcases hi.irr P x hx with h1 | h1
  ·have:=hP.two;omega
  ·have hx0:x≠0:=Pol.ne_of_len (by omega)
   have:=Pol.len_mul hP.ne hx0
   rw[← hx]at this
   omega
 refine⟨h.add b.ne b.lead b.dv fun P hP=>⟨fun k=>⟨k.trans b.dv,key P hP k⟩,fun⟨k1,k2⟩=>(b.irr P hP).2 ⟨k1,by omega⟩⟩,fun P hP hd=>?_⟩
 rcases Nat.lt_or_ge P.len (d+1)with h1 | h1
 ·omega
 ·have:=key P hP ((b.irr P hP).2 ⟨hd,h1⟩)
  omega
theorem Gc.eq {a b g g':Pol (Zp p)} (h:Gc a b g) (h':Gc a b g'):g'=g:=by
 have h1:=h'.gr g h.da h.db
 have h2:=(h.gr g' h'.da h'.db).len h.ne
 obtain⟨x,hx⟩:=h1
 have hx0:x≠0:=fun e=>h'.ne (by rw[hx,e,Crg.mul_zero])
 have l1:=Pol.len_mul h.ne hx0
 rw[← hx]at l1
 have l5:=Pol.len_pos hx0
 have l6:=Pol.lead_mul h.ne hx0
 rw[← hx,h'.lead,h.lead,Crg.one_mul]at l6
 rw[hx,one_of_len hx0 (by omega) l6.symm,Crg.mul_one]
noncomputable def Pol.gd (a b:Pol (Zp p)):Pol (Zp p):=open Classical in if h:∃ g,Gc a b g then h.choose else 0
theorem Gc.gd {a b g:Pol (Zp p)} (h:Gc a b g):Pol.gd a b=g:=by
 have hx:∃ g,Gc a b g:=⟨g,h⟩
 unfold Pol.gd
 rw[dif_pos hx]
 exact h.eq hx.choose_spec
theorem qo_dvs {a g:Pol (Zp p)} (hg:g≠0) (h:Pol.Dvs g a):a=Pol.qo a g*g:=by
 obtain⟨x,hx⟩:=h
 obtain⟨e,_⟩:=div_unique (a:=a) (b:=g) (q:=x) (r:=0) (by rw[Crg.add_zero,Crg.mul_comm];exact hx) (by rw[Pol.len_zero];exact Pol.len_pos hg) (Pol.qo_spec a hg) (Pol.rm_spec a hg).2
 rw[e,Crg.mul_comm]
 exact hx
include hm in
theorem gd_P {a b:Pol (Zp p)} (ha:a.len≤4096) (hb:b.len≤4096) (hne:a≠0∨b≠0):Gc a b (Pol.gd a b)/\FnOK Tryz.prog false 103 [.c (.int .i64 p),pl a,pl b] (pl (Pol.gd a b)):=by
 obtain⟨g,h1,h2⟩:=gcd_P hm ha hb hne
 rw[h1.gd]
 exact⟨h1,h2⟩
theorem qo_P (hm:Fp.md p) {a g:Pol (Zp p)} (ha:a.len≤4096) (hg:g≠0) (hl:g.len≤4096) (h:Pol.Dvs g a):FnOK Tryz.prog false 104 [.c (.int .i64 p),pl a,pl g] (.t2 (pl (Pol.qo a g)) (pl (0:Pol (Zp p)))) :=
 divide_P hm ha hl (by rw[Crg.add_zero];exact qo_dvs hg h) (by rw[Pol.len_zero];exact Pol.len_pos hg)
theorem rm_P (hm:Fp.md p) {a m:Pol (Zp p)} (ha:a.len≤4096) (h0:m≠0) (hl:m.len≤4096):FnOK Tryz.prog false 104 [.c (.int .i64 p),pl a,pl m] (.t2 (pl (Pol.qo a m)) (pl (Pol.rm a m))) :=
 divide_P hm ha hl (Pol.qo_spec a h0) (Pol.rm_spec a h0).2
theorem X_len:(Pol.X:Pol (Zp p)).len=2:=congrArg Prod.fst (ofP_X (p:=p))
noncomputable def bdS (f : Pol (Zp p)) : Nat → Pol (Zp p) × Pol (Zp p) × (Nat → Pol (Zp p))
 | 0=>(f,Pol.X,fun _=>1)
 | j+1=>(Pol.qo (bdS f j).1 (Pol.gd (bdS f j).1 (Pol.rm (Crg.pw (bdS f j).2.1 p.toNat) (bdS f j).1-Pol.X)),Pol.rm (Pol.rm (Crg.pw (bdS f j).2.1 p.toNat) (bdS f j).1) (Pol.qo (bdS f j).1 (Pol.gd (bdS f j).1 (Pol.rm (Crg.pw (bdS f j).2.1 p.toNat) (bdS f j).1-Pol.X))),fun i=>if i=j+1 then Pol.gd (bdS f j).1 (Pol.rm (Crg.pw (bdS f j).2.1 p.toNat) (bdS f j).1-Pol.X)else(bdS f j).2.2 i)
structure BdR (f : Pol (Zp p)) (j : Nat) (c w : Pol (Zp p)) (o : Nat → Pol (Zp p)) : Prop where
 i:BdI f (j+1) c w
 o:ByD f (j+1) o
 cl:c.len≤f.len
 wl:w.len≤1024
theorem bdS_step {f c w : Pol (Zp p)} {j : Nat} {o : Nat → Pol (Zp p)} (hm : Fp.md p) (hs : Pol.Sqf f) (lf : f.len ≤ 1024) (h : BdR f j c w o) :
  let w':=Pol.rm (Crg.pw w p.toNat) c
  let g:=Pol.gd c (w'-Pol.X)
  BdR f (j+1) (Pol.qo c g) (Pol.rm w' (Pol.qo c g)) (fun i=>if i=j+1 then g else o i)/\FnOK Tryz.prog false 131 [.c (.int .i64 p),pl w,.g (nz p),pl c] (pl w')/\FnOK Tryz.prog false 132 [.c (.int .i64 p),pl w',pl (Pol.X:Pol (Zp p)),.c (.int .i64 (p-1))] (pl (w'-Pol.X))/\FnOK Tryz.prog false 103 [.c (.int .i64 p),pl c,pl (w'-Pol.X)] (pl g)/\FnOK Tryz.prog false 104 [.c (.int .i64 p),pl c,pl g] (.t2 (pl (Pol.qo c g)) (pl (0:Pol (Zp p))))/\FnOK Tryz.prog false 104 [.c (.int .i64 p),pl w',pl (Pol.qo c g)] (.t2 (pl (Pol.qo w' (Pol.qo c g))) (pl (Pol.rm w' (Pol.qo c g)))):=by
 intro w' g
 have hm1:=hm.1
 have hm2:=hm.2.1
 have hX:=X_len (p:=p)
 have lc:c.len≤1024:=Nat.le_trans h.cl lf
 have k1:=powMod_P hm (a:=w) (m:=c) (e:=p.toNat) (by have:=h.wl;omega) h.i.ne lc (by rw[digs_one (x:=p.toNat) (by omega) (by omega)];exact Nat.le_of_ble_eq_true rfl)
 rw[show((p.toNat:Nat):Int)=p by omega]at k1
 obtain⟨s1,s2⟩:=Pol.rm_spec (Crg.pw w p.toNat) h.i.ne
 have s2:w'.len<c.len:=s2
 have k2:=subs_P hm (a:=w') (b:=(Pol.X:Pol (Zp p))) (by omega) (by omega)
 have l2:(w'-Pol.X).len≤4096:=by
  have:=Pol.len_sub w' (Pol.X:Pol (Zp p))
  omega
 obtain⟨gg,k3⟩:=gd_P hm (a:=c) (b:=w'-Pol.X) (by omega) l2 (.inl h.i.ne)
 have gg:Gc c (w'-Pol.X) g:=gg
 have lg:=gg.da.len h.i.ne
 have k4:=qo_P hm (a:=c) (g:=g) (by omega) gg.ne (by omega) gg.da
 have ec:=qo_dvs gg.ne gg.da
 have q0:Pol.qo c g≠0:=(lead_quo ec h.i.ne h.i.lead gg.lead).1
 have lq:(Pol.qo c g).len≤c.len:=Pol.Dvs.len ⟨g,ec⟩ h.i.ne
 have k5:=rm_P hm (a:=w') (m:=Pol.qo c g) (by omega) q0 (by omega)
 obtain⟨t1,t2⟩:=Pol.rm_spec w' q0
 obtain⟨b1,b2,b3,b4⟩:=h.i.step (by omega) hs s1.symm gg ec t1.symm
 exact⟨⟨b1,h.o.add gg.ne gg.lead b3 b4,Nat.le_trans lq h.cl,by omega⟩,k1,k2,k3,k4,k5⟩
theorem bdS_inv (hm : Fp.md p) {f : Pol (Zp p)} (hs : Pol.Sqf f) (h0 : f ≠ 0) (h1 : f.lead = 1) (lf : f.len ≤ 1024) : ∀ j, BdR f j (bdS f j).1 (bdS f j).2.1 (bdS f j).2.2
 | 0=>⟨BdI.start h0 h1,ByD.one,Nat.le_refl _,by show(Pol.X:Pol (Zp p)).len≤1024;rw[X_len];decide⟩
 | j+1=>(bdS_step hm hs lf (bdS_inv hm hs h0 h1 lf j)).1
end
end Go.Proofs.YtibaocbpeaejkaaGreat
/- The program's fpoly.byDegree: the walk. -/
namespace Go.Proofs.YtibaocbpeaejkaaGreat
open Go.RowKit
theorem ex_least {Q:Nat->Prop} (h:∃ k,Q k):∃ k,Q k/\∀ i,i<k->¬ Q i:=by
  obtain⟨k,hk⟩:=h
  induction k using Nat.strongRecOn with
  | ind k ih =>
    by_cases hx:∃ i,i<k/\Q i
    · obtain⟨i,hi,hq⟩:=hx
      exact ih i hi hq
    · exact⟨k,hk,fun i hi hq=>hx ⟨i,hi,hq⟩⟩
section
variable {p:Int} [hp:Prm p]
theorem pc_one:pc (1:Pol (Zp p))=il 1 fun i=>if i=0 then 1 else 0:=by
  show il (ofP (1:Pol (Zp p))).1 (ofP (1:Pol (Zp p))).2=_
  rw[ofP_one]
theorem reg_one {q:Nat} {bl:List Blk} {ks:List (Option Nat)} {k:Nat} {B:Blk} {e:Cell->Prop} (hB:bl[k]? = some B) (he:e (.gs k B.u)) (hq:q.ble k=true) (hk:(ks.any fun x=>x == some k)=false) (h1:B.st≤1) (h2:B.sz=1) (h3:B.n=1) (h4:B.f 0 0 = .int .i64 1) {a:Pol (Zp p)} (ha:a=1):regC q bl ks (pc a) e:=by
  rw[ha,pc_one]
  refine .inr (.inr ⟨k,B,hB,he,hq,hk,h1,h2,h3,fun i j hi hj=>?_⟩)
  obtain rfl:i=0:=by omega
  obtain rfl:j=0:=by omega
  exact⟨h4,rfl⟩
noncomputable abbrev pcs (h:Nat->Pol (Zp p)):Nat->Nat->Cell:=fun i y=>([pc (h i)]:List Cell).getD y .any
theorem pcs_clos (h:Nat->Pol (Zp p)) {i y:Nat} (hy:y<1):(pcs h i y).clos=true:=by
  obtain rfl:y=0:=by omega
  rfl
theorem app_pcs {h h':Nat->Pol (Zp p)} {a:Pol (Zp p)} {k i y:Nat} (hi:i<k+1) (hy:y<1) (e:h' k=a) (e2:∀ i,i<k->h' i=h i):appF k (pcs h) (rowF 1 [pc a]) i y=pcs h' i y:=by
  obtain rfl:y=0:=by omega
  unfold appF
  by_cases hk:i=k
  · rw[if_neg (by omega),hk,Nat.sub_self,← e];rfl
  · rw[if_pos (by omega)]
    show pc (h i)=pc (h' i)
    rw[e2 i (by omega)]
theorem reg_pc {q:Nat} {bl:List Blk} {ks:List (Option Nat)} {e:Cell->Prop} {a:Pol (Zp p)} (h:e (pc a)):regC q bl ks (pc a) e:=regE h rfl
theorem app_clos {h:Nat->Pol (Zp p)} {a:Pol (Zp p)} {k i y:Nat} (hy:y<1):(appF k (pcs h) (rowF 1 [pc a]) i y).clos=true:=by
  obtain rfl:y=0:=by omega
  unfold appF
  split
  · rfl
  · unfold rowF
    rcases Nat.eq_zero_or_pos (i-k)with e | e
    · rw[e];rfl
    · obtain⟨d,hd⟩:∃ d,(i-k)*1+0=d+1:=⟨(i-k)-1,by omega⟩
      rw[hd];rfl
theorem reg_app1 {q:Nat} {bl:List Blk} {ks:List (Option Nat)} {k:Nat} {B:Blk} (hB:bl[k]? = some B) (hq:q.ble k=true) (hk:(ks.any fun x=>x == some k)=false) (h1:B.st≤1) (h2:B.sz=1) (h3:B.n=1) (h4:B.f 0 0 = .int .i64 1) {h:Nat->Pol (Zp p)} {m i y d:Nat} (hi:i<m+1) (hy:y<1) (hd:d≤m):regC q bl ks (pcs (fun i=>if i<d then h i else 1) i y) fun c=>appF m (pcs fun i=>if i<d then h i else 1) (rowF 1 [.gs k B.u]) i y=c:=by
  obtain rfl:y=0:=by omega
  by_cases e:i<m
  · exact reg_pc (by unfold appF;rw[if_pos e];rfl)
  · obtain rfl:i=m:=by omega
    refine reg_one hB ?_ hq hk h1 h2 h3 h4 (if_neg (by omega))
    unfold appF
    rw[if_neg (Nat.lt_irrefl _),Nat.sub_self]
    rfl
theorem ByD.congr {f:Pol (Zp p)} {N:Nat} {o o':Nat->Pol (Zp p)} (h:ByD f N o) (e:∀ i,i<N->o' i=o i):ByD f N o' :=
  ⟨fun i hi=>by rw[e i hi];exact h.ne i hi,fun i hi=>by rw[e i hi];exact h.irr i hi⟩
structure BdW (f : Pol (Zp p)) (K : Nat) (c w v u g q : Nat → Pol (Zp p)) (o : Nat → Nat → Pol (Zp p)) : Prop where
  c0:c 0=f
  w0:w 0=Pol.X
  o0:o 0=fun _=>1
  os:∀ j i,o (j+1) i=if i=j+1 then g j else o j i
  k1:∀ j,FnOK Tryz.prog true 131 [.c (.int .i64 p),pl (w j),.g (nz p),pl (c j)] (pl (v j))
  k2:∀ j,FnOK Tryz.prog true 132 [.c (.int .i64 p),pl (v j),pl (Pol.X:Pol (Zp p)),.c (.int .i64 (p-1))] (pl (u j))
  k3:∀ j,FnOK Tryz.prog true 103 [.c (.int .i64 p),pl (c j),pl (u j)] (pl (g j))
  k4:∀ j,FnOK Tryz.prog true 104 [.c (.int .i64 p),pl (c j),pl (g j)] (.t2 (pl (c (j+1))) (pl (0:Pol (Zp p))))
  k5:∀ j,FnOK Tryz.prog true 104 [.c (.int .i64 p),pl (v j),pl (c (j+1))] (.t2 (pl (q j)) (pl (w (j+1))))
  lc:∀ j,(c j).len≤1024
  kk:K≤1024
  ex:∀ j,j<K->1<(c j).len/\2*(j+1)≤(c j).len-1
set_option maxHeartbeats 8000000 in
theorem bd_walk1 (hm:Fp.md p) {f:Pol (Zp p)} {K:Nat} {c w v u g q:Nat->Pol (Zp p)} {o:Nat->Nat->Pol (Zp p)} (H:BdW f K c w v u g q o) (hK:(c K).len≤1):FnOK Tryz.prog true 105 [.c (.int .i64 p),pl f] (.c (.row 1 (K+1) (pcs (o K)))):=by
  have hm1:=hm.1
  have hm2:=hm.2.1
  have kv:=(var_P (p:=p)).weak (r:=true)
  have ko:=of_ok (x:=p) (by omega) (by omega)
  obtain⟨c0,w0,o0,os,k1,k2,k3,k4,k5,lc,kk,ex⟩:=H
  obtain rfl:=c0
  have kv0:FnOK Tryz.prog true 130 [] (pl (w 0)):=by rw[w0];exact kv
  have o00:o 0 0=1:=by rw[o0]
  refine fn_ok (E:=E1) E1_ok Tryz.func105 rfl mixed (by kernel_rfl) (by kernel_rfl) ?_
  conv=>whnf
  refine⟨_,kv0,?_⟩
  conv=>whnf
  refine loop_ints (fun j:Nat=>gst [(0,.c (.int .i64 p)),(1,pl (c j)),(5,.c (.gs 0 0)),(6,pl (w j)),(7,.c (.int .i64 ((j:Int)+1)))] [⟨24,1,j+1,pcs (o j)⟩]) (fun j=>K-j) (fun j=>j≤K) 0 rfl ?_ (Nat.zero_le _) fun j hj=>?_
  · refine Weak.gen [some 1] rfl ⟨⟨_,rfl,rfl,rfl,rfl,rfl,fun i j hi hj=>?_⟩,trivial⟩ ⟨⟨_,rfl,rfl⟩,.inl ⟨_,_,rfl,rfl,fun _ _ _ _=>rfl⟩,⟨_,rfl,rfl,rfl⟩,.inl ⟨_,_,rfl,rfl,fun _ _ _ _=>rfl⟩,⟨_,rfl,rfl⟩,trivial⟩
    obtain rfl : i = 0 := by have h : i < 0 + 1 := hi
                             omega
    obtain rfl : j = 0 := by have h : j < 1 := hj
                             omega
    exact reg_one (p:=p) (k:=0) (B:=⟨3,1,1,0,0,rowF 1 [.int .i64 1]⟩) rfl rfl rfl rfl (Nat.zero_le _) rfl rfl rfl o00
  have k1:=k1 j
  have k2:=k2 j
  have k3:=k3 j
  have k4:=k4 j
  have k5:=k5 j
  have os:=os j
  have lj:=lc j
  have ex:=ex j
  have hL:(ofP (c j)).1=(c j).len:=rfl
  conv=>whnf
  refine bcase (fun(h:decide ((1:Int)<((c j).len:Int))=true)=>?_) fun(h:decide ((1:Int)<((c j).len:Int))=false)=>?_
  · have h:=of_decide_eq_true h
    have hjK:j<K:=by
      rcases Nat.lt_or_ge j K with h1 | h1
      · exact h1
      · obtain rfl:j=K:=by omega
        omega
    have ex:=ex hjK
    conv=>whnf
    refine⟨Fp.i64 (by omega) (by omega),?_⟩
    conv=>whnf
    refine⟨Fp.i64 (by omega) (by omega),?_⟩
    conv=>whnf
    refine bneg (show decide (((c j).len:Int)-1<2*((j:Int)+1))=false from decide_eq_false (by omega)) ?_
    conv=>whnf
    refine⟨_,ko,?_⟩
    conv=>whnf
    refine⟨_,k1,?_⟩
    conv=>whnf
    refine⟨_,kv,?_⟩
    conv=>whnf
    refine⟨Fp.i64 (by omega) (by omega),?_⟩
    conv=>whnf
    refine⟨_,k2,?_⟩
    conv=>whnf
    refine⟨_,k3,?_⟩
    conv=>whnf
    refine⟨by show j+1+1≤16777216;omega,fun x y hx hy=>?_,?_⟩
    · obtain rfl : x = 0 := by have h : x < 1 := hx
                               omega
      obtain rfl : y = 0 := by have h : y < 1 := hy
                               omega
      exact⟨rfl,fun h=>rfl⟩
    conv=>whnf
    refine⟨_,k4,?_⟩
    conv=>whnf
    refine⟨_,k5,?_⟩
    conv=>whnf
    refine⟨Fp.i64 (by omega) (by omega),?_⟩
    conv=>whnf
    refine⟨j+1,by omega,Weak.gen [some 0] rfl ⟨⟨_,rfl,rfl,rfl,rfl,rfl,fun i y hi hy=>?_⟩,trivial⟩ ⟨⟨_,rfl,rfl⟩,.inl ⟨_,_,rfl,rfl,fun _ _ _ _=>rfl⟩,⟨_,rfl,rfl,rfl⟩,.inl ⟨_,_,rfl,rfl,fun _ _ _ _=>rfl⟩,⟨_,rfl,by omega⟩,trivial⟩,by omega⟩
    exact regE (app_pcs (h:=o j) (h':=o (j+1)) (a:=g j) (k:=j+1) hi hy ((os _).trans (if_pos rfl)) fun i hi=>(os i).trans (if_neg (by omega))) (pcs_clos _ hy)
  · have h:=of_decide_eq_false h
    obtain rfl:j=K:=by
      rcases Nat.lt_or_ge j K with h1 | h1
      · have:=ex h1;omega
      · omega
    conv=>whnf
    refine⟨fun i j _ hj=>pcs_clos _ hj,?_⟩
    conv=>whnf
    exact⟨rfl,Sub.refl _⟩
set_option maxHeartbeats 8000000 in
theorem bd_walk2 (hm:Fp.md p) {f:Pol (Zp p)} {K:Nat} {c w v u g q:Nat->Pol (Zp p)} {o:Nat->Nat->Pol (Zp p)} (H:BdW f K c w v u g q o) (hK:1<(c K).len) (hK2:(c K).len-1<2*(K+1)) (hK3:K+1≤(c K).len-1):FnOK Tryz.prog true 105 [.c (.int .i64 p),pl f] (.c (.row 1 (c K).len (pcs fun i=>if i=(c K).len-1 then c K else if i<K+1 then o K i else 1))):=by
  have hm1:=hm.1
  have hm2:=hm.2.1
  have kv:=(var_P (p:=p)).weak (r:=true)
  have ko:=of_ok (x:=p) (by omega) (by omega)
  obtain⟨c0,w0,o0,os,k1,k2,k3,k4,k5,lc,kk,ex⟩:=H
  obtain rfl:=c0
  have kv0:FnOK Tryz.prog true 130 [] (pl (w 0)):=by rw[w0];exact kv
  have o00:o 0 0=1:=by rw[o0]
  refine fn_ok (E:=E1) E1_ok Tryz.func105 rfl mixed (by kernel_rfl) (by kernel_rfl) ?_
  conv=>whnf
  refine⟨_,kv0,?_⟩
  conv=>whnf
  refine loop_ints (fun j:Nat=>gst [(0,.c (.int .i64 p)),(1,pl (c j)),(5,.c (.gs 0 0)),(6,pl (w j)),(7,.c (.int .i64 ((j:Int)+1)))] [⟨24,1,j+1,pcs (o j)⟩]) (fun j=>K-j) (fun j=>j≤K) 0 rfl ?_ (Nat.zero_le _) fun j hj=>?_
  · refine Weak.gen [some 1] rfl ⟨⟨_,rfl,rfl,rfl,rfl,rfl,fun i j hi hj=>?_⟩,trivial⟩ ⟨⟨_,rfl,rfl⟩,.inl ⟨_,_,rfl,rfl,fun _ _ _ _=>rfl⟩,⟨_,rfl,rfl,rfl⟩,.inl ⟨_,_,rfl,rfl,fun _ _ _ _=>rfl⟩,⟨_,rfl,rfl⟩,trivial⟩
    obtain rfl : i = 0 := by have h : i < 0 + 1 := hi
                             omega
    obtain rfl : j = 0 := by have h : j < 1 := hj
                             omega
    exact reg_one (p:=p) (k:=0) (B:=⟨3,1,1,0,0,rowF 1 [.int .i64 1]⟩) rfl rfl rfl rfl (Nat.zero_le _) rfl rfl rfl o00
  have k1:=k1 j
  have k2:=k2 j
  have k3:=k3 j
  have k4:=k4 j
  have k5:=k5 j
  have os:=os j
  have lj:=lc j
  have ex:=ex j
  have hL:(ofP (c j)).1=(c j).len:=rfl
  conv=>whnf
  refine bpos (show decide ((1:Int)<((c j).len:Int))=true from decide_eq_true (by
    rcases Nat.lt_or_ge j K with h1 | h1
    · have:=ex h1;omega
    · obtain rfl:j=K:=by omega
      omega)) ?_
  rcases Nat.lt_or_ge j K with hjK | hjK
  · have ex:=ex hjK
    conv=>whnf
    refine⟨Fp.i64 (by omega) (by omega),?_⟩
    conv=>whnf
    refine⟨Fp.i64 (by omega) (by omega),?_⟩
    conv=>whnf
    refine bneg (show decide (((c j).len:Int)-1<2*((j:Int)+1))=false from decide_eq_false (by omega)) ?_
    conv=>whnf
    refine⟨_,ko,?_⟩
    conv=>whnf
    refine⟨_,k1,?_⟩
    conv=>whnf
    refine⟨_,kv,?_⟩
    conv=>whnf
    refine⟨Fp.i64 (by omega) (by omega),?_⟩
    conv=>whnf
    refine⟨_,k2,?_⟩
    conv=>whnf
    refine⟨_,k3,?_⟩
    conv=>whnf
    refine⟨by show j+1+1≤16777216;omega,fun x y hx hy=>?_,?_⟩
    · obtain rfl : x = 0 := by have h : x < 1 := hx
                               omega
      obtain rfl : y = 0 := by have h : y < 1 := hy
                               omega
      exact⟨rfl,fun h=>rfl⟩
    conv=>whnf
    refine⟨_,k4,?_⟩
    conv=>whnf
    refine⟨_,k5,?_⟩
    conv=>whnf
    refine⟨Fp.i64 (by omega) (by omega),?_⟩
    conv=>whnf
    refine⟨j+1,by omega,Weak.gen [some 0] rfl ⟨⟨_,rfl,rfl,rfl,rfl,rfl,fun i y hi hy=>?_⟩,trivial⟩ ⟨⟨_,rfl,rfl⟩,.inl ⟨_,_,rfl,rfl,fun _ _ _ _=>rfl⟩,⟨_,rfl,rfl,rfl⟩,.inl ⟨_,_,rfl,rfl,fun _ _ _ _=>rfl⟩,⟨_,rfl,by omega⟩,trivial⟩,by omega⟩
    exact regE (app_pcs (h:=o j) (h':=o (j+1)) (a:=g j) (k:=j+1) hi hy ((os _).trans (if_pos rfl)) fun i hi=>(os i).trans (if_neg (by omega))) (pcs_clos _ hy)
  · obtain rfl:j=K:=by omega
    conv=>whnf
    refine⟨Fp.i64 (by omega) (by omega),?_⟩
    conv=>whnf
    refine⟨Fp.i64 (by omega) (by omega),?_⟩
    conv=>whnf
    refine bpos (show decide (((c j).len:Int)-1<2*((j:Int)+1))=true from decide_eq_true (by omega)) ?_
    conv=>whnf
    refine loop_ints (fun m:Nat=>gst [(1,pl (c j)),(5,.c (.gs 0 0))] [⟨24,1,m,pcs fun i=>if i<j+1 then o j i else 1⟩]) (fun m=>(c j).len-m) (fun m=>j+1≤m/\m≤(c j).len-1) (j+1) rfl ?_ ⟨Nat.le_refl _,hK3⟩ fun m hm=>?_
    · refine Weak.gen [some 0] rfl ⟨⟨_,rfl,rfl,rfl,rfl,rfl,fun i y hi hy=>?_⟩,trivial⟩ ⟨.inl ⟨_,_,rfl,rfl,fun _ _ _ _=>rfl⟩,⟨_,rfl,rfl,rfl⟩,trivial⟩
      obtain rfl : y = 0 := by have h : y < 1 := hy
                               omega
      exact reg_pc (congrArg pc (if_pos hi).symm)
    obtain⟨hma,hmb⟩:=hm
    conv=>whnf
    refine⟨Fp.i64 (by omega) (by omega),?_⟩
    conv=>whnf
    refine bcase (fun(h:decide ((m:Int)<((c j).len:Int)-1)=true)=>?_) fun(h:decide ((m:Int)<((c j).len:Int)-1)=false)=>?_
    · have h:=of_decide_eq_true h
      conv=>whnf
      refine⟨by show m+1≤16777216;omega,fun x y hx hy=>?_,?_⟩
      · obtain rfl : x = 0 := by have h : x < 1 := hx
                                 omega
        obtain rfl : y = 0 := by have h : y < 1 := hy
                                 omega
        exact⟨rfl,fun h=>rfl⟩
      conv=>whnf
      refine⟨m+1,by omega,Weak.gen [some 0] rfl ⟨⟨_,rfl,rfl,rfl,rfl,rfl,fun i y hi hy=>?_⟩,trivial⟩ ⟨.inl ⟨_,_,rfl,rfl,fun _ _ _ _=>rfl⟩,⟨_,rfl,rfl,rfl⟩,trivial⟩,by omega⟩
      exact reg_app1 (k:=1) (B:=⟨3,1,1,0,0,rowF 1 [.int .i64 1]⟩) rfl rfl rfl (Nat.zero_le _) rfl rfl rfl hi hy hma
    · have h:=of_decide_eq_false h
      obtain rfl:m=(c j).len-1:=by omega
      conv=>whnf
      refine⟨by show(c j).len-1+1≤16777216;omega,fun x y hx hy=>?_,?_⟩
      · obtain rfl : x = 0 := by have h : x < 1 := hx
                                 omega
        obtain rfl : y = 0 := by have h : y < 1 := hy
                                 omega
        exact⟨rfl,fun h=>rfl⟩
      conv=>whnf
      refine⟨fun i y _ hy=>app_clos (h:=fun i=>if i<j+1 then o j i else 1) (a:=c j) (k:=(c j).len-1) (i:=i) hy,?_⟩
      conv=>whnf
      exact⟨rfl,subRowG (show(c j).len-1+1=(c j).len by omega) fun i y hi hy=>app_pcs (h:=fun i=>if i<j+1 then o j i else 1) (h':=fun i=>if i=(c j).len-1 then c j else if i<j+1 then o j i else 1) (a:=c j) (k:=(c j).len-1) (by omega) hy (if_pos rfl) fun i hi=>if_neg (by omega)⟩
theorem byDegree_P (hm:Fp.md p) {f:Pol (Zp p)} (hs:Pol.Sqf f) (h0:f≠0) (h1:f.lead=1) (lf:f.len≤1024):∃(N:Nat) (o:Nat->Pol (Zp p)),ByD f N o/\(∀ P,Pol.Irr P->Pol.Dvs P f->P.len≤N)/\1≤N/\N≤f.len+1/\FnOK Tryz.prog true 105 [.c (.int .i64 p),pl f] (.c (.row 1 N (pcs o))):=by
  have inv:=bdS_inv hm hs h0 h1 lf
  have stp:=fun j=>(bdS_step hm hs lf (inv j)).2
  obtain⟨K,hK,hmin⟩:=ex_least (Q:=fun j=>(bdS f j).1.len≤1∨(bdS f j).1.len-1<2*(j+1)) ⟨f.len,.inr (by have:=(inv f.len).cl;omega)⟩
  have kk:K≤f.len:=Nat.le_of_not_lt fun h=>hmin f.len h (.inr (by have:=(inv f.len).cl;omega))
  have H:BdW f K (fun j=>(bdS f j).1) (fun j=>(bdS f j).2.1) (fun j=>Pol.rm (Crg.pw (bdS f j).2.1 p.toNat) (bdS f j).1) (fun j=>Pol.rm (Crg.pw (bdS f j).2.1 p.toNat) (bdS f j).1-Pol.X) (fun j=>Pol.gd (bdS f j).1 (Pol.rm (Crg.pw (bdS f j).2.1 p.toNat) (bdS f j).1-Pol.X)) (fun j=>Pol.qo (Pol.rm (Crg.pw (bdS f j).2.1 p.toNat) (bdS f j).1) (Pol.qo (bdS f j).1 (Pol.gd (bdS f j).1 (Pol.rm (Crg.pw (bdS f j).2.1 p.toNat) (bdS f j).1-Pol.X)))) (fun j=>(bdS f j).2.2) :=
    ⟨rfl,rfl,rfl,fun _ _=>rfl,fun j=>(stp j).1.weak,fun j=>(stp j).2.1.weak,fun j=>(stp j).2.2.1.weak,fun j=>(stp j).2.2.2.1.weak,fun j=>(stp j).2.2.2.2.weak,fun j=>Nat.le_trans (inv j).cl lf,by omega,fun j hj=>by
      have:=hmin j hj
      omega⟩
  have i:=(inv K).i
  have o:=(inv K).o
  by_cases hc:(bdS f K).1.len≤1
  · exact⟨K+1,_,o,o.fin i hc,by omega,by omega,bd_walk1 hm H hc⟩
  · have h2:(bdS f K).1.len-1<2*(K+1):=by omega
    have ir:=i.exit (by omega) h2
    have hd:K+1≤(bdS f K).1.len-1:=by
      have:=((i.irr _ ir).1 (Pol.Dvs.refl _)).2
      omega
    have pad:∀ t,K+1≤t->t≤(bdS f K).1.len-1->ByD f t fun i=>if i<K+1 then(bdS f K).2.2 i else 1:=fun t=>by
      induction t with
      | zero=>intro h;omega
      | succ t ih =>
        intro ha hb
        by_cases e:K+1≤t
        · have:=(ih e (by omega)).pad i ir e (by omega)
          refine this.congr fun x hx=>?_
          show(if x<K+1 then(bdS f K).2.2 x else 1)=if x=t then 1 else if x<K+1 then(bdS f K).2.2 x else 1
          by_cases e1:x=t
          · rw[if_pos e1,if_neg (by omega)]
          · rw[if_neg e1]
        · obtain rfl:t=K:=by omega
          exact o.congr fun x hx=>if_pos hx
    obtain⟨a,b⟩:=(pad _ hd (Nat.le_refl _)).last i ir hd (by omega)
    have e:(bdS f K).1.len-1+1=(bdS f K).1.len:=by omega
    rw[e]at a b
    exact⟨_,_,a,b,by omega,by have:=(inv K).cl;omega,bd_walk2 hm H (by omega) h2 hd⟩
end
end Go.Proofs.YtibaocbpeaejkaaGreat
/- Separating the divisors of one degree: contracts' plain parts. -/
namespace Go.Proofs.YtibaocbpeaejkaaGreat
open Go.RowKit
theorem FnM.shut {P:Program} {r:Bool} {f:FuncId} {args:List V} {T sz n:Nat} {g:Nat->Nat->Cell} (h:FnM P r f phB args (.c (.gs 1 0)) phB [⟨T,sz,n,0,0,g⟩]) (hc:∀ i j,i<n->j<sz->(g i j).clos=true) (ha:args.all V.clos=true):FnOK P r f args (.c (.row sz n g)):=by
 refine⟨h.1,fun D w vs hD hU hargs=>?_⟩
 have hDof:∀ b,Dof D [] [] b->D b:=by
  rintro b (h | ⟨k,l,B,h1,_⟩)
  ·exact h
  ·simp at h1
 have hs0:Sat D ⟨w,fun _=>False⟩ r [] [] w:=⟨⟨rfl,rfl,rfl,Nat.le_refl _,fun _ _ _=>rfl⟩,fun b hb=>⟨hD b hb,id⟩,rfl,fun k l B h1 _=>by simp at h1,fun i j li lj Bi Bj b h1=>by simp at h1,fun hr b o d hb=>hU hr b o d (hDof b hb)⟩
 obtain⟨hs1,hd1⟩:=hs0.ph
 have hargs2:VRels (Dof D ([]++[phL]) ([]++[phB])) w ([]++[phL]) args vs:=(hargs.clos ha).step (fun b _ hb=>hDof b ((hd1 b).1 hb))
 refine(h.2 D ⟨w,fun _=>False⟩ phL w vs hs1 hargs2).mono ?_
 rintro e w' ⟨v,l',ρ',rfl,hs,_,hv⟩
 refine⟨v,rfl,?_,⟨hs.below.os,hs.below.tape,hs.below.output,hs.below.size,fun k hk=>hs.below.block k hk id⟩⟩
 obtain⟨l,l1,_,l3⟩:=hv
 have hat:=hs.at_ 1 l _ l1 rfl (Nat.zero_le _)
 have ev:=l3 hat.1
 rcases hat.2 with⟨p1,p2,p3⟩ | ⟨b,cap,cs,p2,p3,p4,p5,p6,p7,p8,p9⟩
 ·have p1:n=0:=p1
  exact⟨none,0,by rw[ev,p3,p1],by omega,fun h=>by omega⟩
 ·refine⟨some ⟨b,0,none⟩,cap,by rw[ev,p4],p7,fun hn=>⟨b,0,rfl,heap_lt p5,fun hb=>?_,fun i j hi hj=>?_⟩⟩
  ·have h1:=hD b hb
   rcases hs.own l1 rfl (Nat.zero_le _) p2 with h2 | h2
   ·have h2:w.heap.size≤b:=h2
    omega
   ·exact h2
  ·obtain⟨u,hu,hr⟩:=p9 i j hi hj
   refine⟨u,?_,?_⟩
   ·simp only[World.cell?,p5]
    simp[hu]
   ·exact(hr.clos (hc i j hi hj)).step (Ext.refl _ _) (fun b _ hb => .inl hb) (LocsLe.refl _)
section
variable {p:Int} [hp:Prm p]
noncomputable def hlv (d:Nat) (f t:Pol (Zp p)):Pol (Zp p):=if p=2 then(hv2 f t (d-1)).1 else Pol.rm (Crg.pw t (p.toNat^d / 2)) f-1
theorem halves_P (hm:Fp.md p) {d:Nat} {f t:Pol (Zp p)} (hd:1≤d) (hd2:d≤64) (hf:f≠0) (lf:f.len≤1024) (lt:t.len≤1024):FnOK Tryz.prog true 133 [.c (.int .i64 p),.c (.int .i64 d),pl f,pl t] (pl (hlv d f t))/\(hlv d f t).len≤1024:=by
 unfold hlv
 by_cases h2:p=2
 ·rw[if_pos h2]
  exact⟨halves_two hm h2 hd hd2 hf lf lt,(hv2_len hf lt lf _).1⟩
 ·rw[if_neg h2]
  refine⟨halves_odd hm h2 hd hd2 hf lf (by omega),?_⟩
  have h3:=(Pol.rm_spec (Crg.pw t (p.toNat^d / 2)) hf).2
  have h4:=Pol.len_sub (Pol.rm (Crg.pw t (p.toNat^d / 2)) f) 1
  rw[Pol.len_one]at h4
  omega
theorem two_dvs {P S f:Pol (Zp p)} (hP:Pol.Irr P) (hS:Pol.Irr S) (lP:P.lead=1) (lS:S.lead=1) (hne:P≠S) (dP:Pol.Dvs P f) (dS:Pol.Dvs S f) (h0:f≠0):P.len+S.len≤f.len+1:=by
 rcases hP.or S with h | h
 ·exact absurd (hP.eq hS lP lS h) hne
 ·have h1:=(h.both dP dS).len h0
  have h2:=Pol.len_mul hP.ne hS.ne
  omega
abbrev Proper (f g:Pol (Zp p)):Prop:=1<g.len/\g.len<f.len
noncomputable def trl (f:Pol (Zp p)) (n:Nat):Pol (Zp p):=Pol.rm (dgp p n) f
theorem trial_ex (hm:Fp.md p) {d:Nat} {f:Pol (Zp p)} (hd:1≤d) (h:Eqd d f) (hl:d+1<f.len) (hl2:f.len≤65):∃ n,p.toNat≤n/\n<2^50/\(Proper f (Pol.gd f (trl f n))∨Proper f (Pol.gd f (hlv d f (trl f n)))):=by
 have hm1:=hm.1
 have hm2:=hm.2.1
 obtain⟨P,S,hP,hS,lP,lS,nP,nS,hne,dP,dS⟩:=h.two hl hd
 have hb:=two_dvs hP hS lP lS hne dP dS h.ne
 obtain⟨n,h1,h2,h3⟩:=part_ex (p:=p) (by omega) hd (by omega) hP hS lP lS nP nS hne dP dS
 refine⟨n,h1,h2,?_⟩
 have c1:Pol.Cgr f (dgp p n) (trl f n):=(Pol.rm_spec (dgp p n) h.ne).1
 have l1:(trl f n).len<f.len:=(Pol.rm_spec (dgp p n) h.ne).2
 rcases h3 with h3 | ⟨ho,h3⟩
 ·exact .inl (splits_gcd (splits_cgr h3 c1) (gd_P hm (by omega) (by omega) (.inl h.ne)).1 h.ne)
 ·right
  have hp2:p≠2:=by
   intro e
   have:p.toNat=2:=by omega
   omega
  have e:(p.toNat^d-1) / 2=p.toNat^d / 2:=by
   have:p.toNat^d%2=1:=by rw[Nat.pow_mod,ho,Nat.one_pow]
   omega
  have hl:=(halves_P hm (d:=d) (f:=f) (t:=trl f n) hd (by omega) h.ne (by omega) (by omega)).2
  refine splits_gcd (splits_cgr h3 ?_) (gd_P hm (by omega) (by omega) (.inl h.ne)).1 h.ne
  unfold hlv
  rw[if_neg hp2,e]
  exact((c1.pw _).trans (Pol.rm_spec _ h.ne).1).sub (Pol.Cgr.refl f 1)
noncomputable abbrev lB (l:List (Pol (Zp p))):Gx:=⟨24,1,l.length,pcs fun i=>l.getD i 0⟩
theorem sep_two {d:Nat} {f g:Pol (Zp p)} (h:Eqd d f) (hl:g.lead=1) (hd:Pol.Dvs g f) (h0:g≠0) (_:Proper f g):Eqd d g/\Eqd d (Pol.qo f g)/\(Pol.qo f g).len+g.len=f.len+1/\∀ l m,IrL g l->IrL (Pol.qo f g) m->IrL f (l++m):=by
 have e:=qo_dvs h0 hd
 obtain⟨q0,_,ql⟩:=lead_quo e h.ne h.lead hl
 have hlen:=Pol.len_mul q0 h0
 rw[← e]at hlen
 exact⟨h.of_dvs hd hl,h.of_dvs ⟨g,e⟩ ql,by omega,fun l m a b=>IrL.app e (fun P hP k=>h.sqf.dis e hP k) a b⟩
end
end Go.Proofs.YtibaocbpeaejkaaGreat
