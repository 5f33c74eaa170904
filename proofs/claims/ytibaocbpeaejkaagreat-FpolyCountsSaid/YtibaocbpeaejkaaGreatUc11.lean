/- Bezout's identity for Euclid's algorithm modulo a prime. -/
import Derived.Test.YtibaocbpeaejkaaGreatUc10
import Derived.Lib.Hide
namespace Go.Proofs.YtibaocbpeaejkaaGreat
namespace Fp
def Cg (p:Int) (A B:Nat->Int):Prop:=∀ k,A k%p=B k%p
theorem Cg.refl {p:Int} (A:Nat->Int):Cg p A A:=fun _=>rfl
theorem Cg.trans {p:Int} {A B C:Nat->Int} (h:Cg p A B) (k:Cg p B C):Cg p A C:=fun i=>(h i).trans (k i)
theorem mod_of {p a b:Int} (z:Int) (h:a=b+p*z):a%p=b%p:=by rw[h,Int.add_mul_emod_self_left]
theorem of_mod {p a b:Int} (h:a%p=b%p):∃ z,a=b+p*z:=by
 have h1:=Int.mul_ediv_add_emod a p
 have h2:=Int.mul_ediv_add_emod b p
 refine⟨a / p-b / p,?_⟩
 rw[Int.mul_sub]
 omega
theorem Cg.add {p:Int} {A B C D:Nat->Int} (h:Cg p A B) (k:Cg p C D):Cg p (fun i=>A i+C i) (fun i=>B i+D i):=fun i=>by
 show(A i+C i)%p=(B i+D i)%p
 rw[Int.add_emod,h i,k i,← Int.add_emod]
theorem Cg.cf {p:Int} {A B C D:Nat->Int} (h:Cg p A B) (k:Cg p C D):Cg p (cf A C) (cf B D):=fun i=>cf_mod h k i
theorem cf_sub (F G H:Nat->Int) (k:Nat):cf F (fun i=>G i-H i) k=cf F G k-cf F H k:=by
 have h:=cf_add F (fun i=>G i-H i) H k
 have e:(fun i=>G i-H i+H i)=G:=by funext i;omega
 rw[e]at h
 omega
theorem cf_add' (F G H:Nat->Int) (k:Nat):cf (fun i=>G i+H i) F k=cf G F k+cf H F k:=by
 rw[cf_comm,cf_add,cf_comm F G,cf_comm F H]
theorem cf_sub' (F G H:Nat->Int) (k:Nat):cf (fun i=>G i-H i) F k=cf G F k-cf H F k:=by
 rw[cf_comm,cf_sub,cf_comm F G,cf_comm F H]
theorem cf_asc (F G H:Nat->Int):cf (cf F G) H=cf F (cf G H):=funext fun k=>cf_assoc F G H k
theorem cf_com (F G:Nat->Int):cf F G=cf G F:=funext fun k=>cf_comm F G k
def oneF:Nat->Int:=fun i=>if i=0 then 1 else 0
theorem cf_one (F:Nat->Int):cf oneF F=F:=by
 funext k
 unfold cf
 rw[su_head]
 have e:su (fun i=>oneF (i+1)*F (k-(i+1))) k=0:=su_zero fun i _=>by
  show(if i+1=0 then 1 else 0)*_=(0:Int)
  rw[if_neg (by omega),Int.zero_mul]
 rw[e]
 show 1*F (k-0)+0=F k
 rw[Int.one_mul,Int.add_zero,Nat.sub_zero]
theorem cf_nil (F:Nat->Int):cf (fun _=>0) F=fun _=>0:=funext fun _=>su_zero fun _ _=>Int.zero_mul _
def Fin (F:Nat->Int):Prop:=∃ n,∀ j,n≤j->F j=0
theorem Fin.add {F G:Nat->Int} (h:Fin F) (k:Fin G):Fin fun i=>F i+G i:=by
 obtain⟨n,h⟩:=h
 obtain⟨m,k⟩:=k
 exact⟨max n m,fun j hj=>by show F j+G j=0;rw[h j (by omega),k j (by omega)];rfl⟩
theorem Fin.sub {F G:Nat->Int} (h:Fin F) (k:Fin G):Fin fun i=>F i-G i:=by
 obtain⟨n,h⟩:=h
 obtain⟨m,k⟩:=k
 exact⟨max n m,fun j hj=>by show F j-G j=0;rw[h j (by omega),k j (by omega)];rfl⟩
theorem Fin.cf {F G:Nat->Int} (h:Fin F) (k:Fin G):Fin (cf F G):=by
 obtain⟨n,h⟩:=h
 obtain⟨m,k⟩:=k
 refine⟨n+m,fun j hj=>su_zero fun i hi=>?_⟩
 rcases Nat.lt_or_ge i n with h1 | h1
 ·rw[k (j-i) (by omega),Int.mul_zero]
 ·rw[h i h1,Int.zero_mul]
theorem Fin.nil:Fin fun _=>0:=⟨0,fun _ _=>rfl⟩
theorem Fin.one:Fin oneF:=⟨1,fun j hj=>if_neg (by omega)⟩
theorem Nm.fin {p:Int} {x:L} (h:NL p x):Fin x.2:=⟨x.1,h.z⟩
theorem no_multiple {p b:Int} {m:Nat} {K G R:Nat->Int} (hK:Fin K) (hG:∀ j,m≤j->G j=0) (h0:0<m) (hb:(b*G (m-1))%p=1%p) (hR:∀ j,m-1≤j->R j=0) (h:Cg p (Fp.cf K G) R):Cg p K fun _=>0:=by
 obtain⟨n,hn⟩:=hK
 suffices hs:∀ d,d≤n->∀ j,n-d≤j->K j%p=0%p by
  intro k
  exact hs n (Nat.le_refl _) k (by omega)
 intro d
 induction d with
 | zero=>exact fun _ j hj=>by rw[hn j (by omega)]
 | succ d ih =>
  intro hd j hj
  have ih:=ih (by omega)
  rcases Nat.lt_or_ge j (n-d)with h1 | h1
  ·have hk:=h (j+(m-1))
   rw[hR _ (by omega)]at hk
   unfold Fp.cf at hk
   -- the sum has but one term that counts
   have e:su (fun i=>K i*G (j+(m-1)-i)) (j+(m-1)+1)%p=su (fun i=>if i=j then K j*G (m-1)else 0) (j+(m-1)+1)%p:=su_mod fun i hi=>by
    by_cases e1:i=j
    ·subst e1
     rw[if_pos rfl,show i+(m-1)-i=m-1 by omega]
    ·rw[if_neg e1]
     rcases Nat.lt_or_ge i j with h2 | h2
     ·rw[hG _ (by omega),Int.mul_zero]
     ·rw[Int.mul_emod,ih i (by omega),← Int.mul_emod,Int.zero_mul]
   rw[e]at hk
   have e2:∀ t,j<t->su (fun i=>if i=j then K j*G (m-1)else 0) t=K j*G (m-1):=by
    intro t
    induction t with
    | zero=>intro h;omega
    | succ t iht =>
     intro ht
     show su _ t+(if t=j then K j*G (m-1)else 0)=_
     by_cases e3:t=j
     ·rw[if_pos e3,su_zero fun i hi=>if_neg (by omega),Int.zero_add]
     ·rw[if_neg e3,iht (by omega),Int.add_zero]
   rw[e2 _ (by omega)]at hk
   obtain⟨z,hk⟩:=of_mod hk
   obtain⟨y,hb⟩:=of_mod hb
   refine mod_of (b*z-K j*y) ?_
   grind
  ·exact ih j h1
theorem pr_cf {p:Int} {x y:L} (hx:NL p x):Cg p (mulL p x y).2 (cf x.2 y.2):=fun k=>by
 show pr p x.2 y.2 x.1 k%p=_
 unfold pr
 rw[cv_cf hx.z,Int.emod_emod]
theorem sub_cg {p:Int} (x y:L):Cg p (subL p x y).2 (fun i=>x.2 i-y.2 i):=fun k=>by
 show sm p (p-1) x.2 y.2 k%p=_
 unfold sm
 rw[Int.emod_emod]
 show(x.2 k+(p-1)*y.2 k)%p=(x.2 k-y.2 k)%p
 exact mod_of (y.2 k) (by rw[Int.sub_mul];omega)
theorem add_cg {p:Int} (x y:L):Cg p (addL p x y).2 (fun i=>x.2 i+y.2 i):=fun k=>by
 show sm p 1 x.2 y.2 k%p=_
 unfold sm
 rw[Int.emod_emod,Int.one_mul]
theorem sc_cg {p c:Int} (x:L):Cg p (scL p c x).2 (fun i=>c*x.2 i):=fun k=>by
 show sc p c x.2 k%p=_
 unfold sc
 rw[Int.emod_emod,Int.mul_emod,Int.emod_emod,← Int.mul_emod]
theorem div_cg {p:Int} {x y:L} (hp:md p) (hx:NL p x) (hy:NL p y) (h0:0<y.1):Cg p x.2 (fun k=>cf (quoL p x y).2 y.2 k+(rstL p x y).2 k):=fun k=>by
 have h:(cf (qt p x.1 y.1 x.2 y.2) y.2 k+rs p x.1 y.1 x.2 y.2 k)%p=x.2 k:=hx.div hp hy h0 k
 show x.2 k%p=(cf (qt p x.1 y.1 x.2 y.2) y.2 k+rs p x.1 y.1 x.2 y.2 k)%p
 rw[h,Int.emod_eq_of_lt (hx.r k).1 (hx.r k).2]
theorem Nm.eq {p:Int} {x y:L} (hx:NL p x) (hy:NL p y) (h:Cg p x.2 y.2):x=y:=by
 have e:x.2=y.2:=funext fun k=>by
  have:=h k
  rwa [Int.emod_eq_of_lt (hx.r k).1 (hx.r k).2,Int.emod_eq_of_lt (hy.r k).1 (hy.r k).2]at this
 have e1:x.1=y.1:=by
  have h1:=hx.l
  have h2:=hy.l
  rcases Nat.lt_trichotomy x.1 y.1 with h | h | h
  ·exact absurd (by rw[← e];exact hx.z _ (by omega)) (h2 (by omega))
  ·exact h
  ·exact absurd (by rw[e];exact hy.z _ (by omega)) (h1 (by omega))
 exact Prod.ext e1 e
noncomputable abbrev one1:L:=(1,oneF)
noncomputable abbrev nil0:L:=(0,fun _=>0)
noncomputable abbrev xgr (p:Int) (f g:L):L × L:=xg p g.1 f g one1 nil0
noncomputable abbrev xgb (p:Int) (f g:L):Int:=inv ((xgr p f g).1.2 ((xgr p f g).1.1-1)) p
noncomputable abbrev xgd (p:Int) (f g:L):L:=scL p (xgb p f g) (xgr p f g).1
noncomputable abbrev xgper (p:Int) (f g:L):L:=quoL p g (xgd p f g)
noncomputable abbrev xgu (p:Int) (f g:L):L:=rstL p (scL p (xgb p f g) (xgr p f g).2) (xgper p f g)
noncomputable abbrev xgw (p:Int) (f g:L):L:=subL p (xgd p f g) (mulL p (xgu p f g) f)
noncomputable abbrev xgv (p:Int) (f g:L):L:=quoL p (xgw p f g) g
theorem NL.one {p:Int} (hp:md p):NL p one1:=⟨by show 1≤4096;omega,fun i=>by
 show 0≤(if i=0 then(1:Int)else 0)/\(if i=0 then(1:Int)else 0)<p
 have:=hp.1
 split <;> omega,fun j hj=>if_neg (by have hj:1≤j:=hj;omega),rfl⟩
structure Xgs (p : Int) (f g : L) : Prop where
 r:NL p (xgr p f g).1
 u0:NL p (xgr p f g).2
 r0:0<(xgr p f g).1.1
 rl:(xgr p f g).1.1≤512
 d:NL p (xgd p f g)
 d0:0<(xgd p f g).1
 per:NL p (xgper p f g)
 per0:0<(xgper p f g).1
 u:NL p (xgu p f g)
 ul:(xgu p f g).1<g.1+1
 w:NL p (xgw p f g)
 v:NL p (xgv p f g)
 vl:(xgv p f g).1≤1536
 bez:Cg p (fun k=>cf (xgu p f g).2 f.2 k+cf (xgv p f g).2 g.2 k) (xgd p f g).2
end Fp
end Go.Proofs.YtibaocbpeaejkaaGreat
/- Digits of large integers: trimmed, Sign, Bits, and the document's trim, Norm, Sign, Of. -/
namespace Go.Proofs.YtibaocbpeaejkaaGreat
open Go.RowKit
namespace Fp
abbrev dl (q:Nat) (d:Nat->Int):Cell := .row 1 q fun i _ => .int .u32 (d i)
abbrev bi (s:Bool) (q:Nat) (d:Nat->Int):V := .g [.bool s,dl q d]
theorem subRowD {n m:Nat} {a b:Nat->Int} (h:n=m) (h2:∀ i,i<m->a i=b i):Sub (.c (dl n a)) (.c (dl m b)) :=
 subRowG h fun i _ hi _=>congrArg (Cell.int .u32) (h2 i hi)
theorem subBi {s s':Bool} {n m:Nat} {a b:Nat->Int} (hs:s=s') (h:n=m) (h2:∀ i,i<m->a i=b i):Sub (bi s n a) (bi s' m b):=by
 subst hs
 rintro D w v ⟨vs,e,hr⟩
 refine⟨vs,e,?_⟩
 match hvs:vs.toList with
 | [_,_] =>
  rw[hvs]at hr
  exact⟨hr.1,subRowD h h2 D w _ hr.2.1,trivial⟩
 | [] | [_] | _ :: _ :: _ :: _=>rw[hvs]at hr;simp[CRels]at hr
set_option maxHeartbeats 4000000 in
theorem btrimmed_ok {n:Nat} {a:Nat->Int} (hn:n≤1048576):FnOK Tryz.prog false 83 [.c (dl n a)] (.c (dl (tl a n) a)):=by
 refine fn_ok (E:=E0) E0_ok Tryz.func83 rfl mixed (by kernel_rfl) (by kernel_rfl) ?_
 conv=>whnf
 refine loop_ints (fun m:Nat=>ist [(0,.c (dl m a))] []) (fun m=>m) (fun m=>m≤n/\tl a m=tl a n) n rfl (Weak.ints [] rfl trivial ⟨⟨_,_,rfl,rfl,fun _ _ _ _=>rfl⟩,trivial⟩) ⟨by omega,rfl⟩ fun m ⟨hm,ht⟩=>?_
 conv=>whnf
 refine bcase (fun(h:gw true (decide ((0:Int)<m))=true)=>?_) fun(h:gw true (decide ((0:Int)<m))=false)=>?_
 ·have h:=of_decide_eq_true (gw_true.1 h)
  obtain⟨k,rfl⟩:∃ k,m=k+1:=⟨m-1,by omega⟩
  have ek:(((k+1:Nat):Int)-1).toNat=k:=by omega
  conv=>whnf
  refine⟨i64 (by omega) (by omega),?_⟩
  conv=>whnf
  refine⟨by omega,by omega,?_⟩
  conv=>whnf
  refine bcase (fun(h1:decide (a (((k+1:Nat):Int)-1).toNat=0)=true)=>?_) fun(h1:decide (a (((k+1:Nat):Int)-1).toNat=0)=false)=>?_
  ·have h1:=of_decide_eq_true h1
   rw[ek]at h1
   conv=>whnf
   refine⟨i64 (by omega) (by omega),?_⟩
   conv=>whnf
   refine⟨by omega,by omega,?_⟩
   conv=>whnf
   refine⟨by omega,?_⟩
   conv=>whnf
   refine⟨k,by omega,Weak.ints [] rfl trivial ⟨⟨_,_,rfl,?_,fun i j hi hj=>?_⟩,trivial⟩,by omega,by rw[← ht];simp[tl,h1]⟩
   ·omega
   ·show Cell.int .u32 (a (Int.toNat 0+i))=_
    rw[show Int.toNat 0+i=i by omega]
  ·have h1:=of_decide_eq_false h1
   rw[ek]at h1
   conv=>whnf
   exact⟨rfl,subRowD (by rw[← ht];simp[tl,h1]) fun _ _=>rfl⟩
 ·have h:¬(0:Int)<m:=of_decide_eq_false (gw_false.1 h)
  obtain rfl:m=0:=by omega
  conv=>whnf
  exact⟨rfl,subRowD (by rw[← ht];rfl) fun _ _=>rfl⟩
set_option maxHeartbeats 4000000 in
theorem rtrim_ok {n:Nat} {a:Nat->Int} (hn:n≤1048576):FnOK Tryz.prog false 47 [.c (dl n a)] (.c (dl (tl a n) a)):=by
 refine fn_ok (E:=E0) E0_ok Tryz.func47 rfl mixed (by kernel_rfl) (by kernel_rfl) ?_
 conv=>whnf
 refine loop_ints (fun m:Nat=>ist [(0,.c (dl n a)),(3,.c (.int .i64 m))] []) (fun m=>m) (fun m=>m≤n/\tl a m=tl a n) n rfl (Weak.ints [] rfl trivial ⟨⟨_,_,rfl,rfl,fun _ _ _ _=>rfl⟩,⟨_,rfl,rfl⟩,trivial⟩) ⟨by omega,rfl⟩ fun m ⟨hm,ht⟩=>?_
 conv=>whnf
 refine bcase (fun(h:gw true (decide ((0:Int)<m))=true)=>?_) fun(h:gw true (decide ((0:Int)<m))=false)=>?_
 ·have h:=of_decide_eq_true (gw_true.1 h)
  obtain⟨k,rfl⟩:∃ k,m=k+1:=⟨m-1,by omega⟩
  have ek:(((k+1:Nat):Int)-1).toNat=k:=by omega
  conv=>whnf
  refine⟨i64 (by omega) (by omega),?_⟩
  conv=>whnf
  refine⟨by omega,by omega,?_⟩
  conv=>whnf
  refine bcase (fun(h1:decide (a (((k+1:Nat):Int)-1).toNat=0)=true)=>?_) fun(h1:decide (a (((k+1:Nat):Int)-1).toNat=0)=false)=>?_
  ·have h1:=of_decide_eq_true h1
   rw[ek]at h1
   conv=>whnf
   refine⟨i64 (by omega) (by omega),?_⟩
   conv=>whnf
   exact⟨k,by omega,Weak.ints [] rfl trivial ⟨⟨_,_,rfl,rfl,fun _ _ _ _=>rfl⟩,⟨_,rfl,by omega⟩,trivial⟩,by omega,by rw[← ht];simp[tl,h1]⟩
  ·have h1:=of_decide_eq_false h1
   rw[ek]at h1
   have hx:tl a n=k+1:=by rw[← ht];simp[tl,h1]
   rw[hx]
   conv=>whnf
   refine⟨by omega,by omega,?_⟩
   conv=>whnf
   refine⟨by omega,?_⟩
   conv=>whnf
   refine⟨by show 0+(((k+1:Nat):Int)-0).toNat≤16777216;omega,fun x y hx hy=>⟨rfl,fun h=>by cases h⟩,?_⟩
   conv=>whnf
   refine⟨fun i j hi hj=>?_,?_⟩
   ·show(appF 0 (rowF 1 []) (fun i _=>Cell.int .u32 (a (Int.toNat 0+i))) i j).clos=true
    rw[appF_zero]
    rfl
   conv=>whnf
   refine⟨rfl,subRowG (by show 0+(((k+1:Nat):Int)-0).toNat=k+1;omega) fun i j hi hj=>?_⟩
   show appF 0 (rowF 1 []) (fun i _=>Cell.int .u32 (a (Int.toNat 0+i))) i j=_
   rw[appF_zero,show Int.toNat 0+i=i by omega]
 ·have h:¬(0:Int)<m:=of_decide_eq_false (gw_false.1 h)
  obtain rfl:m=0:=by omega
  have hx:tl a n=0:=by rw[← ht];rfl
  rw[hx]
  conv=>whnf
  refine⟨by omega,by omega,?_⟩
  conv=>whnf
  refine⟨by omega,?_⟩
  conv=>whnf
  refine⟨by show 0+(((0:Nat):Int)-0).toNat≤16777216;omega,fun x y hx hy=>⟨rfl,fun h=>by cases h⟩,?_⟩
  conv=>whnf
  refine⟨fun i j hi hj=>?_,?_⟩
  ·show(appF 0 (rowF 1 []) (fun i _=>Cell.int .u32 (a (Int.toNat 0+i))) i j).clos=true
   rw[appF_zero]
   rfl
  conv=>whnf
  refine⟨rfl,subRowG (by show 0+(((0:Nat):Int)-0).toNat=0;omega) fun i j hi hj=>?_⟩
  show appF 0 (rowF 1 []) (fun i _=>Cell.int .u32 (a (Int.toNat 0+i))) i j=_
  rw[appF_zero,show Int.toNat 0+i=i by omega]
set_option maxHeartbeats 4000000 in
theorem rnorm_ok {n:Nat} {a:Nat->Int} {s:Bool} (hn:n≤1048576):FnOK Tryz.prog false 37 [bi s n a] (bi (s&&decide (0<tl a n)) (tl a n) a):=by
 have h:=rtrim_ok (a:=a) hn
 refine fn_ok (E:=E0) E0_ok Tryz.func37 rfl mixed (by kernel_rfl) (by kernel_rfl) ?_
 cases s with
 | true =>
  conv=>whnf
  refine⟨_,h,?_⟩
  conv=>whnf
  refine⟨rfl,subBi ?_ rfl fun _ _=>rfl⟩
  rw[Bool.true_and]
  exact decide_eq_decide.2 ⟨fun h=>by omega,fun h=>by omega⟩
 | false =>
  conv=>whnf
  refine⟨_,h,?_⟩
  conv=>whnf
  exact⟨rfl,subBi rfl rfl fun _ _=>rfl⟩
set_option maxHeartbeats 4000000 in
theorem rsigned_ok {n:Nat} {a:Nat->Int} {s:Bool} (hn:n≤1048576):FnOK Tryz.prog false 43 [.c (.bool s),.c (dl n a)] (bi (s&&decide (0<tl a n)) (tl a n) a):=by
 have h:=rnorm_ok (a:=a) (s:=s) hn
 refine fn_ok (E:=E0) E0_ok Tryz.func43 rfl mixed (by kernel_rfl) (by kernel_rfl) ?_
 conv=>whnf
 refine⟨_,h,?_⟩
 conv=>whnf
 exact⟨rfl,Sub.refl _⟩
set_option maxHeartbeats 4000000 in
theorem rof_ok {p:Int} (hp:0<p) (hp2:p≤65521):FnOK Tryz.prog false 12 [.c (.int .i64 p)] (bi false 1 fun _=>p):=by
 refine fn_ok (E:=E0) E0_ok Tryz.func12 rfl mixed (by kernel_rfl) (by kernel_rfl) ?_
 conv=>whnf
 refine bneg (show decide (p<0)=false by simp;omega) ?_
 conv=>whnf
 refine⟨by omega,?_⟩
 conv=>whnf
 refine⟨fun i j hi hj=>?_,?_⟩
 ·match i,j,hi,hj with
  | 0,0,_,_=>rfl
  | 1,0,_,_=>rfl
 conv=>whnf
 refine⟨_,arg_ok (rsigned_ok (n:=2) (a:=fun i=>if i=0 then p else 0) (s:=false) (by omega)) (fun D w vs h=>?_),?_⟩
 ·match vs,h with
  | [v0,v1],⟨h0,h1,_⟩ =>
   refine⟨?_,subRowG rfl (fun i j hi hj=>?_) D w v1 h1,trivial⟩
   ·have h0:v0 = .bool (decide (p<0)):=h0
    rw[h0,decide_eq_false (by omega)]
    exact rfl
   ·have w1:IntKind.u64.wrap p=p:=by simp[IntKind.wrap,IntKind.signed,IntKind.bits];omega
    have w2:IntKind.u32.wrap p=p:=by simp[IntKind.wrap,IntKind.signed,IntKind.bits];omega
    match i,j,hi,hj with
    | 0,0,_,_ =>
     show Cell.int .u32 (IntKind.u32.wrap (IntKind.u64.wrap p)) = .int .u32 p
     rw[w1,w2]
    | 1,0,_,_ =>
     show Cell.int .u32 (IntKind.u32.wrap (Int.fdiv (IntKind.u64.wrap p) (2^32))) = .int .u32 0
     rw[w1,show Int.fdiv p (2^32)=0 by rw[Int.fdiv_eq_ediv_of_nonneg _ (by decide)];exact Int.ediv_eq_zero_of_lt (by omega) (by omega)]
     rfl
 ·conv=>whnf
  refine⟨rfl,subBi rfl ?_ fun i hi=>?_⟩
  ·show(if(0:Int)=0 then(if p=0 then 0 else 1)else 2)=1
   rw[if_pos rfl,if_neg (by omega)]
  ·obtain rfl:i=0:=by omega
   rfl
end Fp
namespace Bt
theorem retI {k:IntKind} {a b:Int} (h:a=b):Ending.returned (.int k a) = .returned (.int k b):=by rw[h]
set_option maxRecDepth 100000
def lenTab:ByteArray:={ data:=#[0,1,2,2,3,3,3,3,4,4,4,4,4,4,4,4,5,5,5,5,5,5,5,5,5,5,5,5,5,5,5,5,6,6,6,6,6,6,6,6,6,6,6,6,6,6,6,6,6,6,6,6,6,6,6,6,6,6,6,6,6,6,6,6,7,7,7,7,7,7,7,7,7,7,7,7,7,7,7,7,7,7,7,7,7,7,7,7,7,7,7,7,7,7,7,7,7,7,7,7,7,7,7,7,7,7,7,7,7,7,7,7,7,7,7,7,7,7,7,7,7,7,7,7,7,7,7,7,8,8,8,8,8,8,8,8,8,8,8,8,8,8,8,8,8,8,8,8,8,8,8,8,8,8,8,8,8,8,8,8,8,8,8,8,8,8,8,8,8,8,8,8,8,8,8,8,8,8,8,8,8,8,8,8,8,8,8,8,8,8,8,8,8,8,8,8,8,8,8,8,8,8,8,8,8,8,8,8,8,8,8,8,8,8,8,8,8,8,8,8,8,8,8,8,8,8,8,8,8,8,8,8,8,8,8,8,8,8,8,8,8,8,8,8,8,8,8,8,8,8,8,8,8,8,8,8] }
theorem lenTab_size:lenTab.size=256:=by decide +kernel
theorem lenTab_all:∀ i:Fin 256,0<i.1->1≤(lenTab.data.toList[i.1]?.getD 0).toNat/\(lenTab.data.toList[i.1]?.getD 0).toNat≤8/\2^((lenTab.data.toList[i.1]?.getD 0).toNat-1)≤i.1/\i.1<2^(lenTab.data.toList[i.1]?.getD 0).toNat:=by decide +kernel
theorem lenTab_at (i:Nat) (h:i<lenTab.size) (h0:0<i):1≤lenTab[i].toNat/\lenTab[i].toNat≤8/\2^(lenTab[i].toNat-1)≤i/\i<2^lenTab[i].toNat:=by
 have h2:i<256:=h
 have:=lenTab_all ⟨i,h2⟩ h0
 have e:lenTab.data.toList[i]?.getD 0=lenTab[i]:=by
  rw[List.getElem?_eq_getElem (show i<lenTab.data.toList.length from h2)];rfl
 have h3:1≤(lenTab.data.toList[i]?.getD 0).toNat/\(lenTab.data.toList[i]?.getD 0).toNat≤8/\2^((lenTab.data.toList[i]?.getD 0).toNat-1)≤i/\i<2^(lenTab.data.toList[i]?.getD 0).toNat:=this
 rwa [e]at h3
theorem len_fin {x y k t:Nat} (hy:y=x / 2^k) (h1:1≤t) (h2:2^(t-1)≤y) (h3:y<2^t):2^(k+t-1)≤x/\x<2^(k+t):=by
 subst hy
 have hp:0<2^k:=Nat.pow_pos (by omega)
 constructor
 ·rw[show k+t-1=(t-1)+k from by omega,Nat.pow_add]
  exact(Nat.le_div_iff_mul_le hp).1 h2
 ·rw[Nat.add_comm k t,Nat.pow_add]
  exact(Nat.div_lt_iff_lt_mul hp).1 h3
def IsLen (X:Int) (n:Nat):Prop:=1≤n/\n≤32/\2^(n-1)≤X.toNat/\X.toNat<2^n
theorem isLen_of {X Y:Int} {k:Nat} (hk:k≤24) (hY:Y.toNat=X.toNat / 2^k) (h:Y.toNat<lenTab.size) (h0:0<Y.toNat):IsLen X (k+lenTab[Y.toNat].toNat):=by
 obtain⟨h1,h2,h3,h4⟩:=lenTab_at Y.toNat h h0
 have:=len_fin hY h1 h3 h4
 exact⟨by omega,by omega,this.1,this.2⟩
theorem len_sum (a:Int) (t:Nat) (h0:0≤a) (h1:a≤24) (ht:t≤8):wrap64 (a+wrap64 (t:Int))=((a.toNat+t:Nat):Int):=by
 rw[IntWalk.wrap64_in (t:Int) ⟨by omega,by omega⟩,IntWalk.wrap64_in _ ⟨by omega,by omega⟩];omega
def LenPost (X:Int) (w:World) (e:Ending) (w':World):Prop:=∃ n:Nat,e = .returned (.int .i64 n)/\IsLen X n/\w=w'
set_option maxRecDepth 100000 in
set_option maxHeartbeats 1000000 in
theorem len32_any (X : Int) (w : World) (h0 : 0 < X) (h1 : X < 4294967296) :
  Calls Tryz.prog 119 #[.int .u32 X] w (LenPost X w):=by
 by_cases c1:65536≤X
 ·have hd1:decide (65536≤X)=true:=by simp;omega
  by_cases c2:16777216≤X
  ·have hd2:decide (256≤X / 65536)=true:=by simp;omega
   have hl:(X / 65536 / 256).toNat<lenTab.size:=by rw[lenTab_size];omega
   have L:=Lib.hid (isLen_of (X:=X) (k:=24) (Y:=X / 65536 / 256) (by omega) (by simp only[show(2:Nat)^24=16777216 from rfl];omega) hl (by omega))
   have hT:=Lib.hid (lenTab_at _ hl (by omega))
   have hb1:0≤X / 65536 / 256:=by omega
   have hb2:X / 65536 / 256<256:=by omega
   go_enter Tryz.func119,Tryz.ntmps119
   go_wp2
   go_ret
   exact⟨_,retI (len_sum 24 _ (by omega) (by omega) hT.out.2.1),L.out,rfl⟩
  ·have hd2:decide (256≤X / 65536)=false:=by simp;omega
   have hl:(X / 65536).toNat<lenTab.size:=by rw[lenTab_size];omega
   have L:=Lib.hid (isLen_of (X:=X) (k:=16) (Y:=X / 65536) (by omega) (by simp only[show(2:Nat)^16=65536 from rfl];omega) hl (by omega))
   have hT:=Lib.hid (lenTab_at _ hl (by omega))
   have hb1:0≤X / 65536:=by omega
   have hb2:X / 65536<256:=by omega
   go_enter Tryz.func119,Tryz.ntmps119
   go_wp2
   go_ret
   exact⟨_,retI (len_sum 16 _ (by omega) (by omega) hT.out.2.1),L.out,rfl⟩
 ·have hd1:decide (65536≤X)=false:=by simp;omega
  by_cases c2:256≤X
  ·have hd2:decide (256≤X)=true:=by simp;omega
   have hl:(X / 256).toNat<lenTab.size:=by rw[lenTab_size];omega
   have L:=Lib.hid (isLen_of (X:=X) (k:=8) (Y:=X / 256) (by omega) (by simp only[show(2:Nat)^8=256 from rfl];omega) hl (by omega))
   have hT:=Lib.hid (lenTab_at _ hl (by omega))
   have hb1:0≤X / 256:=by omega
   have hb2:X / 256<256:=by omega
   go_enter Tryz.func119,Tryz.ntmps119
   go_wp2
   go_ret
   exact⟨_,retI (len_sum 8 _ (by omega) (by omega) hT.out.2.1),L.out,rfl⟩
  ·have hd2:decide (256≤X)=false:=by simp;omega
   have hl:X.toNat<lenTab.size:=by rw[lenTab_size];omega
   have L:=Lib.hid (isLen_of (X:=X) (k:=0) (Y:=X) (by omega) (by simp) hl (by omega))
   have hT:=Lib.hid (lenTab_at _ hl (by omega))
   have hb1:0≤X:=by omega
   have hb2:X<256:=by omega
   go_enter Tryz.func119,Tryz.ntmps119
   go_wp2
   go_ret
   exact⟨_,retI (by have:=len_sum 0 (lenTab[X.toNat]'hl).toNat (by omega) (by omega) hT.out.2.1;rw[Int.zero_add]at this;exact this),L.out,rfl⟩
end Bt
namespace Fp
open Bt
def lb (X:Int):Nat:=Nat.log2 X.toNat+1
theorem isLen_lb {X:Int} {n:Nat} (h:IsLen X n):n=lb X:=by
 obtain⟨h1,_,h3,h4⟩:=h
 have h0:X.toNat≠0:=by
  have:=Nat.pow_pos (n:=n-1) (show 0<2 by decide)
  omega
 have e1:=(Nat.le_log2 h0).2 h3
 have e2:=(Nat.log2_lt h0).2 h4
 unfold lb
 omega
theorem len_ok {X:Int} (h0:0<X) (h1:X<4294967296):FnOK Tryz.prog false 119 [.c (.int .u32 X)] (.c (.int .i64 (lb X))):=by
 refine⟨by kernel_rfl,fun D w vs _ _ hargs=>?_⟩
 match vs,hargs with
 | [v0],⟨e0,_⟩ =>
  obtain rfl:v0 = .int .u32 X:=e0
  refine(len32_any X w h0 h1).mono ?_
  rintro e w' ⟨n,rfl,hn,rfl⟩
  exact⟨_,rfl,by rw[isLen_lb hn];exact rfl,Below.refl _ _⟩
def nb (a:Nat->Int) (m:Nat):Nat:=if m=0 then 0 else 32*(m-1)+lb (a (m-1))
theorem lb_le {X:Int} (h1:X<4294967296):lb X≤32:=by
 unfold lb
 rcases Nat.eq_zero_or_pos X.toNat with h | h
 ·rw[h];decide
 ·have:=(Nat.log2_lt (n:=X.toNat) (k:=32) (by omega)).2 (by omega)
  omega
theorem lb_lt {X:Int}:X.toNat<2^lb X:=Nat.lt_log2_self
theorem nb_le {a:Nat->Int} {m:Nat} (ha:∀ i,0≤a i/\a i<4294967296):nb a m≤32*m:=by
 unfold nb
 have:=lb_le (ha (m-1)).2
 split <;> omega
set_option maxHeartbeats 4000000 in
theorem bits_ok {n:Nat} {a:Nat->Int} {s:Bool} (hn:n≤1048576) (ha:∀ i,0≤a i/\a i<4294967296):FnOK Tryz.prog false 80 [bi s n a] (.c (.int .i64 (nb a (tl a n)))):=by
 have h:=btrimmed_ok (a:=a) hn
 have hle:=tl_le a n
 have hlast:0<tl a n->a (tl a n-1)≠0:=tl_last
 generalize tl a n=m at *
 refine fn_ok (E:=E0) E0_ok Tryz.func80 rfl mixed (by kernel_rfl) (by kernel_rfl) ?_
 conv=>whnf
 refine⟨_,h,?_⟩
 conv=>whnf
 refine bcase (fun(h1:decide ((m:Int)=0)=true)=>?_) fun(h1:decide ((m:Int)=0)=false)=>?_
 ·have h1:=of_decide_eq_true h1
  obtain rfl:m=0:=by omega
  conv=>whnf
  exact⟨rfl,Sub.refl _⟩
 ·have h1:=of_decide_eq_false h1
  have h2:=hlast (by omega)
  have h3:=ha (m-1)
  have h4:=lb_le h3.2
  have em:((m:Int)-1).toNat=m-1:=by omega
  have hl:=len_ok (X:=a (m-1)) (by omega) h3.2
  rw[← em]at hl
  conv=>whnf
  refine⟨i64 (by omega) (by omega),?_⟩
  conv=>whnf
  refine⟨i64 (by omega) (by omega),?_⟩
  conv=>whnf
  refine⟨i64 (by omega) (by omega),?_⟩
  conv=>whnf
  refine⟨by omega,by omega,?_⟩
  conv=>whnf
  refine⟨_,hl,?_⟩
  conv=>whnf
  rw[em]
  refine⟨i64 (by omega) (by omega),?_⟩
  conv=>whnf
  refine⟨rfl,subI ?_⟩
  unfold nb
  rw[if_neg (by omega)]
  omega
end Fp
end Go.Proofs.YtibaocbpeaejkaaGreat
/- Xgcd of the program. -/
namespace Go.Proofs.YtibaocbpeaejkaaGreat
open Go.RowKit
namespace Fp
noncomputable abbrev nfL (p:Int) (x:L):L:=(tl (nf p x.1 x.2) x.1,nf p x.1 x.2)
theorem NL.nfL {p:Int} {x:L} (hp:md p) (h:x.1≤4096):NL p (nfL p x):=Nm.nf (by have:=hp.1;omega) h
theorem nfL_le (p:Int) (x:L):(nfL p x).1≤x.1:=tl_le _ _
theorem normal_L {p:Int} {x:L} (hp:md p) (h:x.1≤4096):FnOK Tryz.prog false 70 [.c (.int .i64 p),cl x] (cl (nfL p x)):=normal_ok (by have:=hp.1;omega) hp.2.1 (by omega)
-- g is nothing
noncomputable abbrev moL (p:Int) (x:L):L:=scL p (inv (x.2 (x.1-1)) p) x
theorem monic_L {p:Int} {x:L} (hp:md p) (hx:NL p x):FnOK Tryz.prog false 61 [.c (.int .i64 p),cl x] (cl (moL p x)):=monic_ok hp hx.n4 hx.r hx.z hx.l
end Fp
end Go.Proofs.YtibaocbpeaejkaaGreat
/- Powers modulo a polynomial, plain. -/
namespace Go.Proofs.YtibaocbpeaejkaaGreat
namespace Fp
def Cm (p:Int) (m A B:Nat->Int):Prop:=∃ K,Fin K/\Cg p A fun k=>B k+cf K m k
theorem Cm.of {p:Int} {m A B:Nat->Int} (h:Cg p A B):Cm p m A B:=⟨fun _=>0,Fin.nil,h.trans fun k=>by
 show B k%p=(B k+cf (fun _=>0) m k)%p
 rw[cf_nil,Int.add_zero]⟩
theorem Cm.symm {p:Int} {m A B:Nat->Int} (h:Cm p m A B):Cm p m B A:=by
 obtain⟨K,fK,h⟩:=h
 refine⟨fun k=>0-K k,Fin.nil.sub fK,fun k=>?_⟩
 dsimp only
 rw[cf_sub',cf_nil]
 dsimp only
 obtain⟨z,hz⟩:=of_mod (h k)
 have hz:A k=B k+cf K m k+p*z:=hz
 exact mod_of (-z) (by rw[Int.mul_neg];omega)
theorem Cm.trans {p:Int} {m A B C:Nat->Int} (h:Cm p m A B) (h2:Cm p m B C):Cm p m A C:=by
 obtain⟨K,fK,h⟩:=h
 obtain⟨J,fJ,h2⟩:=h2
 refine⟨fun k=>K k+J k,fK.add fJ,fun k=>?_⟩
 dsimp only
 rw[cf_add']
 obtain⟨z,hz⟩:=of_mod (h k)
 obtain⟨y,hy⟩:=of_mod (h2 k)
 have hz:A k=B k+cf K m k+p*z:=hz
 have hy:B k=C k+cf J m k+p*y:=hy
 exact mod_of (z+y) (by rw[Int.mul_add];omega)
theorem Cm.mulr {p:Int} {m A B C:Nat->Int} (fC:Fin C) (h:Cm p m A B):Cm p m (cf C A) (cf C B):=by
 obtain⟨K,fK,h⟩:=h
 refine⟨cf C K,fC.cf fK,((Cg.refl C).cf h).trans fun k=>?_⟩
 rw[cf_add,cf_asc]
theorem Cm.mul {p:Int} {m A B C D:Nat->Int} (fA:Fin A) (fD:Fin D) (h:Cm p m A B) (h2:Cm p m C D):Cm p m (cf A C) (cf B D):=by
 refine(h2.mulr fA).trans ?_
 rw[cf_com A D,cf_com B D]
 exact h.mulr fD
structure Rp (p : Int) (m : L) (F : Nat → Int) (r : L) : Prop where
 n:NL p r
 s:r.1<m.1
 c:Cm p m.2 r.2 F
theorem Rp.rest {p:Int} {m x:L} (hp:md p) (hm:NL p m) (h0:0<m.1) (hx:NL p x):Rp p m x.2 (rstL p x m):=by
 obtain⟨h1,h2⟩:=hx.rst hp hm h0
 refine⟨h1,h2,Cm.symm ⟨_,Nm.fin (hx.quo hp hm h0),(div_cg hp hx hm h0).trans fun k=>?_⟩⟩
 show(cf (quoL p x m).2 m.2 k+(rstL p x m).2 k)%p=((rstL p x m).2 k+cf (quoL p x m).2 m.2 k)%p
 rw[Int.add_comm]
theorem lead_inv {p:Int} {m:L} (hp:md p) (hm:NL p m) (h0:0<m.1):(inv (m.2 (m.1-1)) p*m.2 (m.1-1))%p=1%p:=by
 have h1:=hm.l h0
 have h2:=hm.r (m.1-1)
 rw[inv_spec hp (by rw[Int.emod_eq_of_lt h2.1 h2.2];omega),Int.emod_eq_of_lt (by omega) (by have:=hp.1;omega)]
theorem Rp.eq {p:Int} {m r s:L} {F:Nat->Int} (hp:md p) (hm:NL p m) (h:Rp p m F r) (h2:Rp p m F s):r=s:=by
 have h0:0<m.1:=by have:=h.s;omega
 obtain⟨K,fK,hK⟩:=h.c.trans h2.c.symm
 have hz:Cg p K fun _=>0:=no_multiple fK hm.z h0 (lead_inv hp hm h0) (R:=fun k=>r.2 k-s.2 k) (fun j hj=>by
  show r.2 j-s.2 j=0
  rw[h.n.z j (by have:=h.s;omega),h2.n.z j (by have:=h2.s;omega)]
  rfl) fun k=>by
  obtain⟨z,hz⟩:=of_mod (hK k)
  have hz:r.2 k=s.2 k+cf K m.2 k+p*z:=hz
  show cf K m.2 k%p=(r.2 k-s.2 k)%p
  exact mod_of (-z) (by rw[Int.mul_neg];omega)
 have e:Cg p (fun k=>s.2 k+cf K m.2 k) fun k=>s.2 k+cf (fun _=>0) m.2 k:=(Cg.refl s.2).add (hz.cf (Cg.refl m.2))
 refine Nm.eq h.n h2.n (hK.trans (e.trans fun k=>?_))
 dsimp only
 rw[cf_nil,Int.add_zero]
theorem Rp.of {p:Int} {m r:L} {F G:Nat->Int} (h:Rp p m F r) (hc:Cm p m.2 F G):Rp p m G r:=⟨h.n,h.s,h.c.trans hc⟩
theorem Rp.mul {p:Int} {m r s:L} {F G:Nat->Int} (hp:md p) (hm:NL p m) (fG:Fin G) (hl:m.1≤1024) (h:Rp p m F r) (h2:Rp p m G s):Rp p m (cf F G) (rstL p (mulL p r s) m)/\NL p (mulL p r s):=by
 have h0:0<m.1:=by have:=h.s;omega
 have hx:NL p (mulL p r s):=NL.mul hp h2.n (by have:=h.s;have:=h2.s;omega)
 exact⟨(Rp.rest hp hm h0 hx).of ((Cm.of (pr_cf h.n)).trans (Cm.mul (Nm.fin h.n) fG h.c h2.c)),hx⟩
def pw (F : Nat → Int) : Nat → Nat → Int
 | 0=>oneF
 | n+1=>cf F (pw F n)
theorem pw_fin {F : Nat → Int} (h : Fin F) : ∀ n, Fin (pw F n)
 | 0=>Fin.one
 | n+1=>h.cf (pw_fin h n)
theorem pw_add (F : Nat → Int) (b : Nat) : ∀ a, pw F (a + b) = cf (pw F a) (pw F b)
 | 0=>by rw[Nat.zero_add];exact(cf_one _).symm
 | a+1=>by
  rw[show a+1+b=a+b+1 by omega]
  show cf F (pw F (a+b))=cf (cf F (pw F a)) (pw F b)
  rw[pw_add F b a,cf_asc]
theorem pw_one (F:Nat->Int):pw F 1=F:=by
 show cf F oneF=F
 rw[cf_com,cf_one]
def bs (b : Nat → Nat) (k : Nat) : Nat → Nat
 | 0=>0
 | n+1=>bs b k n+b (k+n)*2^n
theorem bs_low (b : Nat → Nat) (k : Nat) : ∀ n, bs b k (n + 1) = b k + 2 * bs b (k + 1) n
 | 0=>by simp[bs]
 | n+1=>by
  show bs b k (n+1)+b (k+(n+1))*2^(n+1)=b k+2*(bs b (k+1) n+b (k+1+n)*2^n)
  rw[bs_low b k n,show k+(n+1)=k+1+n by omega,Nat.pow_succ,Nat.mul_add,Nat.add_assoc]
  congr 1
  congr 1
  rw[Nat.mul_comm (2^n) 2,← Nat.mul_assoc,Nat.mul_comm (b (k+1+n)) 2,Nat.mul_assoc]
theorem bs_more {b : Nat → Nat} {n : Nat} : ∀ {m : Nat}, n ≤ m → (∀ j, n ≤ j → j < m → b j = 0) → bs b 0 m = bs b 0 n
 | 0,h,_=>by rw[show n=0 by omega]
 | m+1,h,hz=>by
  rcases Nat.lt_or_ge m n with h1 | h1
  ·rw[show n=m+1 by omega]
  ·show bs b 0 m+b (0+m)*2^m=_
   rw[bs_more h1 fun j a b=>hz j a (by omega),Nat.zero_add,hz m h1 (by omega),Nat.zero_mul,Nat.add_zero]
theorem bs_bits (x : Nat) : ∀ n, bs (fun j => x / 2 ^ j % 2) 0 n = x % 2 ^ n
 | 0=>by show 0=x%1;omega
 | n+1=>by
  show bs (fun j=>x / 2^j%2) 0 n+x / 2^(0+n)%2*2^n=x%2^(n+1)
  rw[bs_bits x n,Nat.zero_add,Nat.pow_succ,Nat.mod_mul,Nat.mul_comm (2^n)]
def bt (a:Nat->Int) (i:Nat):Nat:=(a (i / 32)).toNat / 2^(i%32)%2
end Fp
end Go.Proofs.YtibaocbpeaejkaaGreat
/- Powers of a polynomial modulo another one: the program's powMod and PowMod. -/
namespace Go.Proofs.YtibaocbpeaejkaaGreat
open Go.RowKit
namespace Fp
theorem subCon {D:Nat->Prop} {w:World} {v:Value} {g:Nat->Nat->Cell} (h:g 0 0 = .int .i64 1) (hv:VRel D w [] (.c (.row 1 1 g)) v):VRel D w [] (cl one1) v :=
 subRowG rfl (fun i j hi hj=>by
  match i,j,hi,hj with
  | 0,0,_,_=>exact h) D w v hv
theorem and_one {x:Int} (h0:0≤x) (h1:x<4294967296):IntKind.u32.wrap ((BitVec.ofInt IntKind.u32.bits x &&& BitVec.ofInt IntKind.u32.bits 1).toNat:Nat)=((x.toNat%2:Nat):Int):=by
 have e:(BitVec.ofInt IntKind.u32.bits x &&& BitVec.ofInt IntKind.u32.bits 1).toNat=x.toNat%2:=by
  rw[BitVec.toNat_and]
  have e1:(BitVec.ofInt IntKind.u32.bits x).toNat=x.toNat:=by
   show(BitVec.ofInt 32 x).toNat=_
   rw[BitVec.toNat_ofInt]
   omega
  have e2:(BitVec.ofInt IntKind.u32.bits 1).toNat=1:=by decide
  rw[e1,e2,Nat.and_one_is_mod]
 rw[e]
 have:=Nat.mod_lt x.toNat (show 0<2 by decide)
 simp[IntKind.wrap,IntKind.signed,IntKind.bits]
 omega
theorem shr_eq {x:Int} {k:Nat} (h0:0≤x) (hk:k<32):x.fdiv (2^min k IntKind.u32.bits)=((x.toNat / 2^k:Nat):Int):=by
 rw[show min k IntKind.u32.bits=k from Nat.min_eq_left (Nat.le_of_lt hk),Int.fdiv_eq_ediv_of_nonneg _ (Int.le_of_lt (Int.pow_pos (by decide)))]
 rw[Int.natCast_ediv,Int.natCast_pow,Int.toNat_of_nonneg h0]
 rfl
theorem bit_eq {a:Nat->Int} {i:Nat} (ha:∀ i,0≤a i/\a i<4294967296):IntKind.u32.wrap ((BitVec.ofInt IntKind.u32.bits ((a (Int.tdiv (((i+1:Nat):Int)-1) 32).toNat).fdiv (2^min (Int.tmod (((i+1:Nat):Int)-1) 32).toNat IntKind.u32.bits)) &&& BitVec.ofInt IntKind.u32.bits 1).toNat:Nat)=((bt a i:Nat):Int):=by
 have eI:((i+1:Nat):Int)-1=i:=by omega
 have ed:(Int.tdiv (((i+1:Nat):Int)-1) 32).toNat=i / 32:=by rw[eI,Int.tdiv_eq_ediv_of_nonneg (by omega)];omega
 have er:(Int.tmod (((i+1:Nat):Int)-1) 32).toNat=i%32:=by rw[eI,Int.tmod_eq_emod_of_nonneg (by omega)];omega
 have h:=ha (i / 32)
 rw[ed,er,shr_eq h.1 (Nat.mod_lt _ (by decide))]
 have hle:=Nat.div_le_self (a (i / 32)).toNat (2^(i%32))
 have eb:bt a i=(a (i / 32)).toNat / 2^(i%32)%2:=rfl
 generalize (a (i / 32)).toNat / 2^(i%32)=y at *
 rw[and_one (by omega) (by omega),eb,Int.toNat_natCast]
set_option maxHeartbeats 8000000 in
theorem powMod_ok {p:Int} {f m r:L} {s:Bool} {q:Nat} {a:Nat->Int} (hp:md p) (hf:NL p f) (hm:NL p m) (h0:0<m.1) (hl:m.1≤1024) (hq:q≤1024) (ha:∀ i,0≤a i/\a i<4294967296) (hr:Rp p m (pw f.2 (bs (bt a) 0 (nb a (tl a q)))) r):FnOK Tryz.prog false 131 [.c (.int .i64 p),cl f,bi s q a,cl m] (cl r):=by
 have hfr:=Rp.rest hp hm h0 hf
 have h1r:=Rp.rest hp hm h0 (NL.one hp)
 have hd1:=divide_L hp hf hm h0
 have hd2:=divide_L hp (NL.one hp) hm h0
 have hB:=bits_ok (s:=s) (n:=q) (a:=a) (by omega) ha
 have hnb:=nb_le (m:=tl a q) ha
 have htl:=tl_le a q
 generalize hF:rstL p f m=f1 at *
 generalize hO:rstL p one1 m=o1 at *
 generalize nb a (tl a q)=N at *
 refine fn_ok (E:=E0) E0_ok Tryz.func131 rfl mixed (by kernel_rfl) (by kernel_rfl) ?_
 conv=>whnf
 refine⟨_,hd1,?_⟩
 conv=>whnf
 refine⟨fun i j hi hj=>?_,?_⟩
 ·match i,j,hi,hj with
  | 0,0,_,_=>rfl
 conv=>whnf
 refine⟨_,arg_ok hd2 (fun D w vs h=>match vs,h with
  | [_,_,_],⟨e0,e1,e2,_⟩=>⟨e0,subCon rfl e1,e2,trivial⟩),?_⟩
 conv=>whnf
 refine⟨_,hB,?_⟩
 conv=>whnf
 refine⟨i64 (by omega) (by omega),?_⟩
 conv=>whnf
 refine loop_ints (fun((k,o):Nat × L)=>⟨asg [(0,.c (.int .i64 p)),(1,cl f1),(3,cl m),(6,.c (.p 0 0 2 0 0)),(10,cl o),(11,.c (.int .i64 ((k:Int)-1)))],[⟨30,2,1,0,0,boxF [.bool s,dl q a]⟩]⟩) (fun(k,_)=>k) (fun(k,o)=>k≤N/\Rp p m (pw f.2 (bs (bt a) k (N-k))) o) (N,o1) rfl ?_ (show N≤N/\Rp p m (pw f.2 (bs (bt a) N (N-N))) o1 from⟨Nat.le_refl _,by rw[Nat.sub_self];exact h1r⟩) ?_
 ·exact Weak.cut rfl ⟨rfl,rfl,rfl,rfl,rfl,rfl,trivial⟩ rfl ⟨fun _ i j hi hj=>match i,j,hi,hj with
   | 0,0,_,_=>rfl
   | 0,1,_,_=>rfl,trivial⟩ rfl
 rintro ⟨k,o⟩ hI
 obtain⟨h1,h2⟩:k≤N/\Rp p m (pw f.2 (bs (bt a) k (N-k))) o:=hI
 conv=>whnf
 refine bcase (fun(h:decide ((0:Int)≤(k:Int)-1)=true)=>?_) fun(h:decide ((0:Int)≤(k:Int)-1)=false)=>?_
 ·have h:=of_decide_eq_true h
  obtain⟨i,rfl⟩:∃ i,k=i+1:=⟨k-1,by omega⟩
  obtain⟨h3,h4⟩:=h2.mul hp hm (pw_fin (Nm.fin hf) _) hl h2
  rw[← pw_add]at h3
  have ht1:=times_L hp h2.n h2.n (by have:=h2.s;omega) (by have:=h2.s;omega)
  have hv1:=divide_L hp h4 hm h0
  obtain⟨h5,h6⟩:=h3.mul hp hm (Nm.fin hf) hl hfr
  have ht2:=times_L hp h3.n hfr.n (by have:=h3.s;omega) (by have:=hfr.s;omega)
  have hv2:=divide_L hp h6 hm h0
  have eb:=bs_low (bt a) i (N-(i+1))
  rw[show N-(i+1)+1=N-i by omega]at eb
  conv=>whnf
  refine⟨_,ht1,?_⟩
  conv=>whnf
  refine⟨_,hv1,?_⟩
  have eI:((i+1:Nat):Int)-1=i:=by omega
  have ed:Int.tdiv (((i+1:Nat):Int)-1) 32=((i / 32:Nat):Int):=by rw[eI,Int.tdiv_eq_ediv_of_nonneg (by omega)];omega
  have er:Int.tmod (((i+1:Nat):Int)-1) 32=((i%32:Nat):Int):=by rw[eI,Int.tmod_eq_emod_of_nonneg (by omega)];omega
  conv=>whnf
  refine⟨by decide,i64 (by rw[ed];omega) (by rw[ed];omega),?_⟩
  conv=>whnf
  refine⟨by rw[ed];omega,by rw[ed];omega,?_⟩
  conv=>whnf
  refine⟨by decide,?_⟩
  conv=>whnf
  refine⟨by rw[er];omega,?_⟩
  conv=>whnf
  refine bcase (fun h8=>?_) fun h8=>?_
  ·have h8:=of_decide_eq_true h8
   rw[bit_eq ha]at h8
   have h9:bt a i=1:=by omega
   have h5':=h5
   rw[cf_com]at h5'
   rw[← show pw f.2 (bs (bt a) (i+1) (N-(i+1))+bs (bt a) (i+1) (N-(i+1))+1)=cf f.2 (pw f.2 (bs (bt a) (i+1) (N-(i+1))+bs (bt a) (i+1) (N-(i+1))))from rfl,show bs (bt a) (i+1) (N-(i+1))+bs (bt a) (i+1) (N-(i+1))+1=bs (bt a) i (N-i)by omega]at h5'
   conv=>whnf
   refine⟨_,ht2,?_⟩
   conv=>whnf
   refine⟨_,hv2,?_⟩
   conv=>whnf
   refine⟨i64 (by omega) (by omega),?_⟩
   conv=>whnf
   refine⟨(i,rstL p (mulL p (rstL p (mulL p o o) m) f1) m),by show i<i+1;omega,Weak.cut rfl ⟨rfl,rfl,rfl,rfl,rfl,?_,trivial⟩ rfl ⟨fun _ i j hi hj=>match i,j,hi,hj with
    | 0,0,_,_=>rfl
    | 0,1,_,_=>rfl,trivial⟩ rfl,(show i≤N/\Rp p m (pw f.2 (bs (bt a) i (N-i))) _ from⟨by omega,h5'⟩)⟩
   show V.c (Cell.int .i64 (((i+1:Nat):Int)-1-1))=V.c (Cell.int .i64 ((i:Int)-1))
   rw[eI]
  ·have h8:=of_decide_eq_false h8
   rw[bit_eq ha]at h8
   have h9:bt a i=0:=by
    have:bt a i<2:=Nat.mod_lt _ (by decide)
    omega
   rw[show bs (bt a) (i+1) (N-(i+1))+bs (bt a) (i+1) (N-(i+1))=bs (bt a) i (N-i)by omega]at h3
   conv=>whnf
   refine⟨i64 (by omega) (by omega),?_⟩
   conv=>whnf
   refine⟨(i,rstL p (mulL p o o) m),by show i<i+1;omega,Weak.cut rfl ⟨rfl,rfl,rfl,rfl,rfl,?_,trivial⟩ rfl ⟨fun _ i j hi hj=>match i,j,hi,hj with
    | 0,0,_,_=>rfl
    | 0,1,_,_=>rfl,trivial⟩ rfl,(show i≤N/\Rp p m (pw f.2 (bs (bt a) i (N-i))) _ from⟨by omega,h3⟩)⟩
   show V.c (Cell.int .i64 (((i+1:Nat):Int)-1-1))=V.c (Cell.int .i64 ((i:Int)-1))
   rw[eI]
 ·have h:=of_decide_eq_false h
  obtain rfl:k=0:=by omega
  rw[Nat.sub_zero]at h2
  obtain rfl:=h2.eq hp hm hr
  conv=>whnf
  exact⟨rfl,Sub.refl _⟩
end Fp
end Go.Proofs.YtibaocbpeaejkaaGreat
/- PowMod, and the document's Power. -/
namespace Go.Proofs.YtibaocbpeaejkaaGreat
open Go.RowKit
namespace Fp
theorem refDivide_Lr {p:Int} {x y f g:L} (hp:md p) (hx:x.1≤4096) (hy:y.1≤4096) (ex:nfL p x=f) (ey:nfL p y=g) (hm:0<g.1):FnOK Tryz.prog false 86 [.c (.int .i64 p),cl x,cl y] (.t2 (cl (quoL p f g)) (cl (rstL p f g))):=by
 have hF:NL p f:=by rw[← ex];exact NL.nfL hp hx
 have hG:NL p g:=by rw[← ey];exact NL.nfL hp hy
 have hq:=hF.quo hp hG hm
 have hr:=(hF.rst hp hG hm).1
 have e1:∀ i,nf p (f.1+1-g.1) (dq p (inv (g.2 (g.1-1)) p) g.1 (f.1+1-g.1) f.2 g.2) i=qt p f.1 g.1 f.2 g.2 i:=fun i=>by
  unfold nf qt
  by_cases h:i<f.1+1-g.1
  ·rw[if_pos h,if_pos h]
   have:=dq_range (p:=p) (b:=inv (g.2 (g.1-1)) p) (m:=g.1) (N:=f.1+1-g.1) (F:=f.2) (G:=g.2) (by have:=hp.1;omega) i
   exact Int.emod_eq_of_lt this.1 this.2
  ·rw[if_neg h,if_neg h]
 have e2:nf p f.1 (rs p f.1 g.1 f.2 g.2)=rs p f.1 g.1 f.2 g.2:=nf_self hr.r fun j hj=>hr.z j (by have:=tl_le (rs p f.1 g.1 f.2 g.2) f.1;exact Nat.le_trans this hj)
 have e3:nf p f.1 (dn p (inv (g.2 (g.1-1)) p) g.1 (f.1+1-g.1) f.2 g.2 (f.1+1-g.1))=rs p f.1 g.1 f.2 g.2:=e2
 subst ex ey
 refine sub_ok (refDivide_all (p:=p) (n0:=x.1) (m0:=y.1) (a:=x.2) (c:=y.2) hp hx hy rfl rfl rfl rfl hm hF.r hG.r (hG.l hm) hF.t) (subT2 (subRow ?_ fun i _=>e1 i) ?_)
 ·rw[tl_congr fun i _=>e1 i]
  exact hq.t
 ·rw[e3]
  exact Sub.refl _
theorem nfL_one {p:Int} (hp:md p):nfL p one1=one1:=by
 have h:=NL.one hp
 show(tl (nf p one1.1 one1.2) one1.1,nf p one1.1 one1.2)=one1
 rw[h.self,h.t]
theorem nfL_id {p:Int} {x:L} (h:NL p x):nfL p x=x:=by
 show(tl (nf p x.1 x.2) x.1,nf p x.1 x.2)=x
 rw[h.self,h.t]
theorem bs_norm {a:Nat->Int} {m:Nat} (ha:∀ i,0≤a i/\a i<4294967296):bs (bt a) 0 (32*m)=bs (bt a) 0 (nb a m):=by
 refine bs_more (nb_le ha) fun j h1 h2=>?_
 unfold nb at h1
 rw[if_neg (by omega)]at h1
 have e1:j / 32=m-1:=by omega
 unfold bt
 rw[e1,Nat.div_eq_of_lt (Nat.lt_of_lt_of_le lb_lt (Nat.pow_le_pow_right (by decide) (by omega)))]
theorem rbit_eq {a:Nat->Int} {i:Nat} (ha:∀ i,0≤a i/\a i<4294967296):Int.tmod ((a (Int.tdiv (i:Int) 32).toNat).fdiv (2^min (IntKind.u64.wrap (Int.tmod (i:Int) 32)).toNat IntKind.u32.bits)) 2=((bt a i:Nat):Int):=by
 have ed:(Int.tdiv (i:Int) 32).toNat=i / 32:=by rw[Int.tdiv_eq_ediv_of_nonneg (by omega)];omega
 have em:Int.tmod (i:Int) 32=((i%32:Nat):Int):=by rw[Int.tmod_eq_emod_of_nonneg (by omega)];omega
 have ew:IntKind.u64.wrap (((i%32:Nat):Int))=((i%32:Nat):Int):=by simp[IntKind.wrap,IntKind.signed,IntKind.bits];omega
 have h:=ha (i / 32)
 rw[ed,em,ew,Int.toNat_natCast,shr_eq h.1 (Nat.mod_lt _ (by decide))]
 have eb:bt a i=(a (i / 32)).toNat / 2^(i%32)%2:=rfl
 generalize (a (i / 32)).toNat / 2^(i%32)=y at *
 rw[Int.tmod_eq_emod_of_nonneg (by omega),eb]
 omega
noncomputable def E0u:Env:=⟨Tryz.prog,false,fun T=>if T == 74 then some ⟨false,1,[.int .u64 0],8,[],none,some .u64,0⟩else tyE T,0⟩
theorem tyU:tyOf Tryz.prog 74=some ⟨false,1,[.int .u64 0],8,[],none,some .u64,0⟩:=by kernel_rfl
theorem E0u_ok:EnvOK E0u:=⟨fun T ti h=>by
 by_cases e:T=74
 ·subst e
  have h:some (⟨false,1,[.int .u64 0],8,[],none,some .u64,0⟩:TI)=some ti:=h
  cases h
  exact tyU
 ·have h2:(if T == 74 then some (⟨false,1,[.int .u64 0],8,[],none,some .u64,0⟩:TI)else tyE T)=some ti:=h
  rw[if_neg (by simpa using e)]at h2
  exact tyE_ok T ti h2⟩
set_option maxHeartbeats 8000000 in
theorem power_ok {p:Int} {x y f m r:L} {s:Bool} {q:Nat} {a:Nat->Int} (hp:md p) (hx:x.1≤1024) (hy:y.1≤1024) (ex:nfL p x=f) (ey:nfL p y=m) (h0:0<m.1) (hq:q≤1024) (ha:∀ i,0≤a i/\a i<4294967296) (hr:Rp p m (pw f.2 (bs (bt a) 0 (nb a (tl a q)))) r):FnOK Tryz.prog false 39 [.c (.int .i64 p),cl x,bi s q a,cl y] (cl r):=by
 have hf:NL p f:=by rw[← ex];exact NL.nfL hp (by omega)
 have hm:NL p m:=by rw[← ey];exact NL.nfL hp (by omega)
 have hl:m.1≤1024:=by rw[← ey];have:=nfL_le p y;omega
 have hfr:=Rp.rest hp hm h0 hf
 have h1r:=Rp.rest hp hm h0 (NL.one hp)
 have hd1:=refDivide_Lr (x:=x) (y:=y) hp (by omega) (by omega) ex ey h0
 have hd2:=refDivide_Lr (x:=one1) (y:=y) hp (by decide) (by omega) (nfL_one hp) ey h0
 have hN:=rnorm_ok (s:=s) (n:=q) (a:=a) (by omega)
 have htl:=tl_le a q
 rw[← bs_norm ha]at hr
 generalize hF:rstL p f m=f1 at *
 generalize hO:rstL p one1 m=o1 at *
 generalize (s&&decide (0<tl a q))=s2 at *
 generalize tl a q=M at *
 refine fn_ok (E:=E0u) E0u_ok Tryz.func39 rfl mixed (by kernel_rfl) (by kernel_rfl) ?_
 conv=>whnf
 refine⟨_,hd1,?_⟩
 conv=>whnf
 refine⟨fun i j hi hj=>?_,?_⟩
 ·match i,j,hi,hj with
  | 0,0,_,_=>rfl
 conv=>whnf
 refine⟨_,arg_ok hd2 (fun D w vs h=>match vs,h with
  | [_,_,_],⟨e0,e1,e2,_⟩=>⟨e0,subCon rfl e1,e2,trivial⟩),?_⟩
 conv=>whnf
 refine⟨_,hN,?_⟩
 conv=>whnf
 refine loop_ints (fun((k,x,o):Nat × L × L)=>ist [(0,.c (.int .i64 p)),(3,cl y),(10,cl x),(12,cl o),(13,.c (dl M a)),(14,.c (.int .i64 k))] []) (fun(k,_,_)=>32*M-k) (fun(k,x,o)=>k≤32*M/\Rp p m (pw f.2 (2^k)) x/\Rp p m (pw f.2 (bs (bt a) 0 k)) o) (0,f1,o1) rfl ?_ (show 0≤32*M/\Rp p m (pw f.2 (2^0)) f1/\Rp p m (pw f.2 (bs (bt a) 0 0)) o1 from⟨Nat.zero_le _,by rw[Nat.pow_zero,pw_one];exact hfr,h1r⟩) ?_
 ·exact Weak.ints [] rfl trivial ⟨⟨_,rfl,rfl⟩,⟨_,_,rfl,rfl,fun _ _ _ _=>rfl⟩,⟨_,_,rfl,rfl,fun _ _ _ _=>rfl⟩,⟨_,_,rfl,rfl,fun _ _ _ _=>rfl⟩,⟨_,_,rfl,rfl,fun _ _ _ _=>rfl⟩,⟨_,rfl,rfl⟩,trivial⟩
 rintro ⟨i,x1,o⟩ hI
 obtain⟨h1,h2,h3⟩:i≤32*M/\Rp p m (pw f.2 (2^i)) x1/\Rp p m (pw f.2 (bs (bt a) 0 i)) o:=hI
 conv=>whnf
 refine⟨i64 (by omega) (by omega),?_⟩
 conv=>whnf
 refine bcase (fun(h:decide ((i:Int)<32*(M:Int))=true)=>?_) fun(h:decide ((i:Int)<32*(M:Int))=false)=>?_
 ·have h:=of_decide_eq_true h
  have ed:Int.tdiv (i:Int) 32=((i / 32:Nat):Int):=by rw[Int.tdiv_eq_ediv_of_nonneg (by omega)];omega
  have er:Int.tmod (i:Int) 32=((i%32:Nat):Int):=by rw[Int.tmod_eq_emod_of_nonneg (by omega)];omega
  obtain⟨h4,h5⟩:=h3.mul hp hm (pw_fin (Nm.fin hf) _) hl h2
  rw[← pw_add]at h4
  obtain⟨h6,h7⟩:=h2.mul hp hm (pw_fin (Nm.fin hf) _) hl h2
  rw[← pw_add,show 2^i+2^i=2^(i+1)by rw[Nat.pow_succ];omega]at h6
  have ht1:=refMul_L hp h3.n h2.n (by have:=h3.s;omega) (by have:=h2.s;omega)
  have hv1:=refDivide_Lr (x:=mulL p o x1) (y:=y) hp h5.n4 (by omega) (nfL_id h5) ey h0
  have ht2:=refMul_L hp h2.n h2.n (by have:=h2.s;omega) (by have:=h2.s;omega)
  have hv2:=refDivide_Lr (x:=mulL p x1 x1) (y:=y) hp h7.n4 (by omega) (nfL_id h7) ey h0
  have eb:bs (bt a) 0 (i+1)=bs (bt a) 0 i+bt a (0+i)*2^i:=rfl
  rw[Nat.zero_add]at eb
  conv=>whnf
  refine⟨by decide,i64 (by rw[ed];omega) (by rw[ed];omega),?_⟩
  conv=>whnf
  refine⟨by rw[ed];omega,by rw[ed];omega,?_⟩
  conv=>whnf
  refine⟨by decide,?_⟩
  have ew:IntKind.u64.wrap (Int.tmod (i:Int) 32)=((i%32:Nat):Int):=by rw[er];simp[IntKind.wrap,IntKind.signed,IntKind.bits];omega
  conv=>whnf
  refine⟨by rw[ew];omega,?_⟩
  conv=>whnf
  refine⟨by decide,?_⟩
  conv=>whnf
  refine bcase (fun h8=>?_) fun h8=>?_
  ·have h8:=of_decide_eq_true h8
   rw[rbit_eq ha]at h8
   have h9:bt a i=1:=by omega
   rw[h9,Nat.one_mul]at eb
   rw[← eb]at h4
   conv=>whnf
   refine⟨_,ht1,?_⟩
   conv=>whnf
   refine⟨_,hv1,?_⟩
   conv=>whnf
   refine⟨_,ht2,?_⟩
   conv=>whnf
   refine⟨_,hv2,?_⟩
   conv=>whnf
   refine⟨i64 (by omega) (by omega),?_⟩
   conv=>whnf
   exact⟨(i+1,rstL p (mulL p x1 x1) m,rstL p (mulL p o x1) m),by show 32*M-(i+1)<32*M-i;omega,Weak.ints [] rfl trivial ⟨⟨_,rfl,rfl⟩,⟨_,_,rfl,rfl,fun _ _ _ _=>rfl⟩,⟨_,_,rfl,rfl,fun _ _ _ _=>rfl⟩,⟨_,_,rfl,rfl,fun _ _ _ _=>rfl⟩,⟨_,_,rfl,rfl,fun _ _ _ _=>rfl⟩,⟨_,rfl,rfl⟩,trivial⟩,(show i+1≤32*M/\Rp p m (pw f.2 (2^(i+1))) _/\Rp p m (pw f.2 (bs (bt a) 0 (i+1))) _ from⟨by omega,h6,h4⟩)⟩
  ·have h8:=of_decide_eq_false h8
   rw[rbit_eq ha]at h8
   have h9:bt a i=0:=by
    have:bt a i<2:=Nat.mod_lt _ (by decide)
    omega
   have eb':bs (bt a) 0 (i+1)=bs (bt a) 0 i:=by rw[eb,h9];omega
   rw[← eb']at h3
   conv=>whnf
   refine⟨_,ht2,?_⟩
   conv=>whnf
   refine⟨_,hv2,?_⟩
   conv=>whnf
   refine⟨i64 (by omega) (by omega),?_⟩
   conv=>whnf
   exact⟨(i+1,rstL p (mulL p x1 x1) m,o),by show 32*M-(i+1)<32*M-i;omega,Weak.ints [] rfl trivial ⟨⟨_,rfl,rfl⟩,⟨_,_,rfl,rfl,fun _ _ _ _=>rfl⟩,⟨_,_,rfl,rfl,fun _ _ _ _=>rfl⟩,⟨_,_,rfl,rfl,fun _ _ _ _=>rfl⟩,⟨_,_,rfl,rfl,fun _ _ _ _=>rfl⟩,⟨_,rfl,rfl⟩,trivial⟩,(show i+1≤32*M/\Rp p m (pw f.2 (2^(i+1))) _/\Rp p m (pw f.2 (bs (bt a) 0 (i+1))) _ from⟨by omega,h6,h3⟩)⟩
 ·have h:=of_decide_eq_false h
  obtain rfl:i=32*M:=by omega
  obtain rfl:=h3.eq hp hm hr
  conv=>whnf
  exact⟨rfl,Sub.refl _⟩
end Fp
end Go.Proofs.YtibaocbpeaejkaaGreat
/- Frobenius: the p-th power of a sum is the sum of the p-th powers. -/
namespace Go.Proofs.YtibaocbpeaejkaaGreat
namespace Fp
def bn : Nat → Nat → Nat
 | _,0=>1
 | 0,_+1=>0
 | n+1,k+1=>bn n k+bn n (k+1)
theorem bs_congr {b c : Nat → Nat} {k : Nat} : ∀ {n : Nat}, (∀ i, i < n → b (k + i) = c (k + i)) → bs b k n = bs c k n
 | 0,_=>rfl
 | n+1,h=>by
  show bs b k n+_=bs c k n+_
  rw[bs_congr fun i hi=>h i (by omega),h n (by omega)]
theorem bs_of {p:Int} (hp:md p):bs (bt fun _=>p) 0 (nb (fun _=>p) (tl (fun _=>p) 1))=p.toNat:=by
 have h1:=hp.1
 have h2:=hp.2.1
 have e:tl (fun _=>p) 1=1:=by
  show(if p=0 then 0 else 1)=1
  rw[if_neg (by omega)]
 rw[e,← bs_norm fun _=>⟨by omega,by omega⟩,bs_congr (c:=fun j=>p.toNat / 2^j%2) fun i hi=>by
  show p.toNat / 2^((0+i)%32)%2=p.toNat / 2^(0+i)%2
  rw[show(0+i)%32=0+i from Nat.mod_eq_of_lt (by omega)],bs_bits]
 exact Nat.mod_eq_of_lt (by omega)
end Fp
end Go.Proofs.YtibaocbpeaejkaaGreat
/- Commutative rings of one's own, identities in them by reflection, sums. Plain: no program. -/
namespace Go.Proofs.YtibaocbpeaejkaaGreat
class Crg (α : Type) extends Add α, Mul α, Neg α, _root_.Sub α, Zero α, One α where
 add_assoc:∀ a b c:α,a+b+c=a+(b+c)
 add_comm:∀ a b:α,a+b=b+a
 add_zero:∀ a:α,a+0=a
 add_neg:∀ a:α,a + -a=0
 sub_def:∀ a b:α,a-b=a + -b
 mul_assoc:∀ a b c:α,a*b*c=a*(b*c)
 mul_comm:∀ a b:α,a*b=b*a
 mul_one:∀ a:α,a*1=a
 mul_add:∀ a b c:α,a*(b+c)=a*b+a*c
namespace Crg
section
variable {α:Type} [Crg α]
theorem zero_add (a:α):0+a=a:=by rw[add_comm,add_zero]
theorem one_mul (a:α):1*a=a:=by rw[mul_comm,mul_one]
theorem neg_add (a:α) : -a+a=0:=by rw[add_comm,add_neg]
theorem add_mul (a b c:α):(a+b)*c=a*c+b*c:=by rw[mul_comm,mul_add,mul_comm c,mul_comm c]
theorem add_left_cancel {a b c:α} (h:a+b=a+c):b=c:=by
 have h:=congrArg (-a+·) h
 simp only[← add_assoc,neg_add,zero_add]at h
 exact h
theorem add_right_cancel {a b c:α} (h:b+a=c+a):b=c:=by
 rw[add_comm b,add_comm c]at h
 exact add_left_cancel h
theorem mul_zero (a:α):a*0=0:=by
 have h:a*0+a*0=a*0+0:=by rw[← mul_add,add_zero,add_zero]
 exact add_left_cancel h
theorem zero_mul (a:α):0*a=0:=by rw[mul_comm,mul_zero]
theorem neg_eq {a b:α} (h:a+b=0):b = -a:=add_left_cancel (h.trans (add_neg a).symm)
theorem neg_zero : -(0:α)=0:=(neg_eq (add_zero 0)).symm
theorem neg_neg (a:α) : -(-a)=a:=(neg_eq (neg_add a)).symm
theorem mul_neg (a b:α):a * -b = -(a*b):=neg_eq (by rw[← mul_add,add_neg,mul_zero])
theorem neg_mul (a b:α) : -a*b = -(a*b):=by rw[mul_comm,mul_neg,mul_comm]
theorem sub_zero (a:α):a-0=a:=by rw[sub_def,neg_zero,add_zero]
theorem sub_self (a:α):a-a=0:=by rw[sub_def,add_neg]
theorem sub_eq_zero {a b:α}:a-b=0↔a=b:=by
 rw[sub_def]
 refine⟨fun h=>?_,fun h=>by rw[h,add_neg]⟩
 rw[add_comm]at h
 have:=neg_eq h
 rw[neg_neg]at this
 exact this
theorem add_left_comm (a b c:α):a+(b+c)=b+(a+c):=by rw[← add_assoc,add_comm a,add_assoc]
theorem mul_left_comm (a b c:α):a*(b*c)=b*(a*c):=by rw[← mul_assoc,mul_comm a,mul_assoc]
def pw (a : α) : Nat → α
 | 0=>1
 | n+1=>pw a n*a
theorem pw_add (a : α) (m : Nat) : ∀ n, pw a (m + n) = pw a m * pw a n
 | 0=>(mul_one _).symm
 | n+1=>by
  show pw a (m+n)*a=pw a m*(pw a n*a)
  rw[pw_add a m n,mul_assoc]
theorem pw_mul (a : α) (m : Nat) : ∀ n, pw a (m * n) = pw (pw a m) n
 | 0=>rfl
 | n+1=>by rw[Nat.mul_succ,pw_add,pw_mul a m n];rfl
theorem mul_pw (a b : α) : ∀ n, pw (a * b) n = pw a n * pw b n
 | 0=>(mul_one _).symm
 | n+1=>by
  show pw (a*b) n*(a*b)=pw a n*a*(pw b n*b)
  rw[mul_pw a b n,mul_assoc,mul_assoc,mul_left_comm (pw b n)]
theorem one_pw : ∀ n, pw (1 : α) n = 1
 | 0=>rfl
 | n+1=>by show pw (1:α) n*1=1;rw[one_pw n,mul_one]
theorem pw_one (a:α):pw a 1=a:=one_mul a
def sm (f : Nat → α) : Nat → α
 | 0=>0
 | n+1=>sm f n+f n
theorem sm_congr {f g : Nat → α} : ∀ {n : Nat}, (∀ i, i < n → f i = g i) → sm f n = sm g n
 | 0,_=>rfl
 | n+1,h=>by
  show sm f n+f n=sm g n+g n
  rw[sm_congr fun i hi=>h i (by omega),h n (by omega)]
theorem sm_zero {f:Nat->α} {n:Nat} (h:∀ i,i<n->f i=0):sm f n=0:=by
 induction n with
 | zero=>rfl
 | succ n ih =>
  show sm f n+f n=0
  rw[ih fun i hi=>h i (by omega),h n (by omega),add_zero]
theorem sm_add (f g : Nat → α) : ∀ n, sm (fun i => f i + g i) n = sm f n + sm g n
 | 0=>(add_zero _).symm
 | n+1=>by
  show sm (fun i=>f i+g i) n+(f n+g n)=sm f n+f n+(sm g n+g n)
  rw[sm_add f g n,add_assoc,add_assoc,add_left_comm (sm g n)]
theorem mul_sm (c : α) (f : Nat → α) : ∀ n, c * sm f n = sm (fun i => c * f i) n
 | 0=>mul_zero c
 | n+1=>by
  show c*(sm f n+f n)=_+_
  rw[mul_add,mul_sm c f n]
theorem sm_mul (c:α) (f:Nat->α) (n:Nat):sm f n*c=sm (fun i=>f i*c) n:=by
 rw[mul_comm,mul_sm]
 exact sm_congr fun i _=>mul_comm _ _
theorem sm_head (f : Nat → α) : ∀ n, sm f (n + 1) = f 0 + sm (fun i => f (i + 1)) n
 | 0=>by show 0+f 0=f 0+0;rw[zero_add,add_zero]
 | n+1=>by
  show sm f (n+1)+f (n+1)=f 0+(sm (fun i=>f (i+1)) n+f (n+1))
  rw[sm_head f n,add_assoc]
theorem sm_rev : ∀ (n : Nat) (f : Nat → α), sm f n = sm (fun i => f (n - 1 - i)) n
 | 0,_=>rfl
 | n+1,f=>by
  rw[sm_head f n,sm_rev n fun i=>f (i+1)]
  show f 0+_=sm (fun i=>f (n+1-1-i)) n+f (n+1-1-n)
  rw[show n+1-1-n=0 by omega,add_comm]
  congr 1
  refine sm_congr fun i hi=>?_
  rw[show n-1-i+1=n+1-1-i by omega]
theorem sm_more {f : Nat → α} {n : Nat} (h : ∀ i, n ≤ i → f i = 0) : ∀ {m : Nat}, n ≤ m → sm f m = sm f n
 | 0,hm=>by rw[Nat.le_zero.1 hm]
 | m+1,hm=>by
  rcases Nat.lt_or_ge m n with h1 | h1
  ·rw[show n=m+1 by omega]
  ·show sm f m+f m=_
   rw[h m h1,add_zero,sm_more h h1]
theorem sm_one {f:Nat->α} {n k:Nat} (hk:k<n) (h:∀ i,i<n->i≠k->f i=0):sm f n=f k:=by
 induction n with
 | zero=>omega
 | succ n ih =>
  show sm f n+f n=f k
  by_cases e:k=n
  ·subst e
   rw[sm_zero fun i hi=>h i (by omega) (by omega),zero_add]
  ·rw[ih (by omega) fun i hi=>h i (by omega),h n (by omega) (fun h=>e h.symm),add_zero]
theorem sm_tri (f : Nat → Nat → α) : ∀ n, sm (fun i => sm (fun j => f j (i - j)) (i + 1)) n = sm (fun j => sm (fun l => f j l) (n - j)) n
 | 0=>rfl
 | n+1=>by
  show sm (fun i=>sm (fun j=>f j (i-j)) (i+1)) n+sm (fun j=>f j (n-j)) (n+1)=sm (fun j=>sm (fun l=>f j l) (n+1-j)) n+sm (fun l=>f n l) (n+1-n)
  rw[sm_tri f n]
  have e:sm (fun j=>sm (fun l=>f j l) (n+1-j)) n=sm (fun j=>sm (fun l=>f j l) (n-j)) n+sm (fun j=>f j (n-j)) n:=by
   rw[← sm_add]
   refine sm_congr fun j hj=>?_
   rw[show n+1-j=n-j+1 by omega]
   rfl
  have e2:sm (fun l=>f n l) (n+1-n)=f n (n-n):=by
   rw[show n+1-n=1 by omega,Nat.sub_self]
   exact zero_add _
  rw[e,e2,add_assoc]
  rfl
theorem sm_split (f : Nat → α) (n : Nat) : ∀ m, sm f (n + m) = sm f n + sm (fun i => f (n + i)) m
 | 0=>(add_zero _).symm
 | m+1=>by
  show sm f (n+m)+f (n+m)=sm f n+(sm (fun i=>f (n+i)) m+f (n+m))
  rw[sm_split f n m,add_assoc]
end
/-! ### Identities -/
inductive RE where
 | v (i:Nat)
 | z
 | o
 | add (a b:RE)
 | mul (a b:RE)
 | neg (a:RE)
 | sub (a b:RE)
instance:Add RE:=⟨.add⟩
instance:Mul RE:=⟨.mul⟩
instance:Neg RE:=⟨.neg⟩
instance:_root_.Sub RE:=⟨.sub⟩
instance:OfNat RE 0:=⟨.z⟩
instance:OfNat RE 1:=⟨.o⟩
abbrev t0:RE := .v 0
abbrev t1:RE := .v 1
abbrev t2:RE := .v 2
abbrev t3:RE := .v 3
abbrev t4:RE := .v 4
abbrev t5:RE := .v 5
abbrev t6:RE := .v 6
abbrev t7:RE := .v 7
def insN (a : Nat) : List Nat → List Nat
 | []=>[a]
 | b :: l=>if Nat.ble a b then a :: b :: l else b :: insN a l
def mergeN (l m:List Nat):List Nat:=l.foldr insN m
def leN : List Nat → List Nat → Bool
 | [],_=>true
 | _ :: _,[]=>false
 | a :: l,b :: m=>if Nat.blt a b then true else if Nat.blt b a then false else leN l m
def insL (a : List Nat) : List (List Nat) → List (List Nat)
 | []=>[a]
 | b :: l=>if leN a b then a :: b :: l else b :: insL a l
def sortL (l:List (List Nat)):List (List Nat):=l.foldr insL []
def prodL (l m:List (List Nat)):List (List Nat):=l.foldr (fun x r=>m.map (mergeN x)++r) []
def RE.nf : RE → List (List Nat) × List (List Nat)
 | .v i=>([[i]],[])
 | .z=>([],[])
 | .o=>([[]],[])
 | .add a b=>(a.nf.1++b.nf.1,a.nf.2++b.nf.2)
 | .neg a=>(a.nf.2,a.nf.1)
 | .sub a b=>(a.nf.1++b.nf.2,a.nf.2++b.nf.1)
 | .mul a b=>(prodL a.nf.1 b.nf.1++prodL a.nf.2 b.nf.2,prodL a.nf.1 b.nf.2++prodL a.nf.2 b.nf.1)
def eqL : List (List Nat) → List (List Nat) → Bool
 | [],[]=>true
 | a :: l,b :: m=>leN a b&&leN b a&&eqL l m
 | _,_=>false
def RE.chk (a b:RE):Bool:=eqL (sortL (a.nf.1++b.nf.2)) (sortL (b.nf.1++a.nf.2))
section
variable {α:Type} [Crg α]
def RE.ev (ρ : List α) : RE → α
 | .v i=>ρ.getD i 0
 | .z=>0
 | .o=>1
 | .add a b=>a.ev ρ+b.ev ρ
 | .mul a b=>a.ev ρ*b.ev ρ
 | .neg a => -a.ev ρ
 | .sub a b=>a.ev ρ-b.ev ρ
def mon (ρ : List α) : List Nat → α
 | []=>1
 | i :: l=>ρ.getD i 0*mon ρ l
def tot (ρ : List α) : List (List Nat) → α
 | []=>0
 | a :: l=>mon ρ a+tot ρ l
theorem mon_ins (ρ : List α) (a : Nat) : ∀ l, mon ρ (insN a l) = ρ.getD a 0 * mon ρ l
 | []=>rfl
 | b :: l=>by
  unfold insN
  split
  ·rfl
  ·show ρ.getD b 0*mon ρ (insN a l)=_
   rw[mon_ins ρ a l,mul_left_comm]
   rfl
theorem mon_merge (ρ : List α) (m : List Nat) : ∀ l, mon ρ (mergeN l m) = mon ρ l * mon ρ m
 | []=>(one_mul _).symm
 | a :: l=>by
  show mon ρ (insN a (mergeN l m))=ρ.getD a 0*mon ρ l*mon ρ m
  rw[mon_ins,mon_merge ρ m l,mul_assoc]
theorem tot_append (ρ : List α) (m : List (List Nat)) : ∀ l, tot ρ (l ++ m) = tot ρ l + tot ρ m
 | []=>(zero_add _).symm
 | a :: l=>by
  show mon ρ a+tot ρ (l++m)=mon ρ a+tot ρ l+tot ρ m
  rw[tot_append ρ m l,add_assoc]
theorem tot_map (ρ : List α) (x : List Nat) : ∀ m, tot ρ (m.map (mergeN x)) = mon ρ x * tot ρ m
 | []=>(mul_zero _).symm
 | a :: m=>by
  show mon ρ (mergeN x a)+tot ρ (m.map (mergeN x))=mon ρ x*(mon ρ a+tot ρ m)
  rw[mon_merge,tot_map ρ x m,mul_add]
theorem tot_prod (ρ : List α) (m : List (List Nat)) : ∀ l, tot ρ (prodL l m) = tot ρ l * tot ρ m
 | []=>(zero_mul _).symm
 | a :: l=>by
  show tot ρ (m.map (mergeN a)++prodL l m)=(mon ρ a+tot ρ l)*tot ρ m
  rw[tot_append,tot_map,tot_prod ρ m l,add_mul]
theorem tot_ins (ρ : List α) (a : List Nat) : ∀ l, tot ρ (insL a l) = mon ρ a + tot ρ l
 | []=>rfl
 | b :: l=>by
  unfold insL
  split
  ·rfl
  ·show mon ρ b+tot ρ (insL a l)=_
   rw[tot_ins ρ a l,add_left_comm]
   rfl
theorem tot_sort (ρ : List α) : ∀ l, tot ρ (sortL l) = tot ρ l
 | []=>rfl
 | a :: l=>by
  show tot ρ (insL a (sortL l))=_
  rw[tot_ins,tot_sort ρ l]
  rfl
theorem leN_eq : ∀ {l m : List Nat}, leN l m = true → leN m l = true → l = m
 | [],[],_,_=>rfl
 | [],_ :: _,_,h=>by cases h
 | _ :: _,[],h,_=>by cases h
 | a :: l,b :: m,h,k=>by
  unfold leN at h k
  by_cases e1:Nat.blt a b=true
  ·rw[if_pos e1]at k
   rw[Nat.blt_eq]at e1
   rw[if_neg (by rw[Nat.blt_eq];omega)]at k
   cases k
  ·by_cases e2:Nat.blt b a=true
   ·rw[if_neg e1,if_pos e2]at h
    cases h
   ·rw[if_neg e1,if_neg e2]at h
    rw[if_neg e2,if_neg e1]at k
    rw[Nat.blt_eq]at e1 e2
    rw[leN_eq h k,show a=b by omega]
theorem eqL_eq : ∀ {l m : List (List Nat)}, eqL l m = true → l = m
 | [],[],_=>rfl
 | [],_ :: _,h=>by cases h
 | _ :: _,[],h=>by cases h
 | a :: l,b :: m,h=>by
  unfold eqL at h
  simp only[Bool.and_eq_true]at h
  rw[leN_eq h.1.1 h.1.2,eqL_eq h.2]
theorem RE.ev_nf (ρ : List α) : ∀ e : RE, e.ev ρ + tot ρ e.nf.2 = tot ρ e.nf.1
 | .v i=>by show ρ.getD i 0+0=ρ.getD i 0*1+0;rw[mul_one]
 | .z=>rfl |> fun h=>(add_zero (0:α)).trans h
 | .o=>rfl
 | .add a b=>by
  show a.ev ρ+b.ev ρ+tot ρ (a.nf.2++b.nf.2)=tot ρ (a.nf.1++b.nf.1)
  rw[tot_append,tot_append,← ev_nf ρ a,← ev_nf ρ b,add_assoc,add_assoc,add_left_comm (b.ev ρ)]
 | .neg a=>by
  show -a.ev ρ+tot ρ a.nf.1=tot ρ a.nf.2
  rw[← ev_nf ρ a,← add_assoc,neg_add,zero_add]
 | .sub a b=>by
  show a.ev ρ-b.ev ρ+tot ρ (a.nf.2++b.nf.1)=tot ρ (a.nf.1++b.nf.2)
  rw[tot_append,tot_append,← ev_nf ρ a,← ev_nf ρ b,sub_def,add_assoc,add_assoc]
  congr 1
  rw[add_left_comm (tot ρ a.nf.2),← add_assoc (-b.ev ρ),neg_add,zero_add]
 | .mul a b=>by
  show a.ev ρ*b.ev ρ+tot ρ (prodL a.nf.1 b.nf.2++prodL a.nf.2 b.nf.1)=tot ρ (prodL a.nf.1 b.nf.1++prodL a.nf.2 b.nf.2)
  rw[tot_append,tot_append,tot_prod,tot_prod,tot_prod,tot_prod,← ev_nf ρ a,← ev_nf ρ b]
  simp only[mul_add,add_mul]
  generalize a.ev ρ=x
  generalize b.ev ρ=y
  generalize tot ρ a.nf.2=u
  generalize tot ρ b.nf.2=w
  simp only[add_assoc]
  congr 1
  rw[add_left_comm (u*w),add_comm (u*w),← add_assoc,add_comm (x*w),add_assoc]
theorem RE.eq (ρ:List α) (a b:RE) (h:RE.chk a b=true):a.ev ρ=b.ev ρ:=by
 have h:=congrArg (tot ρ) (eqL_eq h)
 rw[tot_sort,tot_sort,tot_append,tot_append,← ev_nf ρ a,← ev_nf ρ b]at h
 rw[add_assoc,add_assoc,add_comm (tot ρ b.nf.2)]at h
 exact add_right_cancel h
end
end Crg
end Go.Proofs.YtibaocbpeaejkaaGreat
/- Polynomials over a field: the ring, degrees, division, common divisors, irreducible ones. Plain: no program. -/
namespace Go.Proofs.YtibaocbpeaejkaaGreat
open Crg
class Fld (K : Type) extends Crg K where
 inv:K->K
 mul_inv:∀ a:K,a≠0->a*inv a=1
 one_ne:(1:K)≠0
theorem Fld.domain {K:Type} [Fld K] {a b:K} (h:a*b=0):a=0∨b=0:=by
 by_cases e:a=0
 ·exact .inl e
 ·refine .inr ?_
  have:=congrArg (Fld.inv a*·) h
  simp only[mul_zero,← Crg.mul_assoc]at this
  rw[Crg.mul_comm (Fld.inv a),Fld.mul_inv a e,one_mul]at this
  exact this
structure Pol (K : Type) [Crg K] where
 f:Nat->K
 fin:∃ n,∀ j,n≤j->f j=0
namespace Pol
section
variable {K:Type} [Crg K]
theorem ext {a b:Pol K} (h:∀ i,a.f i=b.f i):a=b:=by
 cases a;cases b
 congr
 exact funext h
def cv (f g:Nat->K) (k:Nat):K:=sm (fun i=>f i*g (k-i)) (k+1)
theorem cv_comm (f g:Nat->K) (k:Nat):cv f g k=cv g f k:=by
 unfold cv
 rw[sm_rev]
 refine sm_congr fun i hi=>?_
 show f (k-i)*g (k-(k-i))=g i*f (k-i)
 rw[show k-(k-i)=i by omega,Crg.mul_comm]
theorem cv_add (f g h:Nat->K) (k:Nat):cv f (fun i=>g i+h i) k=cv f g k+cv f h k:=by
 unfold cv
 rw[← sm_add]
 exact sm_congr fun i _=>mul_add _ _ _
theorem cv_assoc (f g h:Nat->K) (k:Nat):cv (cv f g) h k=cv f (cv g h) k:=by
 unfold cv
 have e1:sm (fun i=>sm (fun i_1=>f i_1*g (i-i_1)) (i+1)*h (k-i)) (k+1)=sm (fun i=>sm (fun j=>f j*g (i-j)*h (k-(j+(i-j)))) (i+1)) (k+1):=by
  refine sm_congr fun i _=>?_
  rw[sm_mul]
  refine sm_congr fun j hj=>?_
  rw[show j+(i-j)=i by omega]
 rw[e1,sm_tri (fun j l=>f j*g l*h (k-(j+l)))]
 refine sm_congr fun j hj=>?_
 rw[mul_sm,show k+1-j=k-j+1 by omega]
 refine sm_congr fun l hl=>?_
 rw[Crg.mul_assoc,show k-(j+l)=k-j-l by omega]
theorem cv_fin {f g:Nat->K} {n m:Nat} (hf:∀ j,n≤j->f j=0) (hg:∀ j,m≤j->g j=0) (k:Nat) (hk:n+m-1≤k):cv f g k=0:=by
 refine sm_zero fun i hi=>?_
 rcases Nat.lt_or_ge i n with h | h
 ·rw[hg (k-i) (by omega),mul_zero]
 ·rw[hf i h,zero_mul]
instance : Crg (Pol K) where
 zero:=⟨fun _=>0,0,fun _ _=>rfl⟩
 one:=⟨fun i=>if i=0 then 1 else 0,1,fun j hj=>if_neg (by omega)⟩
 add a b:=⟨fun i=>a.f i+b.f i,by
  obtain⟨n,hn⟩:=a.fin
  obtain⟨m,hm⟩:=b.fin
  exact⟨max n m,fun j hj=>by rw[hn j (by omega),hm j (by omega),Crg.add_zero]⟩⟩
 mul a b:=⟨cv a.f b.f,by
  obtain⟨n,hn⟩:=a.fin
  obtain⟨m,hm⟩:=b.fin
  exact⟨n+m,fun j hj=>cv_fin hn hm j (by omega)⟩⟩
 neg a:=⟨fun i => -a.f i,by
  obtain⟨n,hn⟩:=a.fin
  exact⟨n,fun j hj=>by rw[hn j hj,neg_zero]⟩⟩
 sub a b:=⟨fun i=>a.f i-b.f i,by
  obtain⟨n,hn⟩:=a.fin
  obtain⟨m,hm⟩:=b.fin
  exact⟨max n m,fun j hj=>by rw[hn j (by omega),hm j (by omega),sub_self]⟩⟩
 add_assoc a b c:=ext fun i=>Crg.add_assoc _ _ _
 add_comm a b:=ext fun i=>Crg.add_comm _ _
 add_zero a:=ext fun i=>Crg.add_zero _
 add_neg a:=ext fun i=>Crg.add_neg _
 sub_def a b:=ext fun i=>Crg.sub_def _ _
 mul_assoc a b c:=ext fun i=>cv_assoc _ _ _ _
 mul_comm a b:=ext fun i=>cv_comm _ _ _
 mul_one a:=ext fun i=>by
  show cv a.f (fun i=>if i=0 then 1 else 0) i=a.f i
  unfold cv
  rw[sm_one (k:=i) (by omega) fun j hj hne=>by dsimp only;rw[if_neg (by omega),mul_zero]]
  dsimp only
  rw[if_pos (Nat.sub_self i),Crg.mul_one]
 mul_add a b c:=ext fun i=>cv_add _ _ _ _
theorem f_add (a b:Pol K) (i:Nat):(a+b).f i=a.f i+b.f i:=rfl
theorem f_sub (a b:Pol K) (i:Nat):(a-b).f i=a.f i-b.f i:=rfl
theorem f_zero (i:Nat):(0:Pol K).f i=0:=rfl
def mn (c:K) (k:Nat):Pol K:=⟨fun i=>if i=k then c else 0,k+1,fun j hj=>if_neg (by omega)⟩
abbrev C (c:K):Pol K:=mn c 0
theorem mn_mul (c:K) (k:Nat) (a:Pol K) (i:Nat):(mn c k*a).f i=if k≤i then c*a.f (i-k)else 0:=by
 show cv (fun i=>if i=k then c else 0) a.f i=_
 unfold cv
 split
 ·rw[sm_one (k:=k) (by omega) fun j hj hne=>by dsimp only;rw[if_neg hne,zero_mul]]
  dsimp only
  rw[if_pos rfl]
 ·exact sm_zero fun j hj=>by dsimp only;rw[if_neg (by omega),zero_mul]
theorem C_mul (c:K) (a:Pol K) (i:Nat):(C c*a).f i=c*a.f i:=by rw[mn_mul,if_pos (Nat.zero_le _)];rfl
theorem mn_mn (c d:K) (k l:Nat):(mn c k*mn d l:Pol K)=mn (c*d) (k+l):=ext fun i=>by
 rw[mn_mul]
 show(if k≤i then c*(if i-k=l then d else 0)else 0)=if i=k+l then c*d else 0
 by_cases h:i=k+l
 ·rw[if_pos h,if_pos (by omega),if_pos (by omega)]
 ·rw[if_neg h]
  split
  ·rw[if_neg (by omega),mul_zero]
  ·rfl
theorem C_add (c d:K):(C (c+d):Pol K)=C c+C d:=ext fun i=>by
 show(if i=0 then c+d else 0)=(if i=0 then c else 0)+if i=0 then d else 0
 split
 ·rfl
 ·rw[Crg.add_zero]
open Classical in
theorem ex_len (a:Pol K):∃ n,(∀ j,n≤j->a.f j=0)/\∀ k,n=k+1->a.f k≠0:=by
 obtain⟨n,hn⟩:=a.fin
 induction n with
 | zero=>exact⟨0,hn,fun k h=>by omega⟩
 | succ n ih =>
  by_cases h:a.f n=0
  ·exact ih fun j hj=>by
    by_cases e:j=n
    ·rw[e,h]
    ·exact hn j (by omega)
  ·exact⟨n+1,hn,fun k hk=>by rw[show k=n by omega];exact h⟩
noncomputable def len (a:Pol K):Nat:=(ex_len a).choose
theorem len_out (a:Pol K):∀ j,a.len≤j->a.f j=0:=(ex_len a).choose_spec.1
theorem len_top (a:Pol K) {k:Nat} (h:a.len=k+1):a.f k≠0:=(ex_len a).choose_spec.2 k h
theorem len_le {a:Pol K} {n:Nat} (h:∀ j,n≤j->a.f j=0):a.len≤n:=by
 rcases Nat.lt_or_ge n a.len with h1 | h1
 ·exact absurd (h (a.len-1) (by omega)) (len_top a (by omega))
 ·exact h1
theorem len_eq {a:Pol K} {k:Nat} (h:∀ j,k+1≤j->a.f j=0) (ht:a.f k≠0):a.len=k+1:=by
 have h1:=len_le h
 rcases Nat.lt_or_ge k a.len with h2 | h2
 ·omega
 ·exact absurd (len_out a k h2) ht
theorem len_zero:(0:Pol K).len=0:=Nat.le_zero.1 (len_le fun _ _=>rfl)
theorem len_nil {a:Pol K} (h:a.len=0):a=0:=ext fun i=>len_out a i (by omega)
theorem len_pos {a:Pol K} (h:a≠0):0<a.len:=Nat.pos_of_ne_zero fun e=>h (len_nil e)
theorem ne_of_len {a:Pol K} (h:0<a.len):a≠0:=fun e=>by rw[e,len_zero]at h;omega
theorem len_add (a b:Pol K):(a+b).len≤max a.len b.len:=len_le fun j hj=>by
 rw[f_add,len_out a j (by omega),len_out b j (by omega),Crg.add_zero]
theorem len_sub (a b:Pol K):(a-b).len≤max a.len b.len:=len_le fun j hj=>by
 rw[f_sub,len_out a j (by omega),len_out b j (by omega),sub_self]
theorem len_mul_le (a b:Pol K):(a*b).len≤a.len+b.len-1:=len_le fun j hj=>cv_fin (len_out a) (len_out b) j hj
theorem len_mn (c:K) (k:Nat):(mn c k:Pol K).len≤k+1:=len_le fun j hj=>if_neg (by omega)
theorem top_mul {a b:Pol K} {k l:Nat} (ha:a.len≤k+1) (hb:b.len≤l+1):(a*b).f (k+l)=a.f k*b.f l:=by
 show cv a.f b.f (k+l)=_
 unfold cv
 rw[sm_one (k:=k) (by omega) fun j hj hne=>?_]
 ·rw[show k+l-k=l by omega]
 ·rcases Nat.lt_or_ge j k with h | h
  ·rw[len_out b (k+l-j) (by omega),mul_zero]
  ·rw[len_out a j (by omega),zero_mul]
noncomputable def lead (a:Pol K):K:=a.f (a.len-1)
theorem lead_ne {a:Pol K} (h:a≠0):a.lead≠0:=len_top a (by have:=len_pos h;omega)
def Monic (a:Pol K):Prop:=0<a.len/\a.lead=1
def Dvs (a b:Pol K):Prop:=∃ c,b=a*c
theorem Dvs.refl (a:Pol K):Dvs a a:=⟨1,(Crg.mul_one a).symm⟩
theorem Dvs.trans {a b c:Pol K} (h:Dvs a b) (k:Dvs b c):Dvs a c:=by
 obtain⟨x,rfl⟩:=h
 obtain⟨y,rfl⟩:=k
 exact⟨x*y,Crg.mul_assoc _ _ _⟩
theorem Dvs.mul {a b:Pol K} (h:Dvs a b) (c:Pol K):Dvs a (b*c):=h.trans ⟨c,rfl⟩
theorem Dvs.mul' {a b:Pol K} (h:Dvs a b) (c:Pol K):Dvs a (c*b):=by rw[Crg.mul_comm];exact h.mul c
theorem Dvs.add {a b c:Pol K} (h:Dvs a b) (k:Dvs a c):Dvs a (b+c):=by
 obtain⟨x,rfl⟩:=h
 obtain⟨y,rfl⟩:=k
 exact⟨x+y,(mul_add _ _ _).symm⟩
theorem Dvs.sub {a b c:Pol K} (h:Dvs a b) (k:Dvs a c):Dvs a (b-c):=by
 obtain⟨x,rfl⟩:=h
 obtain⟨y,rfl⟩:=k
 exact⟨x-y,RE.eq [a,x,y] (t0*t1-t0*t2) (t0*(t1-t2)) rfl⟩
theorem Dvs.neg {a b:Pol K} (h:Dvs a b):Dvs a (-b):=by
 obtain⟨x,rfl⟩:=h
 exact⟨-x,(mul_neg _ _).symm⟩
theorem Dvs.zero (a:Pol K):Dvs a 0:=⟨0,(mul_zero a).symm⟩
theorem Dvs.one (a:Pol K):Dvs 1 a:=⟨a,(one_mul a).symm⟩
theorem Dvs.of_add {a b c:Pol K} (h:Dvs a (b+c)) (k:Dvs a b):Dvs a c:=by
 have:=h.sub k
 rwa [show b+c-b=c from RE.eq [b,c] (t0+t1-t0) t1 rfl]at this
end
section
variable {K:Type} [Fld K]
theorem len_mul {a b:Pol K} (ha:a≠0) (hb:b≠0):(a*b).len+1=a.len+b.len:=by
 have h1:=len_pos ha
 have h2:=len_pos hb
 have e:=len_eq (a:=a*b) (k:=a.len-1+(b.len-1)) (fun j hj=>cv_fin (len_out a) (len_out b) j (by omega)) (by
  rw[top_mul (by omega) (by omega)]
  intro h
  rcases Fld.domain h with h | h
  ·exact lead_ne ha h
  ·exact lead_ne hb h)
 omega
theorem domain {a b:Pol K} (h:a*b=0):a=0∨b=0:=by
 by_cases ha:a=0
 ·exact .inl ha
 by_cases hb:b=0
 ·exact .inr hb
 have:=len_mul ha hb
 have:=len_pos ha
 have:=len_pos hb
 rw[h,len_zero]at *
 omega
theorem cancel {a b c:Pol K} (ha:a≠0) (h:a*b=a*c):b=c:=by
 have:a*(b-c)=0:=by
  rw[show a*(b-c)=a*b-a*c from RE.eq [a,b,c] (t0*(t1-t2)) (t0*t1-t0*t2) rfl,h,sub_self]
 exact sub_eq_zero.1 ((domain this).resolve_left ha)
theorem lead_mul {a b:Pol K} (ha:a≠0) (hb:b≠0):(a*b).lead=a.lead*b.lead:=by
 have h:=len_mul ha hb
 have h1:=len_pos ha
 have h2:=len_pos hb
 unfold lead
 rw[show(a*b).len-1=a.len-1+(b.len-1)by omega,top_mul (by omega) (by omega)]
theorem Dvs.len {a b:Pol K} (h:Dvs a b) (hb:b≠0):a.len≤b.len:=by
 obtain⟨c,rfl⟩:=h
 have ha:a≠0:=fun e=>hb (by rw[e,zero_mul])
 have hc:c≠0:=fun e=>hb (by rw[e,mul_zero])
 have:=len_mul ha hc
 have:=len_pos hc
 omega
theorem one_ne:(1:Pol K)≠0:=fun e=>Fld.one_ne (K:=K) (by
 have:=congrArg (fun a:Pol K=>a.f 0) e
 exact this)
theorem len_C {c:K} (h:c≠0):(C c:Pol K).len=1:=len_eq (fun j hj=>if_neg (by omega)) (by show(if 0=0 then c else 0)≠0;rw[if_pos rfl];exact h)
theorem len_one:(1:Pol K).len=1:=len_C Fld.one_ne
theorem eq_C {a:Pol K} (h:a.len≤1):a=C (a.f 0):=ext fun i=>by
 show a.f i=if i=0 then a.f 0 else 0
 split
 ·rename_i e;rw[e]
 ·exact len_out a i (by omega)
theorem unit {a:Pol K} (h:a.len=1):∃ b,a*b=1/\b.len=1:=by
 have h0:a.f 0≠0:=len_top a h
 refine⟨C (Fld.inv (a.f 0)),?_,?_⟩
 ·rw[eq_C (a:=a) (by omega),mn_mn]
  show C ((if 0=0 then a.f 0 else 0)*Fld.inv (if 0=0 then a.f 0 else 0))=1
  rw[if_pos rfl,Fld.mul_inv _ h0]
  rfl
 ·refine len_C fun e=>?_
  have:=Fld.mul_inv _ h0
  rw[e,mul_zero]at this
  exact Fld.one_ne this.symm
theorem divide (b : Pol K) (hb : b ≠ 0) : ∀ (n : Nat) (a : Pol K), a.len ≤ n → ∃ q r, a = q * b + r ∧ r.len < b.len
 | 0,a,h=>⟨0,a,by rw[zero_mul,zero_add],by have:=len_pos hb;omega⟩
 | n+1,a,h=>by
  rcases Nat.lt_or_ge a.len b.len with h1 | h1
  ·exact⟨0,a,by rw[zero_mul,zero_add],h1⟩
  have h2:=len_pos hb
  have hl:=lead_ne hb
  let m:Pol K:=mn (a.lead*Fld.inv b.lead) (a.len-b.len)
  have hs:(a-m*b).len≤n:=len_le fun j hj=>by
   rw[f_sub,mn_mul]
   rcases Nat.lt_or_ge j a.len with h3 | h3
   ·have e:j=a.len-1:=by omega
    rw[if_pos (by omega),show j-(a.len-b.len)=b.len-1 by omega]
    show a.f j-a.lead*Fld.inv b.lead*b.lead=0
    rw[Crg.mul_assoc,Crg.mul_comm (Fld.inv b.lead),Fld.mul_inv _ hl,Crg.mul_one,e]
    exact sub_self _
   ·rw[len_out a j h3,if_pos (by omega),len_out b _ (by omega),mul_zero,sub_self]
  obtain⟨q,r,e,hr⟩:=divide b hb n (a-m*b) hs
  refine⟨m+q,r,?_,hr⟩
  have:a=m*b+(a-m*b):=RE.eq [a,m,b] t0 (t1*t2+(t0-t1*t2)) rfl
  rw[this,e]
  exact RE.eq [m,b,q,r] (t0*t1+(t2*t1+t3)) ((t0+t2)*t1+t3) rfl
theorem div_ex (a:Pol K) {b:Pol K} (hb:b≠0):∃ q r,a=q*b+r/\r.len<b.len:=divide b hb a.len a (Nat.le_refl _)
theorem bezout : ∀ (n : Nat) (a b : Pol K), b.len ≤ n → ∃ g u v, g = u * a + v * b ∧ Dvs g a ∧ Dvs g b
 | 0,a,b,h=>⟨a,1,0,by rw[one_mul,zero_mul,Crg.add_zero],Dvs.refl a,by rw[len_nil (a:=b) (by omega)];exact Dvs.zero a⟩
 | n+1,a,b,h=>by
  by_cases hb:b=0
  ·exact⟨a,1,0,by rw[one_mul,zero_mul,Crg.add_zero],Dvs.refl a,by rw[hb];exact Dvs.zero a⟩
  obtain⟨q,r,e,hr⟩:=div_ex a hb
  obtain⟨g,u,v,h1,h2,h3⟩:=bezout n b r (by omega)
  refine⟨g,v,u-v*q,?_,?_,h2⟩
  ·rw[h1,e]
   exact RE.eq [u,b,v,r,q] (t0*t1+t2*t3) (t2*(t4*t1+t3)+(t0-t2*t4)*t1) rfl
  ·rw[e]
   exact(h2.mul' q).add h3
def Cop (a b:Pol K):Prop:=∃ u v,u*a+v*b=1
theorem Cop.symm {a b:Pol K} (h:Cop a b):Cop b a:=by
 obtain⟨u,v,h⟩:=h
 exact⟨v,u,by rw[Crg.add_comm];exact h⟩
theorem Cop.dvs {a b c:Pol K} (h:Cop a b) (k:Dvs a (b*c)):Dvs a c:=by
 obtain⟨u,v,h⟩:=h
 have e:c=u*a*c+v*(b*c):=by
  rw[show u*a*c+v*(b*c)=(u*a+v*b)*c from RE.eq [u,a,c,v,b] (t0*t1*t2+t3*(t4*t2)) ((t0*t1+t3*t4)*t2) rfl,h,one_mul]
 rw[e]
 exact(((Dvs.refl a).mul' u).mul c).add (k.mul' v)
theorem Cop.mul {a b c:Pol K} (h:Cop a b) (k:Cop a c):Cop a (b*c):=by
 obtain⟨u,v,h⟩:=h
 obtain⟨s,t,k⟩:=k
 refine⟨u*s*a+u*t*c+v*b*s,v*t,?_⟩
 have:=congr (congrArg (·*·) h) k
 simp only[Crg.mul_one]at this
 rw[← this]
 exact RE.eq [u,s,a,t,c,v,b] ((t0*t1*t2+t0*t3*t4+t5*t6*t1)*t2+t5*t3*(t6*t4)) ((t0*t2+t5*t6)*(t1*t2+t3*t4)) rfl
theorem Cop.both {a b c:Pol K} (h:Cop a b) (h1:Dvs a c) (h2:Dvs b c):Dvs (a*b) c:=by
 obtain⟨x,rfl⟩:=h1
 obtain⟨y,rfl⟩:=h.symm.dvs h2
 exact⟨y,(Crg.mul_assoc _ _ _).symm⟩
structure Irr (P : Pol K) : Prop where
 two:2≤P.len
 irr:∀ a b,P=a*b->a.len=1∨b.len=1
theorem Irr.ne {P:Pol K} (h:Irr P):P≠0:=ne_of_len (by have:=h.two;omega)
theorem Irr.or {P:Pol K} (h:Irr P) (a:Pol K):Dvs P a∨Cop P a:=by
 obtain⟨g,u,v,h1,⟨x,h2⟩,h3⟩:=bezout P.len a P (Nat.le_refl _) |> fun⟨g,u,v,e,d1,d2⟩=>(⟨g,u,v,e,d2,d1⟩:∃ g u v,g=u*a+v*P/\Dvs g P/\Dvs g a)
 rcases h.irr g x h2 with h4 | h4
 ·obtain⟨w,hw,_⟩:=unit h4
  refine .inr ⟨w*v,w*u,?_⟩
  rw[← hw,h1]
  exact RE.eq [w,v,P,u,a] (t0*t1*t2+t0*t3*t4) ((t3*t4+t1*t2)*t0) rfl
 ·obtain⟨w,hw,_⟩:=unit h4
  refine .inl ?_
  have:Dvs P g:=⟨w,by rw[h2,Crg.mul_assoc,hw,Crg.mul_one]⟩
  exact this.trans h3
theorem Irr.prime {P:Pol K} (h:Irr P) {a b:Pol K} (k:Dvs P (a*b)):Dvs P a∨Dvs P b :=
 (h.or a).elim .inl fun c => .inr (c.dvs k)
open Classical in
theorem ex_irr : ∀ (n : Nat) (a : Pol K), a.len ≤ n → 2 ≤ a.len → ∃ P, Irr P ∧ Dvs P a
 | 0,a,h,h2=>by omega
 | n+1,a,h,h2=>by
  by_cases hi:Irr a
  ·exact⟨a,hi,Dvs.refl a⟩
  have:∃ x y,a=x*y/\¬(x.len=1∨y.len=1):=by
   refine Classical.byContradiction fun hn=>hi ⟨h2,fun x y e=>?_⟩
   exact Classical.byContradiction fun hm=>hn ⟨x,y,e,hm⟩
  obtain⟨x,y,rfl,hm⟩:=this
  have ha:x*y≠0:=ne_of_len (by omega)
  have hx:x≠0:=fun e=>ha (by rw[e,zero_mul])
  have hy:y≠0:=fun e=>ha (by rw[e,mul_zero])
  have:=len_mul hx hy
  have:=len_pos hx
  have:=len_pos hy
  obtain⟨P,h3,h4⟩:=ex_irr n x (by omega) (by omega)
  exact⟨P,h3,h4.mul y⟩
def Cgr (m a b:Pol K):Prop:=Dvs m (a-b)
theorem Cgr.refl (m a:Pol K):Cgr m a a:=by show Dvs m (a-a);rw[sub_self];exact Dvs.zero m
theorem Cgr.symm {m a b:Pol K} (h:Cgr m a b):Cgr m b a:=by
 have:=Dvs.neg h
 rwa [show -(a-b)=b-a from RE.eq [a,b] (-(t0-t1)) (t1-t0) rfl]at this
theorem Cgr.trans {m a b c:Pol K} (h:Cgr m a b) (k:Cgr m b c):Cgr m a c:=by
 have:=Dvs.add h k
 rwa [show a-b+(b-c)=a-c from RE.eq [a,b,c] (t0-t1+(t1-t2)) (t0-t2) rfl]at this
theorem Cgr.add {m a b c d:Pol K} (h:Cgr m a b) (k:Cgr m c d):Cgr m (a+c) (b+d):=by
 have:=Dvs.add h k
 rwa [show a-b+(c-d)=a+c-(b+d)from RE.eq [a,b,c,d] (t0-t1+(t2-t3)) (t0+t2-(t1+t3)) rfl]at this
theorem Cgr.sub {m a b c d:Pol K} (h:Cgr m a b) (k:Cgr m c d):Cgr m (a-c) (b-d):=by
 have:=Dvs.sub h k
 rwa [show a-b-(c-d)=a-c-(b-d)from RE.eq [a,b,c,d] (t0-t1-(t2-t3)) (t0-t2-(t1-t3)) rfl]at this
theorem Cgr.mul {m a b c d:Pol K} (h:Cgr m a b) (k:Cgr m c d):Cgr m (a*c) (b*d):=by
 have:=Dvs.add (Dvs.mul h c) (Dvs.mul' k b)
 rwa [show(a-b)*c+b*(c-d)=a*c-b*d from RE.eq [a,b,c,d] ((t0-t1)*t2+t1*(t2-t3)) (t0*t2-t1*t3) rfl]at this
theorem Cgr.pw {m a b : Pol K} (h : Cgr m a b) : ∀ n, Cgr m (Crg.pw a n) (Crg.pw b n)
 | 0=>Cgr.refl _ _
 | n+1=>(Cgr.pw h n).mul h
theorem Cgr.mono {m k a b:Pol K} (h:Cgr m a b) (hk:Dvs k m):Cgr k a b:=hk.trans h
theorem Cgr.zero {m a:Pol K}:Cgr m a 0↔Dvs m a:=by
 show Dvs m (a-0)↔_
 rw[sub_zero]
end
end Pol
end Go.Proofs.YtibaocbpeaejkaaGreat
/- The field of p elements; polynomials over it modulo an irreducible one: Fermat, Frobenius, the number of roots. Plain: no program. -/
namespace Go.Proofs.YtibaocbpeaejkaaGreat
open Crg
class Prm (p : Int) : Prop where
 two:2≤p
 inv:∀ a:Int,a%p≠0->∃ b:Int,(a*b)%p=1
structure Zp (p : Int) where
 v:Int
 r:0≤v/\v<p
namespace Zp
section
variable {p:Int} [hp:Prm p]
theorem pos:0<p:=by have:=hp.two;omega
def red (a:Int):Zp p:=⟨a%p,Int.emod_nonneg _ (by have:=pos (p:=p);omega),Int.emod_lt_of_pos _ pos⟩
theorem red_v (a:Zp p):red a.v=a:=by
 obtain⟨v,r⟩:=a
 simp only[red,Int.emod_eq_of_lt r.1 r.2]
theorem red_eq {a b:Int}:(red a:Zp p)=red b↔a%p=b%p:=by
 simp only[red,Zp.mk.injEq]
omit hp in
theorem ext {a b:Zp p} (h:a.v=b.v):a=b:=by cases a;cases b;simp_all
omit hp in
theorem em1 (a b:Int):(a%p*b)%p=(a*b)%p:=by rw[Int.mul_emod,Int.emod_emod_of_dvd _ (Int.dvd_refl p),← Int.mul_emod]
omit hp in
theorem em2 (a b:Int):(a*(b%p))%p=(a*b)%p:=by rw[Int.mul_comm,em1,Int.mul_comm]
theorem inv_ex (a:Zp p):∃ b:Zp p,a.v≠0->(a.v*b.v)%p=1:=by
 by_cases h:a.v=0
 ·exact⟨a,fun k=>absurd h k⟩
 ·obtain⟨b,hb⟩:=hp.inv a.v (by rw[Int.emod_eq_of_lt a.r.1 a.r.2];exact h)
  refine⟨red b,fun _=>?_⟩
  show(a.v*(b%p))%p=1
  rw[Int.mul_emod,Int.emod_emod_of_dvd _ (Int.dvd_refl p),← Int.mul_emod,hb]
noncomputable instance : Fld (Zp p) where
 zero:=red 0
 one:=red 1
 add a b:=red (a.v+b.v)
 mul a b:=red (a.v*b.v)
 neg a:=red (-a.v)
 sub a b:=red (a.v-b.v)
 inv a:=(inv_ex a).choose
 add_assoc a b c:=red_eq.2 (by show((a.v+b.v)%p+c.v)%p=(a.v+(b.v+c.v)%p)%p;rw[Int.emod_add_emod,Int.add_emod_emod,Int.add_assoc])
 add_comm a b:=red_eq.2 (by rw[Int.add_comm])
 add_zero a:=by
  show red (a.v+0%p)=a
  rw[Int.zero_emod,Int.add_zero,red_v]
 add_neg a:=red_eq.2 (by show(a.v + -a.v%p)%p=0%p;rw[Int.add_emod_emod,Int.add_right_neg])
 sub_def a b:=red_eq.2 (by show(a.v-b.v)%p=(a.v + -b.v%p)%p;rw[Int.add_emod_emod,Int.sub_eq_add_neg])
 mul_assoc a b c:=red_eq.2 (by show((a.v*b.v)%p*c.v)%p=(a.v*((b.v*c.v)%p))%p;rw[em1,em2,Int.mul_assoc])
 mul_comm a b:=red_eq.2 (by rw[Int.mul_comm])
 mul_one a:=by
  show red (a.v*(1%p))=a
  rw[Int.emod_eq_of_lt (by omega) (by have:=hp.two;omega),Int.mul_one,red_v]
 mul_add a b c:=red_eq.2 (by show(a.v*((b.v+c.v)%p))%p=((a.v*b.v)%p+(a.v*c.v)%p)%p;rw[em2,Int.emod_add_emod,Int.add_emod_emod,Int.mul_add])
 mul_inv a h:=by
  have h0:a.v≠0:=fun e=>h (ext (by show a.v=0%p;rw[e,Int.zero_emod]))
  have h1:=(inv_ex a).choose_spec h0
  refine red_eq.2 ?_
  rw[h1,Int.emod_eq_of_lt (by omega) (by have:=hp.two;omega)]
 one_ne h:=by
  have h:(1:Int)%p=0%p:=red_eq.1 h
  rw[Int.emod_eq_of_lt (by omega) (by have:=hp.two;omega),Int.zero_emod]at h
  omega
theorem red_add (a b:Int):(red (a+b):Zp p)=red a+red b:=red_eq.2 (by show(a+b)%p=(a%p+b%p)%p;rw[Int.emod_add_emod,Int.add_emod_emod])
theorem red_mul (a b:Int):(red (a*b):Zp p)=red a*red b:=red_eq.2 (by show(a*b)%p=(a%p*(b%p))%p;rw[em1,em2])
theorem red_one:(red 1:Zp p)=1:=rfl
theorem red_neg (a:Int):(red (-a):Zp p) = -red a:=Crg.neg_eq (by rw[← red_add,Int.add_right_neg];rfl)
theorem red_sub (a b:Int):(red (a-b):Zp p)=red a-red b:=by rw[Int.sub_eq_add_neg,red_add,red_neg,← Crg.sub_def]
theorem red_eq_zero {a:Int}:(red a:Zp p)=0↔a%p=0:=by
 have:(red a:Zp p)=red 0↔_:=red_eq
 rw[Int.zero_emod]at this
 exact this
theorem v_zero {a:Zp p}:a.v=0↔a=0 :=
 ⟨fun h=>ext (by show a.v=0%p;rw[h,Int.zero_emod]),fun h=>by rw[h];exact Int.zero_emod p⟩
end
end Zp
namespace Crg
section
variable {α:Type} [Crg α]
def nc : Nat → α
 | 0=>0
 | n+1=>nc n+1
theorem nc_add (m : Nat) : ∀ n, (nc (m + n) : α) = nc m + nc n
 | 0=>(add_zero _).symm
 | n+1=>by
  show nc (m+n)+1=nc m+(nc n+1)
  rw[nc_add m n,add_assoc]
theorem nc_mul (m : Nat) : ∀ n, (nc (m * n) : α) = nc m * nc n
 | 0=>(mul_zero _).symm
 | n+1=>by
  show nc (m*n+m)=nc m*(nc n+1)
  rw[nc_add,nc_mul m n,mul_add,mul_one]
theorem nc_one:(nc 1:α)=1:=zero_add 1
def bin : Nat → Nat → Nat
 | _,0=>1
 | 0,_+1=>0
 | n+1,k+1=>bin n k+bin n (k+1)
theorem bin_zero (n:Nat):bin n 0=1:=by cases n <;> rfl
theorem bin_big : ∀ {n k : Nat}, n < k → bin n k = 0
 | 0,0,h=>by omega
 | 0,_+1,_=>rfl
 | n+1,0,h=>by omega
 | n+1,k+1,h=>by
  show bin n k+bin n (k+1)=0
  rw[bin_big (n:=n) (k:=k) (by omega),bin_big (n:=n) (k:=k+1) (by omega)]
theorem bin_self : ∀ n, bin n n = 1
 | 0=>rfl
 | n+1=>by
  show bin n n+bin n (n+1)=1
  rw[bin_self n,bin_big (by omega)]
theorem bin_mul : ∀ n k, (n + 1) * bin n k = bin (n + 1) (k + 1) * (k + 1)
 | 0,0=>rfl
 | 0,k+1=>by
  show 1*0=(0+0)*(k+1+1)
  rw[Nat.zero_mul]
 | n+1,0=>by
  have h:(n+1)*bin n 0=bin (n+1) 1*1:=bin_mul n 0
  rw[bin_zero]at h ⊢
  show(n+1+1)*1=(bin (n+1) 0+bin (n+1) 1)*1
  rw[bin_zero]
  omega
 | n+1,k+1=>by
  have h1:=bin_mul n k
  have h2:=bin_mul n (k+1)
  show(n+1+1)*bin (n+1) (k+1)=(bin (n+1) (k+1)+bin (n+1) (k+2))*(k+1+1)
  have e:bin (n+1) (k+1)=bin n k+bin n (k+1):=rfl
  have e1:(n+1+1)*bin (n+1) (k+1)=(n+1)*bin n k+(n+1)*bin n (k+1)+bin (n+1) (k+1):=by
   rw[Nat.add_mul,Nat.one_mul,← Nat.mul_add,← e]
  rw[e1,h1,h2,Nat.add_mul,Nat.mul_add (bin (n+1) (k+1)) (k+1) 1,Nat.mul_one]
  show _+bin (n+1) (k+2)*(k+1+1)+_=_
  omega
theorem pw_bin (a b : α) : ∀ n, pw (a + b) n = sm (fun k => nc (bin n k) * (pw a k * pw b (n - k))) (n + 1)
 | 0=>by
  show(1:α)=0+nc (bin 0 0)*(1*1)
  rw[bin_zero,nc_one,zero_add,mul_one,mul_one]
 | n+1=>by
  have ih:=pw_bin a b n
  have ha:sm (fun k=>nc (bin n k)*(pw a k*pw b (n-k))) (n+1)*a=sm (fun k=>nc (bin n k)*(pw a (k+1)*pw b (n-k))) (n+1):=by
   rw[sm_mul]
   refine sm_congr fun k _=>?_
   exact RE.eq [nc (bin n k),pw a k,pw b (n-k),a] (t0*(t1*t2)*t3) (t0*(t1*t3*t2)) rfl
  have hb:sm (fun k=>nc (bin n k)*(pw a k*pw b (n-k))) (n+1)*b=pw b (n+1)+sm (fun k=>nc (bin n (k+1))*(pw a (k+1)*pw b (n-k))) (n+1):=by
   rw[sm_mul,sm_head]
   have e1:sm (fun k=>nc (bin n (k+1))*(pw a (k+1)*pw b (n-k))) (n+1)=sm (fun k=>nc (bin n (k+1))*(pw a (k+1)*pw b (n-k))) n:=by
    show _+nc (bin n (n+1))*_=_
    rw[bin_big (by omega)]
    show _+0*_=_
    rw[zero_mul,add_zero]
   rw[e1]
   congr 1
   ·show nc (bin n 0)*(1*pw b (n-0))*b=pw b n*b
    rw[bin_zero,nc_one,one_mul,one_mul,Nat.sub_zero]
   ·refine sm_congr fun k hk=>?_
    show nc (bin n (k+1))*(pw a (k+1)*pw b (n-(k+1)))*b=_
    rw[show n-k=n-(k+1)+1 by omega]
    exact RE.eq [nc (bin n (k+1)),pw a (k+1),pw b (n-(k+1)),b] (t0*(t1*t2)*t3) (t0*(t1*(t2*t3))) rfl
  show pw (a+b) n*(a+b)=_
  rw[ih,mul_add,ha,hb,sm_head (fun k=>nc (bin (n+1) k)*(pw a k*pw b (n+1-k)))]
  have e2:sm (fun k=>nc (bin (n+1) (k+1))*(pw a (k+1)*pw b (n+1-(k+1)))) (n+1)=sm (fun k=>nc (bin n k)*(pw a (k+1)*pw b (n-k))) (n+1)+sm (fun k=>nc (bin n (k+1))*(pw a (k+1)*pw b (n-k))) (n+1):=by
   rw[← sm_add]
   refine sm_congr fun k _=>?_
   show nc (bin n k+bin n (k+1))*_=_
   rw[nc_add,add_mul,show n+1-(k+1)=n-k by omega]
  rw[e2]
  show _=nc (bin (n+1) 0)*(1*pw b (n+1-0))+_
  rw[bin_zero,nc_one,one_mul,one_mul,Nat.sub_zero,add_left_comm]
def pr (f : Nat → α) : Nat → α
 | 0=>1
 | n+1=>pr f n*f n
theorem pr_congr {f g : Nat → α} : ∀ {n : Nat}, (∀ i, i < n → f i = g i) → pr f n = pr g n
 | 0,_=>rfl
 | n+1,h=>by
  show pr f n*f n=pr g n*g n
  rw[pr_congr fun i hi=>h i (by omega),h n (by omega)]
theorem pr_mul (f g : Nat → α) : ∀ n, pr (fun i => f i * g i) n = pr f n * pr g n
 | 0=>(mul_one _).symm
 | n+1=>by
  show pr (fun i=>f i*g i) n*(f n*g n)=pr f n*f n*(pr g n*g n)
  rw[pr_mul f g n,mul_assoc,mul_assoc,mul_left_comm (pr g n)]
theorem pr_const (c : α) : ∀ n, pr (fun _ => c) n = pw c n
 | 0=>rfl
 | n+1=>by show pr (fun _=>c) n*c=pw c n*c;rw[pr_const c n]
def swp (k m i:Nat):Nat:=if i=k then m else if i=m then k else i
theorem pr_out (f : Nat → α) : ∀ {n k : Nat}, k < n → pr f n = pr (fun i => if i = k then 1 else f i) n * f k
 | n+1,k,h=>by
  show pr f n*f n=pr (fun i=>if i=k then 1 else f i) n*(if n=k then 1 else f n)*f k
  by_cases e:n=k
  ·subst e
   rw[if_pos rfl,mul_one]
   congr 1
   exact pr_congr fun i hi=>(if_neg (by omega)).symm
  ·rw[if_neg e,pr_out f (n:=n) (k:=k) (by omega),mul_assoc,mul_assoc,mul_comm (f k)]
theorem pr_swp (f:Nat->α) {n k m:Nat} (hk:k<n) (hm:m<n):pr (fun i=>f (swp k m i)) n=pr f n:=by
 by_cases e:k=m
 ·subst e
  refine pr_congr fun i _=>?_
  unfold swp
  split
  ·rename_i h;rw[h]
  ·rfl
 rw[pr_out f hk,pr_out (fun i=>if i=k then 1 else f i) hm,pr_out (fun i=>f (swp k m i)) hk,pr_out (fun i=>if i=k then 1 else f (swp k m i)) hm]
 rw[if_neg (fun h=>e h.symm),if_neg (fun h=>e h.symm)]
 have e1:swp k m k=m:=if_pos rfl
 have e2:swp k m m=k:=by
  unfold swp
  rw[if_neg (fun h=>e h.symm),if_pos rfl]
 rw[e1,e2,mul_assoc,mul_assoc,mul_comm (f k)]
 congr 1
 refine pr_congr fun i hi=>?_
 by_cases h1:i=m
 ·rw[if_pos h1,if_pos h1]
 ·rw[if_neg h1,if_neg h1]
  by_cases h2:i=k
  ·rw[if_pos h2,if_pos h2]
  ·rw[if_neg h2,if_neg h2]
   unfold swp
   rw[if_neg h2,if_neg h1]
theorem pr_perm (f : Nat → α) : ∀ (n : Nat) (s : Nat → Nat), (∀ i, i < n → s i < n) → (∀ i j, i < n → j < n → s i = s j → i = j) → pr (fun i => f (s i)) n = pr f n
 | 0,_,_,_=>rfl
 | n+1,s,h1,h2=>by
  have hk:=h1 n (by omega)
  have key:∀ i,i<n->swp (s n) n (s i)<n:=fun i hi=>by
   have a:=h1 i (by omega)
   have b:s i≠s n:=fun e=>by have:=h2 i n (by omega) (by omega) e;omega
   unfold swp
   rw[if_neg b]
   split
   ·rename_i e;omega
   ·omega
  have inj:∀ i j,swp (s n) n i=swp (s n) n j->i=j:=fun i j h=>by
   unfold swp at h
   split at h <;> split at h <;> first | omega | (split at h <;> first | omega | (split at h <;> omega))
  have inv:∀ i,swp (s n) n (swp (s n) n i)=i:=fun i=>by
   unfold swp
   split <;> split <;> first | omega | (split <;> omega)
  have ih:=pr_perm (fun i=>f (swp (s n) n i)) n (fun i=>swp (s n) n (s i)) key fun i j hi hj h=>h2 i j (by omega) (by omega) (inj _ _ h)
  rw[← pr_swp f hk (show n<n+1 by omega)]
  show _=pr (fun i=>f (swp (s n) n i)) n*f (swp (s n) n n)
  rw[← ih]
  show pr (fun i=>f (s i)) n*f (s n)=_
  have e:swp (s n) n n=s n:=by
   unfold swp
   split
   ·rename_i h;exact h
   ·rw[if_pos rfl]
  rw[e]
  congr 1
  refine pr_congr fun i _=>?_
  rw[inv]
end
end Crg
end Go.Proofs.YtibaocbpeaejkaaGreat
/- Polynomials over the field of p elements modulo an irreducible one. Plain: no program. -/
namespace Go.Proofs.YtibaocbpeaejkaaGreat
open Crg
namespace Pol
section
variable {K:Type} [Crg K]
theorem ind {Q:Pol K->Prop} (h0:Q 0) (ha:∀ a b,Q a->Q b->Q (a+b)) (hm:∀ c k,Q (mn c k)) (a:Pol K):Q a:=by
 have key:∀(n:Nat) (a:Pol K),(∀ j,n≤j->a.f j=0)->Q a:=by
  intro n
  induction n with
  | zero=>exact fun a h=>by rw[show a=0 from ext fun i=>h i (Nat.zero_le _)];exact h0
  | succ n ih =>
   intro a h
   rw[show a=(a-mn (a.f n) n)+mn (a.f n) n from RE.eq [a,mn (a.f n) n] t0 (t0-t1+t1) rfl]
   refine ha _ _ (ih _ fun j hj=>?_) (hm _ _)
   show a.f j-(if j=n then a.f n else 0)=0
   split
   ·rename_i e;rw[e,sub_self]
   ·rw[h j (by omega),sub_self]
 exact key a.len a (len_out a)
def X:Pol K:=mn 1 1
theorem pw_X : ∀ k, (pw X k : Pol K) = mn 1 k
 | 0=>rfl
 | k+1=>by
  show pw X k*X=_
  rw[pw_X k]
  show mn 1 k*mn 1 1=_
  rw[mn_mn,Crg.mul_one]
theorem mn_X (c:K) (k:Nat):(mn c k:Pol K)=C c*pw X k:=by rw[pw_X,mn_mn,Crg.mul_one,Nat.zero_add]
theorem C_mul_C (c d:K):(C c*C d:Pol K)=C (c*d):=mn_mn c d 0 0
theorem C_pw (c : K) : ∀ n, (pw (C c) n : Pol K) = C (pw c n)
 | 0=>rfl
 | n+1=>by
  show pw (C c) n*C c=C (pw c n*c)
  rw[C_pw c n,C_mul_C]
theorem nc_C : ∀ n, (nc n : Pol K) = C (nc n)
 | 0=>ext fun i=>by
  show(0:K)=if i=0 then 0 else 0
  split <;> rfl
 | n+1=>by
  show nc n+1=C (nc n+1)
  rw[nc_C n,C_add]
  rfl
theorem C_zero:(C 0:Pol K)=0:=ext fun i=>by
 show(if i=0 then(0:K)else 0)=0
 split <;> rfl
end
end Pol
section
variable {p:Int} [hp:Prm p]
theorem Zp.nc_red : ∀ n : Nat, (nc n : Zp p) = Zp.red n
 | 0=>rfl
 | n+1=>by
  show nc n+1=Zp.red ((n:Int)+1)
  rw[Zp.nc_red n,Zp.red_add]
  rfl
theorem Zp.nc_self (c:Zp p):nc c.v.toNat=c:=by
 rw[Zp.nc_red,show((c.v.toNat:Nat):Int)=c.v by have:=c.r.1;omega,Zp.red_v]
theorem Zp.nc_p:(nc p.toNat:Zp p)=0:=by
 rw[Zp.nc_red,show((p.toNat:Nat):Int)=p by have:=hp.two;omega]
 exact Zp.red_eq_zero.2 Int.emod_self
theorem two_le:2≤p.toNat:=by have:=hp.two;omega
theorem prm_dvd {a b:Nat} (h:p.toNat∣a*b):p.toNat∣a∨p.toNat∣b:=by
 have e:(p.toNat:Int)=p:=by have:=hp.two;omega
 have h1:(((a*b:Nat):Int))%p=0:=by
  rw[← e]
  exact Int.emod_eq_zero_of_dvd (Int.natCast_dvd_natCast.2 h)
 rw[Int.natCast_mul]at h1
 have h2:=(Zp.red_eq_zero (p:=p)).2 h1
 rw[Zp.red_mul]at h2
 rcases Fld.domain h2 with h3 | h3
 ·refine .inl (Int.natCast_dvd_natCast.1 ?_)
  rw[e]
  exact Int.dvd_of_emod_eq_zero (Zp.red_eq_zero.1 h3)
 ·refine .inr (Int.natCast_dvd_natCast.1 ?_)
  rw[e]
  exact Int.dvd_of_emod_eq_zero (Zp.red_eq_zero.1 h3)
theorem bin_prm {k:Nat} (h0:0<k) (hk:k<p.toNat):p.toNat∣bin p.toNat k:=by
 have h2:=two_le (p:=p)
 obtain⟨n,hn⟩:∃ n,p.toNat=n+1:=⟨p.toNat-1,by omega⟩
 obtain⟨j,rfl⟩:∃ j,k=j+1:=⟨k-1,by omega⟩
 have h:=bin_mul n j
 rw[← hn]at h
 rcases prm_dvd (p:=p) (a:=bin p.toNat (j+1)) (b:=j+1) ⟨_,h.symm⟩with h3 | h3
 ·exact h3
 ·exact absurd (Nat.le_of_dvd (by omega) h3) (by omega)
end
section
variable {p:Int} [hp:Prm p] {α:Type} [Crg α]
theorem frob1 (h0:(nc p.toNat:α)=0) (a b:α):pw (a+b) p.toNat=pw a p.toNat+pw b p.toNat:=by
 have h2:=two_le (p:=p)
 rw[pw_bin]
 obtain⟨n,hn⟩:∃ n,p.toNat=n+1:=⟨p.toNat-1,by omega⟩
 show sm _ p.toNat+nc (bin p.toNat p.toNat)*(pw a p.toNat*pw b (p.toNat-p.toNat))=_
 rw[bin_self,nc_one,Nat.sub_self]
 have e:sm (fun k=>nc (bin p.toNat k)*(pw a k*pw b (p.toNat-k))) p.toNat=pw b p.toNat:=by
  rw[sm_one (k:=0) (by omega) fun k hk hne=>?_]
  ·rw[bin_zero,nc_one,one_mul,Nat.sub_zero]
   exact one_mul _
  ·obtain⟨m,hm⟩:=bin_prm (p:=p) (k:=k) (by omega) hk
   rw[hm,nc_mul,h0,zero_mul,zero_mul]
 rw[e]
 show _+1*(_*1)=_
 rw[one_mul,mul_one,add_comm]
theorem frobN (h0 : (nc p.toNat : α) = 0) (a b : α) : ∀ d, pw (a + b) (p.toNat ^ d) = pw a (p.toNat ^ d) + pw b (p.toNat ^ d)
 | 0=>by rw[Nat.pow_zero,pw_one,pw_one,pw_one]
 | d+1=>by rw[Nat.pow_succ,pw_mul,frobN h0 a b d,frob1 h0,← pw_mul,← pw_mul]
end
section
variable {p:Int} [hp:Prm p]
theorem Zp.fermat (c:Zp p):pw c p.toNat=c:=by
 have key:∀ n:Nat,(pw (nc n) p.toNat:Zp p)=nc n:=by
  intro n
  induction n with
  | zero =>
   have h2:=two_le (p:=p)
   show pw 0 p.toNat=0
   rw[show p.toNat=p.toNat-1+1 by omega]
   exact mul_zero _
  | succ n ih =>
   show pw (nc n+1) p.toNat=nc n+1
   rw[frob1 Zp.nc_p,ih,one_pw]
 have:=key c.v.toNat
 rwa [Zp.nc_self]at this
theorem Zp.fermatN (c : Zp p) : ∀ d, pw c (p.toNat ^ d) = c
 | 0=>by rw[Nat.pow_zero,pw_one]
 | d+1=>by rw[Nat.pow_succ,pw_mul,Zp.fermatN c d,Zp.fermat]
theorem Pol.nc_p:(nc p.toNat:Pol (Zp p))=0:=by rw[Pol.nc_C,Zp.nc_p,Pol.C_zero]
open Pol
theorem frob_all {P:Pol (Zp p)} {d:Nat} (h:Cgr P (pw X (p.toNat^d)) X) (a:Pol (Zp p)):Cgr P (pw a (p.toNat^d)) a:=by
 refine Pol.ind (Q:=fun a=>Cgr P (pw a (p.toNat^d)) a) ?_ (fun a b ha hb=>?_) (fun c k=>?_) a
 ·rw[show(0:Pol (Zp p))=C 0 from C_zero.symm,C_pw,Zp.fermatN]
  exact Cgr.refl _ _
 ·rw[frobN Pol.nc_p]
  exact ha.add hb
 ·rw[mn_X,mul_pw,C_pw,Zp.fermatN,← pw_mul,Nat.mul_comm k,pw_mul]
  exact(Cgr.refl _ _).mul (h.pw k)
theorem frob_iter {P : Pol (Zp p)} {d : Nat} (h : Cgr P (pw X (p.toNat ^ d)) X) : ∀ k, Cgr P (pw X (p.toNat ^ (d * k))) X
 | 0=>by rw[Nat.mul_zero,Nat.pow_zero,pw_one];exact Cgr.refl _ _
 | k+1=>by
  rw[Nat.mul_succ,Nat.pow_add,pw_mul]
  exact(frob_iter h k |>.pw _).trans h
end
/-! ### Roots modulo an irreducible polynomial -/
section
variable {R:Type} [Crg R]
def hv (y : R) : List R → R
 | []=>0
 | c :: l=>c+y*hv y l
def sd (a : R) : List R → List R
 | []=>[]
 | [_]=>[]
 | _ :: l=>hv a l :: sd a l
theorem hv_sd (a b : R) : ∀ l : List R, hv b l - hv a l = (b - a) * hv b (sd a l)
 | []=>by show(0:R)-0=_*0;rw[sub_self,mul_zero]
 | [c]=>by
  show c+b*0-(c+a*0)=_*0
  rw[mul_zero,mul_zero,mul_zero,sub_self]
 | c :: d :: l=>by
  have ih:=hv_sd a b (d :: l)
  show c+b*hv b (d :: l)-(c+a*hv a (d :: l))=(b-a)*(hv a (d :: l)+b*hv b (sd a (d :: l)))
  generalize hv b (sd a (d :: l))=q at *
  generalize hv b (d :: l)=y at *
  generalize hv a (d :: l)=x at *
  have e:y=x+(b-a)*q:=by rw[← ih];exact RE.eq [x,y] t1 (t0+(t1-t0)) rfl
  rw[e]
  exact RE.eq [c,b,x,a,q] (t0+t1*(t2+(t1-t3)*t4)-(t0+t3*t2)) ((t1-t3)*(t2+t1*t4)) rfl
theorem sd_len (a : R) : ∀ l : List R, (sd a l).length = l.length - 1
 | []=>rfl
 | [_]=>rfl
 | _ :: d :: l=>by
  show(sd a (d :: l)).length+1=_
  rw[sd_len a (d :: l)]
  simp
theorem sd_last (a : R) : ∀ (l : List R), 2 ≤ l.length → (sd a l).getLast? = l.getLast?
 | [_,d],_=>by
  show some (d+a*0)=some d
  rw[mul_zero,add_zero]
 | c :: d :: e :: l,_=>by
  have ih:=sd_last a (d :: e :: l) (by simp)
  have h1:(c :: d :: e :: l).getLast? = (d :: e :: l).getLast? := by simp[List.getLast?_cons]
  rw[h1,← ih]
  show(hv a (d :: e :: l) :: sd a (d :: e :: l)).getLast? = _
  have:sd a (d :: e :: l)=hv a (e :: l) :: sd a (e :: l):=rfl
  rw[this]
  simp[List.getLast?_cons]
structure PrimeId (Z : R → Prop) : Prop where
 sub:∀ a b,Z a->Z b->Z (a-b)
 prime:∀ a b,Z (a*b)->Z a∨Z b
theorem roots_le {Z : R → Prop} (hZ : PrimeId Z) : ∀ (n : Nat) (cs ys : List R) (e : R), cs.length = n + 1 → cs.getLast? = some e → ¬ Z e → (∀ y ∈ ys, Z (hv y cs)) → ys.Pairwise (fun a b => ¬ Z (b - a)) → ys.length ≤ n
 | 0,cs,ys,e,h1,h2,h3,h4,h5=>by
  match cs,h1 with
  | [c],_ =>
   simp at h2
   subst h2
   match ys with
   | []=>exact Nat.le_refl _
   | y :: _ =>
    have:=h4 y (by simp)
    rw[show hv y [c]=c by show c+y*0=c;rw[mul_zero,add_zero]]at this
    exact absurd this h3
 | n+1,cs,ys,e,h1,h2,h3,h4,h5=>by
  match ys,h5 with
  | [],_=>exact Nat.zero_le _
  | a :: ys,h5 =>
   rw[List.pairwise_cons]at h5
   have:=roots_le hZ n (sd a cs) ys e (by rw[sd_len,h1];rfl) (by rw[sd_last a cs (by omega),h2]) h3 (fun y hy=>?_) h5.2
   ·simp only[List.length_cons];omega
   ·have ha:=h4 a (by simp)
    have hb:=h4 y (by simp[hy])
    have h6:=hZ.sub _ _ hb ha
    rw[hv_sd]at h6
    exact(hZ.prime _ _ h6).resolve_left (h5.1 y hy)
end
end Go.Proofs.YtibaocbpeaejkaaGreat
/- Polynomials over the field of p elements by their digits; Fermat modulo an irreducible polynomial; which irreducible polynomials divide x^(p^d) - x. Plain: no program. -/
namespace Go.Proofs.YtibaocbpeaejkaaGreat
open Crg Pol
section
variable {p:Int} [hp:Prm p]
def dgp (p:Int) [Prm p] (n:Nat):Pol (Zp p):=⟨fun i=>Zp.red ((n / p.toNat^i%p.toNat:Nat):Int),n+1,fun j hj=>by
 have h2:=two_le (p:=p)
 have h:n<p.toNat^j:=Nat.lt_of_lt_of_le (by omega:n<j) (Nat.le_of_lt (Nat.lt_pow_self (by omega)))
 rw[Nat.div_eq_of_lt h,Nat.zero_mod]
 rfl⟩
theorem dgp_len {n d:Nat} (h:n<p.toNat^d):(dgp p n).len≤d:=len_le fun j hj=>by
 have h2:=two_le (p:=p)
 have h:n<p.toNat^j:=Nat.lt_of_lt_of_le h (Nat.pow_le_pow_right (by omega) hj)
 show Zp.red ((n / p.toNat^j%p.toNat:Nat):Int)=0
 rw[Nat.div_eq_of_lt h,Nat.zero_mod]
 rfl
def cdp (a : Pol (Zp p)) : Nat → Nat
 | 0=>0
 | d+1=>cdp a d+(a.f d).v.toNat*p.toNat^d
theorem dig_lt (a:Pol (Zp p)) (i:Nat):(a.f i).v.toNat<p.toNat:=by have:=(a.f i).r;omega
theorem cdp_lt (a : Pol (Zp p)) : ∀ d, cdp a d < p.toNat ^ d
 | 0=>Nat.one_pos
 | d+1=>by
  have h1:=cdp_lt a d
  have h2:=Nat.mul_le_mul_right (p.toNat^d) (show(a.f d).v.toNat+1≤p.toNat from dig_lt a d)
  rw[Nat.add_mul,Nat.one_mul]at h2
  show cdp a d+(a.f d).v.toNat*p.toNat^d<p.toNat^(d+1)
  rw[Nat.pow_succ,Nat.mul_comm (p.toNat^d)]
  omega
theorem cdp_dig (a : Pol (Zp p)) : ∀ {d i : Nat}, i < d → cdp a d / p.toNat ^ i % p.toNat = (a.f i).v.toNat
 | d+1,i,h=>by
  have h2:=two_le (p:=p)
  show(cdp a d+(a.f d).v.toNat*p.toNat^d) / p.toNat^i%p.toNat=_
  rcases Nat.lt_or_ge i d with h1 | h1
  ·obtain⟨k,rfl⟩:∃ k,d=i+(k+1):=⟨d-i-1,by omega⟩
   rw[Nat.pow_add,← Nat.mul_assoc,Nat.mul_right_comm,Nat.add_mul_div_right _ _ (Nat.pow_pos (by omega)),Nat.pow_succ,← Nat.mul_assoc,Nat.add_mul_mod_self_right]
   exact cdp_dig a h1
  ·obtain rfl:i=d:=by omega
   rw[Nat.add_mul_div_right _ _ (Nat.pow_pos (by omega)),Nat.div_eq_of_lt (cdp_lt a i),Nat.zero_add,Nat.mod_eq_of_lt (dig_lt a i)]
theorem dgp_cdp {a:Pol (Zp p)} {d:Nat} (h:a.len≤d):dgp p (cdp a d)=a:=Pol.ext fun i=>by
 have h2:=two_le (p:=p)
 show Zp.red ((cdp a d / p.toNat^i%p.toNat:Nat):Int)=a.f i
 rcases Nat.lt_or_ge i d with h1 | h1
 ·rw[cdp_dig a h1,show(((a.f i).v.toNat:Nat):Int)=(a.f i).v by have:=(a.f i).r;omega,Zp.red_v]
 ·rw[len_out a i (by omega),Nat.div_eq_of_lt (Nat.lt_of_lt_of_le (cdp_lt a d) (Nat.pow_le_pow_right (by omega) h1)),Nat.zero_mod]
  rfl
theorem dgp_inj {n m d:Nat} (hn:n<p.toNat^d) (hm:m<p.toNat^d) (h:dgp p n=dgp p m):n=m:=by
 have h2:=two_le (p:=p)
 have key:∀ i,n / p.toNat^i%p.toNat=m / p.toNat^i%p.toNat:=fun i=>by
  have e:=congrArg (fun a:Pol (Zp p)=>(a.f i).v) h
  have e:((n / p.toNat^i%p.toNat:Nat):Int)%p=((m / p.toNat^i%p.toNat:Nat):Int)%p:=e
  have l1:=Nat.mod_lt (n / p.toNat^i) (show 0<p.toNat by omega)
  have l2:=Nat.mod_lt (m / p.toNat^i) (show 0<p.toNat by omega)
  rw[Int.emod_eq_of_lt (by omega) (by omega),Int.emod_eq_of_lt (by omega) (by omega)]at e
  omega
 have all:∀ k i,k=d-i->i≤d->n / p.toNat^i=m / p.toNat^i:=by
  intro k
  induction k with
  | zero =>
   intro i hk hi
   obtain rfl:i=d:=by omega
   rw[Nat.div_eq_of_lt hn,Nat.div_eq_of_lt hm]
  | succ k ih =>
   intro i hk hi
   have h3:=ih (i+1) (by omega) (by omega)
   rw[Nat.pow_succ,← Nat.div_div_eq_div_mul,← Nat.div_div_eq_div_mul]at h3
   have a1:=Nat.div_add_mod (n / p.toNat^i) p.toNat
   have a2:=Nat.div_add_mod (m / p.toNat^i) p.toNat
   rw[h3,key i]at a1
   omega
 have:=all d 0 (by omega) (Nat.zero_le _)
 rwa [Nat.pow_zero,Nat.div_one,Nat.div_one]at this
theorem dgp_zero:dgp p 0=0:=Pol.ext fun i=>by
 show Zp.red ((0 / p.toNat^i%p.toNat:Nat):Int)=0
 rw[Nat.zero_div,Nat.zero_mod]
 rfl
end
/-! ### Remainders -/
namespace Pol
section
variable {K:Type} [Fld K]
noncomputable def rm (a m:Pol K):Pol K:=open Classical in if h:m=0 then a else(div_ex a h).choose_spec.choose
theorem rm_spec (a:Pol K) {m:Pol K} (h:m≠0):Cgr m a (rm a m)/\(rm a m).len<m.len:=by
 unfold rm
 rw[dif_neg h]
 obtain⟨e,hl⟩:=(div_ex a h).choose_spec.choose_spec
 refine⟨⟨(div_ex a h).choose,?_⟩,hl⟩
 generalize (div_ex a h).choose_spec.choose=r at e
 generalize (div_ex a h).choose=q at e
 rw[e]
 exact RE.eq [q,m,r] (t0*t1+t2-t2) (t1*t0) rfl
theorem Cgr.eq {m a b:Pol K} (h:Cgr m a b) (ha:a.len<m.len) (hb:b.len<m.len):a=b:=by
 refine sub_eq_zero.1 (Classical.byContradiction fun hne=>?_)
 have h1:=Dvs.len h hne
 have:=len_sub a b
 omega
theorem rm_self {a m:Pol K} (h:a.len<m.len):rm a m=a:=by
 have hm:m≠0:=ne_of_len (by omega)
 obtain⟨h1,h2⟩:=rm_spec a hm
 exact(h1.eq h h2).symm
end
end Pol
section
variable {p:Int} [hp:Prm p]
theorem pr_dvs {K : Type} [Fld K] {P : Pol K} (h : Irr P) (g : Nat → Pol K) : ∀ n, (∀ i, i < n → ¬ Dvs P (g i)) → ¬ Dvs P (pr g n)
 | 0,_,hd=>by
  have h1:P.len≤(1:Pol K).len:=Dvs.len hd Pol.one_ne
  have:=h.two
  rw[len_one]at h1
  omega
 | n+1,hi,hd=>by
  rcases h.prime (show Dvs P (pr g n*g n)from hd)with h1 | h1
  ·exact pr_dvs h g n (fun i hi'=>hi i (by omega)) h1
  ·exact hi n (by omega) h1
theorem fermat_irr {P:Pol (Zp p)} (h:Irr P) (a:Pol (Zp p)):Cgr P (pw a (p.toNat^(P.len-1))) a:=by
 have h2:=two_le (p:=p)
 have ht:=h.two
 have hne:=h.ne
 obtain⟨N,hN⟩:∃ N,p.toNat^(P.len-1)=N+1:=⟨p.toNat^(P.len-1)-1,by have:=Nat.pow_pos (n:=P.len-1) (show 0<p.toNat by omega);omega⟩
 by_cases ha:Dvs P a
 ·have h1:Cgr P a 0:=Cgr.zero.2 ha
  rw[hN]
  refine Cgr.trans (b:=0) (Cgr.zero.2 ?_) h1.symm
  exact ha.mul' _
 have sm:∀ n,n<p.toNat^(P.len-1)->(dgp p n).len<P.len:=fun n hn=>by have:=dgp_len hn;omega
 have nz:∀ n,n<p.toNat^(P.len-1)->n≠0->¬ Dvs P (dgp p n):=fun n hn h0 hd=>by
  have e:dgp p n=dgp p 0:=by
   rw[dgp_zero]
   exact(Cgr.zero.2 hd).eq (sm n hn) (by rw[len_zero];omega)
  exact h0 (dgp_inj hn (by omega) e)
 let s:Nat->Nat:=fun n=>cdp (rm (a*dgp p n) P) (P.len-1)
 have hs:∀ n,dgp p (s n)=rm (a*dgp p n) P:=fun n=>dgp_cdp (by have:=(rm_spec (a*dgp p n) hne).2;omega)
 have s_lt:∀ n,s n<p.toNat^(P.len-1):=fun n=>cdp_lt _ _
 have s_c:∀ n,Cgr P (a*dgp p n) (dgp p (s n)):=fun n=>by rw[hs];exact(rm_spec _ hne).1
 have s0:∀ n,n<p.toNat^(P.len-1)->s n=0->n=0:=fun n hn e=>Classical.byContradiction fun h0=>by
  have:=s_c n
  rw[e,dgp_zero]at this
  rcases h.prime (Cgr.zero.1 this)with h1 | h1
  ·exact ha h1
  ·exact nz n hn h0 h1
 have s00:s 0=0:=by
  refine dgp_inj (d:=P.len-1) (s_lt 0) (by omega) ?_
  rw[hs,dgp_zero,mul_zero,rm_self (by rw[len_zero];omega)]
 have inj:∀ i j,i<p.toNat^(P.len-1)->j<p.toNat^(P.len-1)->s i=s j->i=j:=fun i j hi hj e=>by
  have h1:=s_c i
  rw[e]at h1
  have h3:=h1.trans (s_c j).symm
  have h4:Dvs P (a*(dgp p i-dgp p j)):=by
   rw[show a*(dgp p i-dgp p j)=a*dgp p i-a*dgp p j from RE.eq [a,dgp p i,dgp p j] (t0*(t1-t2)) (t0*t1-t0*t2) rfl]
   exact h3
  have h5:Cgr P (dgp p i) (dgp p j):=(h.prime h4).resolve_left ha
  exact dgp_inj hi hj (h5.eq (sm i hi) (sm j hj))
 let g:Nat->Pol (Zp p):=fun n=>if n=0 then 1 else dgp p n
 have e1:=pr_perm g (p.toNat^(P.len-1)) s (fun i _=>s_lt i) inj
 have e2:Cgr P (pr (fun i=>g (s i)) (p.toNat^(P.len-1))) (pr (fun i=>(if i=0 then 1 else a)*g i) (p.toNat^(P.len-1))):=by
  have key:∀ k,k≤p.toNat^(P.len-1)->Cgr P (pr (fun i=>g (s i)) k) (pr (fun i=>(if i=0 then 1 else a)*g i) k):=by
   intro k
   induction k with
   | zero=>exact fun _=>Cgr.refl _ _
   | succ k ih =>
    intro hk
    refine(ih (by omega)).mul ?_
    show Cgr P (if s k=0 then 1 else dgp p (s k)) ((if k=0 then 1 else a)*if k=0 then 1 else dgp p k)
    by_cases h0:k=0
    ·rw[h0,s00,if_pos rfl,if_pos rfl,mul_one]
     exact Cgr.refl _ _
    ·rw[if_neg h0,if_neg h0,if_neg (fun e=>h0 (s0 k (by omega) e))]
     exact(s_c k).symm
  exact key _ (Nat.le_refl _)
 rw[e1,pr_mul]at e2
 have e3:pr (fun i=>if i=0 then 1 else a) (p.toNat^(P.len-1))=pw a N:=by
  rw[hN]
  have:∀ m,pr (fun i=>if i=0 then(1:Pol (Zp p))else a) (m+1)=pw a m:=by
   intro m
   induction m with
   | zero=>exact mul_one _
   | succ m ih =>
    show pr (fun i=>if i=0 then(1:Pol (Zp p))else a) (m+1)*(if m+1=0 then 1 else a)=pw a m*a
    rw[ih,if_neg (by omega)]
  exact this N
 rw[e3]at e2
 have hg:¬ Dvs P (pr g (p.toNat^(P.len-1))):=pr_dvs h g _ fun i hi=>by
  show ¬ Dvs P (if i=0 then 1 else dgp p i)
  split
  ·intro hd
   have:=Dvs.len hd Pol.one_ne
   rw[len_one]at this
   omega
  ·rename_i h0
   exact nz i hi h0
 generalize pr g (p.toNat^(P.len-1))=G at *
 have h6:Dvs P (G*(pw a N-1)):=by
  rw[show G*(pw a N-1)=pw a N*G-G from RE.eq [G,pw a N] (t0*(t1-1)) (t1*t0-t0) rfl]
  exact Cgr.symm e2
 have h7:=(h.prime h6).resolve_left hg
 rw[hN]
 show Dvs P (pw a N*a-a)
 rw[show pw a N*a-a=(pw a N-1)*a from RE.eq [a,pw a N] (t1*t0-t0) ((t1-1)*t0) rfl]
 exact h7.mul a
theorem irr_prime {P:Pol (Zp p)} (h:Irr P):PrimeId (Dvs P):=⟨fun _ _ h1 h2=>h1.sub h2,fun _ _ h1=>h.prime h1⟩
theorem hv_rep {R : Type} [Crg R] (y : R) (e : R) : ∀ k, hv y (List.replicate k 0 ++ [e]) = pw y k * e
 | 0=>by show e+y*0=1*e;rw[mul_zero,add_zero,one_mul]
 | k+1=>by
  show 0+y*hv y (List.replicate k 0++[e])=pw y k*y*e
  rw[hv_rep y e k,zero_add]
  exact RE.eq [y,pw y k,e] (t0*(t1*t2)) (t1*t0*t2) rfl
theorem deg_le {P:Pol (Zp p)} (h:Irr P) {d:Nat} (hd:1≤d) (hx:Cgr P (pw X (p.toNat^d)) X):P.len≤d+1:=by
 have h2:=two_le (p:=p)
 have ht:=h.two
 have hN:2≤p.toNat^d:=Nat.le_trans h2 (Nat.le_trans (by rw[Nat.pow_one];exact Nat.le_refl _) (Nat.pow_le_pow_right (n:=p.toNat) (by omega) hd))
 obtain⟨k,hk⟩:∃ k,p.toNat^d=k+2:=⟨p.toNat^d-2,by omega⟩
 let cs:List (Pol (Zp p)):=0 :: -1 :: (List.replicate k 0++[1])
 have hcs:∀ y,hv y cs=pw y (p.toNat^d)-y:=fun y=>by
  show 0+y*(-1+y*hv y (List.replicate k 0++[1]))=_
  rw[hv_rep,hk]
  show _=pw y k*y*y-y
  exact RE.eq [y,pw y k] (0+t0*(-1+t0*(t1*1))) (t1*t0*t0-t0) rfl
 have hr:=roots_le (irr_prime h) (p.toNat^d) cs ((List.range (p.toNat^(P.len-1))).map (dgp p)) 1 (by simp[cs,hk]) (by simp[cs,List.getLast?_cons]) (fun hd=>by
  have:=Dvs.len hd Pol.one_ne
  rw[len_one]at this
  omega) (fun y _=>by rw[hcs];exact frob_all hx y) (by
  rw[List.pairwise_map]
  refine List.Pairwise.imp_of_mem (R:=fun a b=>a<b) (fun {a b} ha hb hab hdv=>?_) List.pairwise_lt_range
  have ha:=List.mem_range.1 ha
  have hb:=List.mem_range.1 hb
  have e:dgp p b=dgp p a:=Cgr.eq hdv (by have:=dgp_len hb;omega) (by have:=dgp_len ha;omega)
  have:=dgp_inj hb ha e
  omega)
 rw[List.length_map,List.length_range]at hr
 have:=(Nat.pow_le_pow_iff_right (a:=p.toNat) (by omega)).1 hr
 omega
theorem deg_dvd {P:Pol (Zp p)} (h:Irr P) {d:Nat}:Cgr P (pw X (p.toNat^d)) X↔P.len-1∣d:=by
 have ht:=h.two
 have hf:=fermat_irr h X
 refine⟨fun hx=>?_,fun⟨k,hk⟩=>by rw[hk];exact frob_iter hf k⟩
 have e:=Nat.div_add_mod d (P.len-1)
 have hl:=Nat.mod_lt d (show 0<P.len-1 by omega)
 rw[← e,Nat.pow_add,pw_mul]at hx
 have h1:=((frob_iter hf (d / (P.len-1))).pw (p.toNat^(d%(P.len-1)))).symm.trans hx
 refine Nat.dvd_of_mod_eq_zero (Classical.byContradiction fun hne=>?_)
 have:=deg_le h (by omega) h1
 omega
end
end Go.Proofs.YtibaocbpeaejkaaGreat
/- The derivative; polynomials without square divisors; irreducible polynomials of each degree. Plain: no program. -/
namespace Go.Proofs.YtibaocbpeaejkaaGreat
open Crg
namespace Pol
section
variable {K:Type} [Crg K]
theorem mn_zero (k:Nat):(mn 0 k:Pol K)=0:=ext fun i=>by
 show(if i=k then(0:K)else 0)=0
 split <;> rfl
def dv (a:Pol K):Pol K:=⟨fun i=>nc (i+1)*a.f (i+1),a.len,fun j hj=>by rw[len_out a _ (by omega),mul_zero]⟩
theorem dv_add (a b:Pol K):dv (a+b)=dv a+dv b:=ext fun _=>mul_add _ _ _
theorem dv_zero:dv (0:Pol K)=0:=ext fun _=>mul_zero _
theorem dv_mn (c:K) (k:Nat):dv (mn c k)=mn (nc k*c) (k-1):=ext fun i=>by
 show nc (i+1)*(if i+1=k then c else 0)=if i=k-1 then nc k*c else 0
 by_cases h:i+1=k
 ·rw[if_pos h,if_pos (by omega),h]
 ·rw[if_neg h,mul_zero]
  split
  ·rw[show k=0 by omega]
   exact(zero_mul c).symm
  ·rfl
theorem dv_mul (a b:Pol K):dv (a*b)=dv a*b+a*dv b:=by
 refine ind (Q:=fun a=>dv (a*b)=dv a*b+a*dv b) ?_ (fun a c ha hc=>?_) (fun c k=>?_) a
 ·rw[zero_mul,dv_zero,zero_mul,zero_mul,Crg.add_zero]
 ·rw[add_mul,dv_add,ha,hc,dv_add]
  exact RE.eq [a,b,c,dv a,dv b,dv c] (t3*t1+t0*t4+(t5*t1+t2*t4)) ((t3+t5)*t1+(t0+t2)*t4) rfl
 ·refine ind (Q:=fun b=>dv (mn c k*b)=dv (mn c k)*b+mn c k*dv b) ?_ (fun a d ha hd=>?_) (fun d l=>?_) b
  ·rw[mul_zero,dv_zero,mul_zero,mul_zero,Crg.add_zero]
  ·rw[mul_add,dv_add,ha,hd,dv_add]
   exact RE.eq [mn c k,dv (mn c k),a,d,dv a,dv d] (t1*t2+t0*t4+(t1*t3+t0*t5)) (t1*(t2+t3)+t0*(t4+t5)) rfl
  ·rw[mn_mn,dv_mn,dv_mn,dv_mn,mn_mn,mn_mn,nc_add]
   have e1:(mn (nc k*c*d) (k-1+l):Pol K)=mn (nc k*c*d) (k+l-1):=by
    rcases Nat.eq_zero_or_pos k with h | h
    ·subst h
     show(mn (0*c*d) _:Pol K)=mn (0*c*d) _
     rw[zero_mul,zero_mul,mn_zero,mn_zero]
    ·rw[show k-1+l=k+l-1 by omega]
   have e2:(mn (c*(nc l*d)) (k+(l-1)):Pol K)=mn (c*(nc l*d)) (k+l-1):=by
    rcases Nat.eq_zero_or_pos l with h | h
    ·subst h
     show(mn (c*(0*d)) _:Pol K)=mn (c*(0*d)) _
     rw[zero_mul,mul_zero,mn_zero,mn_zero]
    ·rw[show k+(l-1)=k+l-1 by omega]
   rw[e1,e2]
   refine ext fun i=>?_
   show(if i=k+l-1 then(nc k+nc l)*(c*d)else 0)=(if i=k+l-1 then nc k*c*d else 0)+if i=k+l-1 then c*(nc l*d)else 0
   split
   ·exact RE.eq [nc k,nc l,c,d] ((t0+t1)*(t2*t3)) (t0*t2*t3+t2*(t1*t3)) rfl
   ·exact(Crg.add_zero _).symm
theorem dv_sub (a b:Pol K):dv (a-b)=dv a-dv b:=by
 have h:=dv_add (a-b) b
 rw[show a-b+b=a from RE.eq [a,b] (t0-t1+t1) t0 rfl]at h
 rw[h]
 exact RE.eq [dv (a-b),dv b] t0 (t0+t1-t1) rfl
end
section
variable {K:Type} [Fld K]
def Sqf (a:Pol K):Prop:=∀ P,Irr P->¬ Dvs (P*P) a
theorem Irr.not_one {P:Pol K} (h:Irr P):¬ Dvs P 1:=fun hd=>by
 have:=Dvs.len hd one_ne
 have:=h.two
 rw[len_one]at *
 omega
theorem Sqf.dvs : ∀ (n : Nat) {a h : Pol K}, a.len ≤ n → a ≠ 0 → Sqf a → (∀ P, Irr P → Dvs P a → Dvs P h) → Dvs a h
 | 0,a,h,hn,ha,_,_=>absurd (len_nil (a:=a) (by omega)) ha
 | n+1,a,h,hn,ha,hs,hd=>by
  rcases Nat.lt_or_ge a.len 2 with h1 | h1
  ·have:=len_pos ha
   obtain⟨w,hw,_⟩:=unit (a:=a) (by omega)
   exact⟨w*h,by rw[← Crg.mul_assoc,hw,one_mul]⟩
  obtain⟨P,hP,c,rfl⟩:=ex_irr a.len a (Nat.le_refl _) h1
  have hP0:=hP.ne
  have hc:c≠0:=fun e=>ha (by rw[e,mul_zero])
  have hl:=len_mul hP0 hc
  have:=hP.two
  have hsc:Sqf c:=fun S hS hSc=>hs S hS (hSc.mul' P)
  have hcd:=Sqf.dvs n (by omega) hc hsc fun S hS hSc=>hd S hS (hSc.mul' P)
  have hPd:=hd P hP ⟨c,rfl⟩
  refine Cop.both ((hP.or c).resolve_left fun⟨x,hx⟩=>hs P hP ⟨x,?_⟩) hPd hcd
  rw[hx,Crg.mul_assoc]
end
end Pol
open Pol
section
variable {p:Int} [hp:Prm p]
omit hp in
theorem nc_pow {α:Type} [Crg α] (h0:(nc p.toNat:α)=0) {d:Nat} (hd:1≤d):(nc (p.toNat^d):α)=0:=by
 rw[show d=1+(d-1)by omega,Nat.pow_add,Nat.pow_one,nc_mul,h0,zero_mul]
noncomputable abbrev fro (p:Int) [Prm p] (d:Nat):Pol (Zp p):=pw X (p.toNat^d)-X
theorem fro_len {d:Nat} (hd:1≤d):(fro p d).len=p.toNat^d+1:=by
 have h2:=two_le (p:=p)
 have hN:2≤p.toNat^d:=Nat.le_trans h2 (Nat.le_trans (by rw[Nat.pow_one];exact Nat.le_refl _) (Nat.pow_le_pow_right (n:=p.toNat) (by omega) hd))
 refine len_eq (fun j hj=>?_) ?_
 ·show(pw X (p.toNat^d)).f j-(X:Pol (Zp p)).f j=0
  rw[pw_X]
  show(if j=p.toNat^d then(1:Zp p)else 0)-(if j=1 then 1 else 0)=0
  rw[if_neg (by omega),if_neg (by omega),sub_self]
 ·show(pw X (p.toNat^d)).f (p.toNat^d)-(X:Pol (Zp p)).f (p.toNat^d)≠0
  rw[pw_X]
  show(if p.toNat^d=p.toNat^d then(1:Zp p)else 0)-(if p.toNat^d=1 then 1 else 0)≠0
  rw[if_pos rfl,if_neg (by omega),sub_zero]
  exact Fld.one_ne
theorem fro_sqf {d:Nat} (hd:1≤d):Sqf (fro p d):=fun P hP ⟨h,e⟩=>by
 have e1:dv (fro p d) = -1:=by
  rw[dv_sub,pw_X,dv_mn,nc_pow Zp.nc_p hd,zero_mul,mn_zero]
  show 0-dv (mn 1 1) = -1
  rw[dv_mn,nc_one,Crg.mul_one]
  exact RE.eq (α:=Pol (Zp p)) [] (0-1) (-1) rfl
 rw[e,Crg.mul_assoc,dv_mul]at e1
 have h1:Dvs P (-1):=by
  rw[← e1,dv_mul]
  exact Dvs.add ((Dvs.mul ⟨h,rfl⟩ (dv P)) |> fun k=>by rw[Crg.mul_comm];exact k) (Dvs.mul ⟨1,(Crg.mul_one P).symm⟩ _)
 have h2:=h1.neg
 rw[neg_neg]at h2
 exact hP.not_one h2
theorem irr_dvs_fro {P:Pol (Zp p)} (h:Irr P) {d:Nat}:Dvs P (fro p d)↔P.len-1∣d:=deg_dvd h
theorem psi_len : ∀ h : Nat, (pr (fun i => fro p (i + 1)) h).len ≤ p.toNat ^ h * p.toNat ∧ pr (fun i => fro p (i + 1)) h ≠ 0
 | 0=>by
  have h2:=two_le (p:=p)
  refine⟨?_,Pol.one_ne⟩
  show(1:Pol (Zp p)).len≤_
  rw[len_one,Nat.pow_zero]
  omega
 | h+1=>by
  have h2:=two_le (p:=p)
  obtain⟨h3,h4⟩:=psi_len h
  have h5:=fro_len (p:=p) (d:=h+1) (by omega)
  have h6:fro p (h+1)≠0:=ne_of_len (by omega)
  have h7:=len_mul h4 h6
  refine⟨?_,fun e=>(domain e).elim h4 h6⟩
  show(pr (fun i=>fro p (i+1)) h*fro p (h+1)).len≤_
  rw[Nat.pow_succ]at h5 ⊢
  have h8:=Nat.mul_le_mul_left (p.toNat^h*p.toNat) h2
  omega
theorem ex_irr_deg {n:Nat} (hn:1≤n):∃ P:Pol (Zp p),Irr P/\P.len=n+1:=by
 have h2:=two_le (p:=p)
 refine Classical.byContradiction fun hno=>?_
 have h3:=fro_len (p:=p) hn
 obtain⟨h4,h5⟩:=psi_len (p:=p) (n / 2)
 have hd:Dvs (fro p n) (pr (fun i=>fro p (i+1)) (n / 2)):=by
  refine Sqf.dvs _ (Nat.le_refl _) (ne_of_len (by omega)) (fro_sqf hn) fun P hP hPd=>?_
  obtain⟨k,hk⟩:=(irr_dvs_fro hP).1 hPd
  have ht:=hP.two
  have hm:P.len-1≠n:=fun e=>hno ⟨P,hP,by omega⟩
  have hk2:2≤k:=by
   match k,hk with
   | 0,hk=>omega
   | 1,hk=>omega
   | k+2,_=>omega
  have hh:P.len-1≤n / 2:=by
   have:=Nat.mul_le_mul_left (P.len-1) hk2
   omega
  have key:∀ h,P.len-1≤h->Dvs P (pr (fun i=>fro p (i+1)) h):=by
   intro h
   induction h with
   | zero=>intro h;omega
   | succ h ih =>
    intro hle
    by_cases e:P.len-1=h+1
    ·exact Dvs.mul' ((irr_dvs_fro hP).2 (by rw[e];exact Nat.dvd_refl _)) _
    ·exact(ih (by omega)).mul _
  exact key _ hh
 have h6:=hd.len h5
 have h7:p.toNat^(n / 2)*p.toNat≤p.toNat^n:=by
  rw[← Nat.pow_succ]
  exact Nat.pow_le_pow_right (by omega) (by omega)
 omega
end
end Go.Proofs.YtibaocbpeaejkaaGreat
/- Values of polynomials; reciprocity of irreducible polynomials over the field of p elements. Plain: no program. -/
namespace Go.Proofs.YtibaocbpeaejkaaGreat
open Crg
structure Hm {A B : Type} [Crg A] [Crg B] (φ : A → B) : Prop where
 add:∀ a b,φ (a+b)=φ a+φ b
 mul:∀ a b,φ (a*b)=φ a*φ b
 one:φ 1=1
namespace Hm
variable {A B:Type} [Crg A] [Crg B] {φ:A->B}
theorem zero (h:Hm φ):φ 0=0:=by
 have:=h.add 0 0
 rw[add_zero]at this
 exact add_left_cancel (a:=φ 0) (by rw[add_zero];exact this.symm)
theorem neg (h:Hm φ) (a:A):φ (-a) = -φ a:=neg_eq (by rw[← h.add,add_neg,h.zero])
theorem sub (h:Hm φ) (a b:A):φ (a-b)=φ a-φ b:=by rw[sub_def,h.add,h.neg,← sub_def]
theorem pw (h : Hm φ) (a : A) : ∀ n, φ (Crg.pw a n) = Crg.pw (φ a) n
 | 0=>h.one
 | n+1=>by
  show φ (Crg.pw a n*a)=Crg.pw (φ a) n*φ a
  rw[h.mul,h.pw a n]
theorem pr (h : Hm φ) (g : Nat → A) : ∀ n, φ (Crg.pr g n) = Crg.pr (fun i => φ (g i)) n
 | 0=>h.one
 | n+1=>by
  show φ (Crg.pr g n*g n)=_*_
  rw[h.mul,h.pr g n]
theorem id:Hm (fun a:A=>a):=⟨fun _ _=>rfl,fun _ _=>rfl,rfl⟩
end Hm
namespace Pol
section
variable {A B:Type} [Crg A] [Crg B]
noncomputable def ev (φ:A->B) (y:B) (a:Pol A):B:=sm (fun i=>φ (a.f i)*pw y i) a.len
theorem ev_le {φ:A->B} (h:Hm φ) (y:B) {a:Pol A} {n:Nat} (hn:∀ j,n≤j->a.f j=0):ev φ y a=sm (fun i=>φ (a.f i)*pw y i) n :=
 (sm_more (f:=fun i=>φ (a.f i)*pw y i) (n:=a.len) (fun i hi=>by rw[len_out a i hi,h.zero,zero_mul]) (m:=n) (len_le hn)).symm
theorem ev_add {φ:A->B} (h:Hm φ) (y:B) (a b:Pol A):ev φ y (a+b)=ev φ y a+ev φ y b:=by
 rw[ev_le h y (a:=a) (n:=max a.len b.len) (fun j hj=>len_out a j (by omega)),ev_le h y (a:=b) (n:=max a.len b.len) (fun j hj=>len_out b j (by omega)),ev_le h y (a:=a+b) (n:=max a.len b.len) (fun j hj=>by rw[f_add,len_out a j (by omega),len_out b j (by omega),Crg.add_zero]),← sm_add]
 refine sm_congr fun i _=>?_
 rw[f_add,h.add,add_mul]
theorem ev_zero {φ:A->B} (h:Hm φ) (y:B):ev φ y 0=0:=by
 rw[ev_le h y (n:=0) fun _ _=>rfl]
 rfl
theorem ev_mn {φ:A->B} (h:Hm φ) (y:B) (c:A) (k:Nat):ev φ y (mn c k)=φ c*pw y k:=by
 rw[ev_le h y (n:=k+1) fun j hj=>if_neg (by omega)]
 rw[sm_one (k:=k) (by omega) fun i hi hne=>by
  show φ (if i=k then c else 0)*_=0
  rw[if_neg hne,h.zero,zero_mul]]
 show φ (if k=k then c else 0)*_=_
 rw[if_pos rfl]
theorem ev_mul {φ:A->B} (h:Hm φ) (y:B) (a b:Pol A):ev φ y (a*b)=ev φ y a*ev φ y b:=by
 refine ind (Q:=fun a=>ev φ y (a*b)=ev φ y a*ev φ y b) ?_ (fun a c ha hc=>?_) (fun c k=>?_) a
 ·rw[zero_mul,ev_zero h,zero_mul]
 ·rw[add_mul,ev_add h,ev_add h,add_mul,ha,hc]
 ·refine ind (Q:=fun b=>ev φ y (mn c k*b)=ev φ y (mn c k)*ev φ y b) ?_ (fun a d ha hd=>?_) (fun d l=>?_) b
  ·rw[mul_zero,ev_zero h,mul_zero]
  ·rw[mul_add,ev_add h,ev_add h,mul_add,ha,hd]
  ·rw[mn_mn,ev_mn h,ev_mn h,ev_mn h,h.mul,pw_add]
   exact RE.eq [φ c,φ d,pw y k,pw y l] (t0*t1*(t2*t3)) (t0*t2*(t1*t3)) rfl
theorem ev_hm {φ:A->B} (h:Hm φ) (y:B):Hm (ev φ y):=⟨ev_add h y,ev_mul h y,by
 show ev φ y (mn 1 0)=1
 rw[ev_mn h,h.one]
 exact mul_one _⟩
theorem ev_X {φ:A->B} (h:Hm φ) (y:B):ev φ y X=y:=by
 show ev φ y (mn 1 1)=y
 rw[ev_mn h,h.one,one_mul,pw_one]
theorem ev_C {φ:A->B} (h:Hm φ) (y:B) (c:A):ev φ y (C c)=φ c:=by
 rw[ev_mn h]
 exact mul_one _
theorem C_hm:Hm (C:A->Pol A):=⟨C_add,fun c d=>(C_mul_C c d).symm,rfl⟩
theorem hm_ext {φ ψ:Pol A->B} (h:Hm φ) (k:Hm ψ) (h1:∀ c,φ (C c)=ψ (C c)) (h2:φ X=ψ X) (a:Pol A):φ a=ψ a:=by
 refine ind (Q:=fun a=>φ a=ψ a) (by rw[h.zero,k.zero]) (fun a b ha hb=>by rw[h.add,k.add,ha,hb]) (fun c n=>?_) a
 rw[mn_X,h.mul,k.mul,h.pw,k.pw,h1,h2]
theorem Hm.comp {A B D:Type} [Crg A] [Crg B] [Crg D] {φ:A->B} {ψ:B->D} (h:Hm φ) (k:Hm ψ):Hm fun a=>ψ (φ a) :=
 ⟨fun a b=>by rw[h.add,k.add],fun a b=>by rw[h.mul,k.mul],by rw[h.one,k.one]⟩
noncomputable def up (a:Pol A):Pol (Pol A):=ev (fun c=>C (C c)) X a
theorem CC_hm:Hm (fun c:A=>(C (C c):Pol (Pol A))):=Hm.comp C_hm C_hm
theorem up_hm:Hm (up:Pol A->Pol (Pol A)):=ev_hm CC_hm X
theorem up_X:up (X:Pol A)=X:=ev_X CC_hm X
theorem up_C (c:A):up (C c)=C (C c):=ev_C CC_hm X c
theorem up_f (a:Pol A) (i:Nat):(up a).f i=C (a.f i):=by
 refine ind (Q:=fun a=>(up a).f i=C (a.f i)) ?_ (fun a b ha hb=>?_) (fun c k=>?_) a
 ·rw[up_hm.zero]
  exact C_zero.symm
 ·rw[up_hm.add,f_add,ha,hb,f_add,C_add]
 ·rw[mn_X,up_hm.mul,up_C,up_hm.pw,up_X,pw_X,C_mul,C_mul,pw_X]
  show C c*(if i=k then 1 else 0)=C (c*if i=k then 1 else 0)
  split
  ·rw[Crg.mul_one,Crg.mul_one]
  ·rw[mul_zero,mul_zero,C_zero]
theorem up_len (a:Pol A):(up a).len≤a.len:=len_le fun j hj=>by rw[up_f,len_out a j hj,C_zero]
end
section
variable {R:Type} [Crg R]
theorem div_monic {b : Pol R} {k : Nat} (hb : b.len ≤ k + 1) (h1 : b.f k = 1) : ∀ (n : Nat) (a : Pol R), a.len ≤ n → ∃ q r, a = q * b + r ∧ r.len ≤ k
 | 0,a,h=>⟨0,a,by rw[zero_mul,zero_add],by omega⟩
 | n+1,a,h=>by
  rcases Nat.lt_or_ge k a.len with h3 | h3
  ·let m:Pol R:=mn (a.f (a.len-1)) (a.len-(k+1))
   have hs:(a-m*b).len≤n:=len_le fun j hj=>by
    rw[f_sub,mn_mul]
    rcases Nat.lt_or_ge j a.len with h4 | h4
    ·have e:j=a.len-1:=by omega
     rw[if_pos (by omega),show j-(a.len-(k+1))=k by omega,h1,Crg.mul_one,e,sub_self]
    ·rw[len_out a j h4,if_pos (by omega),len_out b _ (by omega),mul_zero,sub_self]
   obtain⟨q,r,e,hr⟩:=div_monic hb h1 n (a-m*b) hs
   refine⟨m+q,r,?_,hr⟩
   have:a=m*b+(a-m*b):=RE.eq [a,m,b] t0 (t1*t2+(t0-t1*t2)) rfl
   rw[this,e]
   exact RE.eq [m,b,q,r] (t0*t1+(t2*t1+t3)) ((t0+t2)*t1+t3) rfl
  ·exact⟨0,a,by rw[zero_mul,zero_add],h3⟩
end
end Pol
theorem Crg.pr_swap {α : Type} [Crg α] (f : Nat → Nat → α) (m : Nat) : ∀ n, pr (fun i => pr (f i) m) n = pr (fun j => pr (fun i => f i j) n) m
 | 0=>by
  show(1:α)=pr (fun _=>1) m
  rw[pr_const,one_pw]
 | n+1=>by
  show pr (fun i=>pr (f i) m) n*pr (f n) m=pr (fun j=>pr (fun i=>f i j) n*f n j) m
  rw[pr_swap f m n,pr_mul]
theorem Crg.pr_zero {α : Type} [Crg α] {f : Nat → α} {k : Nat} : ∀ {n : Nat}, k < n → f k = 0 → pr f n = 0
 | n+1,h,e=>by
  show pr f n*f n=0
  by_cases hk:k=n
  ·rw[← hk,e,mul_zero]
  ·rw[pr_zero (show k<n by omega) e,zero_mul]
theorem Crg.pr_pw {α : Type} [Crg α] (a : α) (e : Nat → Nat) : ∀ n, pr (fun i => pw a (e i)) n = pw a (Nat.rec 0 (fun i s => s + e i) n)
 | 0=>rfl
 | n+1=>by
  show pr (fun i=>pw a (e i)) n*pw a (e n)=_
  rw[pr_pw a e n,← pw_add]
def geo (q:Nat) (n:Nat):Nat:=Nat.rec 0 (fun i s=>s+q^i) n
theorem geo_eq (q : Nat) : ∀ n, (q - 1) * geo q n = q ^ n - 1
 | 0=>by rw[Nat.pow_zero];rfl
 | n+1=>by
  show(q-1)*(geo q n+q^n)=_
  rw[Nat.mul_add,geo_eq q n,Nat.pow_succ,Nat.mul_comm (q^n),Nat.sub_mul,Nat.one_mul]
  rcases Nat.eq_zero_or_pos q with h | h
  ·subst h
   rcases Nat.eq_zero_or_pos n with h | h
   ·subst h;rfl
   ·rw[Nat.zero_pow h]
  ·have h1:=Nat.pow_pos (n:=n) h
   have h2:=Nat.mul_le_mul_right (q^n) h
   omega
end Go.Proofs.YtibaocbpeaejkaaGreat
