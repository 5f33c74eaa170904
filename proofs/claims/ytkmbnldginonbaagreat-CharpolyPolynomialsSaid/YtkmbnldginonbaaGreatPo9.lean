/- Lists of fractions in the program: what is dropped at the end, in a block of the caller's; the normal form, in a block of its own. -/
import Derived.Test.YtkmbnldginonbaaGreatPo8
import Derived.Test.YtkmbnldginonbaaGreatPo5
set_option maxHeartbeats 16000000
namespace Go.Proofs.YtkmbnldginonbaaGreat
open Go.RowKit
namespace Rf
theorem tb_tq {p : Nat → Bool} {v : Nat → Rat} : ∀ {n : Nat}, (∀ i, i < n → (p i = true ↔ v i = 0)) → tb p n = Q.tq v n
 | 0,_=>rfl
 | n+1,h=>by
  have h1:=h n (by omega);unfold tb Q.tq;rw[tb_tq fun i hi=>h i (by omega)];by_cases c:v n=0
  ·rw[if_pos (h1.2 c),if_pos c]
  ·rw[if_neg (fun e=>c (h1.1 e)),if_neg c]
theorem num_zero (x:Rat):decide ((ofR x).num.ds.length=0)=true↔x=0 :=
 ⟨fun a=>Rat.num_eq_zero.1 (jG.1 (of_decide_eq_true a)),fun a=>decide_eq_true (jG.2 (Rat.num_eq_zero.2 a))⟩
theorem W9 {n:Nat} {v:Nat->Rat} (hn:n<=1048576):FnOK Tryz.prog true 100 [.c (nql n v)] (.c (nql (Q.tq v n) v)):=by
 have:=(qtrim_ok (c:=fun i=>ofR (v i)) hn).weak (r:=true);rwa [tb_tq (p:=fun i=>decide ((ofR (v i)).num.ds.length=0)) (v:=v) fun i _=>num_zero _]at this
theorem qnorm_ok {n:Nat} {q:Nat->RawR} {L:Nat} {v:Nat->Rat} (hv:(fun i=>(q i).val)=v) (hn:n<=1048576) (hq:∀ i,i<n->(q i).Fit L) (hL:L+3<=LIM):FnOK Tryz.prog true 48 [.c (ql n q)] (.c (nql (Q.tq v n) v)):=by
 have h1:∀ i,i<n->FnOK Tryz.prog true 73 [.g (rr (q i))] (.g (nq (v i))):=fun i hi=>by
  rw[<- hv];exact wV (hq i hi) hL
 have h2:=W9 (v:=v) hn;clear hv hq;generalize Q.tq v n=N at *;have hT:∀ i,i=n->FnOK Tryz.prog true 100 [.c (.row 4 n fun k j=>(qpF v i k).getD j .any)] (.c (nql N v)):=fun i e=>arg_ok h2 fun D w vs h=>by
  match vs,h with
  | [v1],⟨h1,_⟩=>exact⟨zg rfl (fun k j hk hj=>by rw[e];exact V5 hk j) D w v1 h1,trivial⟩
 refine qV (E:=E1) qQ Tryz.func48 rfl mixed (by kernel_rfl) (by kernel_rfl) ?_;conv=>whnf
 refine⟨by omega,Int.le_refl _,by omega,by show(64:Int)*n<=281474976710656;omega,?_⟩;conv=>whnf
 refine qK (fun i:Nat=>gst [(3,.c (.gs 0 0)),(9,.c (ql n q)),(10,.c (.int .i64 n)),(11,.c (.int .i64 i))] [gqp n v i]) (fun i=>n-i) (fun i=>i<=n) 0 rfl (Weak.gen [some 0] rfl ⟨⟨_,rfl,rfl,rfl,by show Int.toNat n=n;omega,rfl,fun k j hk hj=>?_⟩,trivial⟩ ⟨⟨_,rfl,rfl,rfl⟩,rO rfl,⟨_,rfl,rfl⟩,⟨_,rfl,rfl⟩,trivial⟩) (Nat.zero_le _) fun i hi=>?_
 ·exact qY (congrArg (fun l=>l.getD j .any) (gV v k).symm) (z5 k j)
 conv=>whnf
 refine qg (fun(h:decide ((i:Int)<n)=true)=>?_) fun(h:decide ((i:Int)<n)=false)=>?_
 ·have h:=of_decide_eq_true h;have g1:=h1 i (by omega);conv=>whnf
  refine⟨by omega,by omega,?_⟩;conv=>whnf
  refine⟨_,g1,?_⟩;conv=>whnf
  refine⟨by omega,by show(i:Int)<(n:Int);omega,?_⟩;conv=>whnf
  refine⟨i64 (by omega) (by omega),?_⟩;conv=>whnf
  refine⟨i+1,by omega,Weak.gen [some 0] rfl ⟨⟨_,rfl,rfl,rfl,rfl,rfl,fun j k hj hk=>qY ?_ (z5 j k)⟩,trivial⟩ ⟨⟨_,rfl,rfl,rfl⟩,rO rfl,⟨_,rfl,rfl⟩,⟨_,rfl,rfl⟩,trivial⟩,by omega⟩;exact WZ (sz:=4) (g:=qpF v i) (g':=qpF v (i+1)) (l:=nq (v i)) rfl hk (y6 v i j)
 ·have h:=of_decide_eq_false h;have g:=hT i (by omega);conv=>whnf
  refine .inr ⟨fun k j _ _=>z5 k j,?_⟩;conv=>whnf
  refine⟨_,g,?_⟩;conv=>whnf
  exact⟨rfl,Sub.refl _⟩
def vz (v:Nat->Rat) (i k:Nat):RawR:=if k<i then ofR (v k)else⟨⟨false,[]⟩,⟨false,[]⟩⟩
theorem rmid_next (v:Nat->Rat) (i k:Nat):(if k=i then nq (v i)else rr (vz v i k))=rr (vz v (i+1) k):=by
 unfold vz;by_cases e:k=i
 ·rw[if_pos e,if_pos (by omega),e]
 ·rw[if_neg e];by_cases e2:k<i
  ·rw[if_pos e2,if_pos (by omega)]
  ·rw[if_neg e2,if_neg (by omega)]
theorem rmid_all {v:Nat->Rat} {n k:Nat} (h:k<n):vz v n k=ofR (v k):=if_pos h
theorem rmid_zero (v:Nat->Rat):vz v 0=fun _=>⟨⟨false,[]⟩,⟨false,[]⟩⟩:=funext fun k=>if_neg (Nat.not_lt_zero k)
abbrev gqr (n:Nat) (c:Nat->RawR):Gx:=⟨38,4,n,qlF c⟩
end Rf
end Go.Proofs.YtkmbnldginonbaaGreat
/- Sums and products of lists of fractions in the program. -/
namespace Go.Proofs.YtkmbnldginonbaaGreat
open Go.RowKit
namespace Rf
theorem qzero_ok {q:RawR} {L:Nat} {x:Rat} (hx:q.val=x) (h:q.Fit L) (hL:L+3<=LIM):FnOK Tryz.prog true 112 [.g (rr q)] (.c (.bool (decide (x=0)))):=by
 have h1:=qsign_ok h hL;rw[hx]at h1;have e:x.num.sign=0↔x=0:=⟨fun a=>Rat.num_eq_zero.1 (Int.sign_eq_zero_iff_zero.1 a),fun a=>by rw[a];rfl⟩;refine qV (E:=E1) qQ Tryz.func112 rfl mixed (by kernel_rfl) (by kernel_rfl) ?_;conv=>whnf
 refine⟨_,h1,?_⟩;conv=>whnf
 exact⟨rfl,z7 (decide_eq_decide.2 e)⟩
abbrev zraw:RawR:=⟨⟨false,[]⟩,⟨false,[]⟩⟩
abbrev Uj:List Cell:=[.bool false,.nil,.bool false,.nil]
theorem zraw_fit (L:Nat):zraw.Fit L:=⟨fun _ hd=>absurd hd List.not_mem_nil,fun _ hd=>absurd hd List.not_mem_nil,Nat.zero_le _,Nat.zero_le _⟩
theorem zraw_val:zraw.val=0:=by
 show zx _ (sgn false (Dg.val []))=0;exact xg _
theorem zsub:Sub (.g Uj) (.g (rr zraw)):=Sub.cells rfl fun i x y hx hy=>by
 match i,hx,hy with
 | 0,hx,hy=>cases hx;cases hy;exact SubC.refl _
 | 1,hx,hy=>cases hx;cases hy;exact SubC.nil _ _
 | 2,hx,hy=>cases hx;cases hy;exact SubC.refl _
 | 3,hx,hy=>cases hx;cases hy;exact SubC.nil _ _
 | i+4,hx,hy=>simp at hx
end Rf
end Go.Proofs.YtkmbnldginonbaaGreat
/- Products of lists of fractions in the program. -/
namespace Go.Proofs.YtkmbnldginonbaaGreat
open Go.RowKit
namespace Rf
theorem Wq {x y:Rat} {L L':Nat} (hx:qlen x<=L) (hy:qlen y<=L') (h1:1<=L+L'):qlen (x*y)<=L+L':=by
 have e:x*y=zx (x.num*y.num) ((x.den:Int)*(y.den:Int)):=by
  rw[<- yV,zw,zw]
 rw[e];unfold qlen at hx hy;have a1:=zJ x.num y.num;have a2:=zJ (x.den:Int) (y.den:Int);exact yF (by omega) (by omega) h1
theorem tq_zero {v : Nat → Rat} (h : ∀ k, v k = 0) : ∀ n, Q.tq v n = 0
 | 0=>rfl
 | n+1=>by unfold Q.tq;rw[if_pos (h n),tq_zero h n]
theorem cf_nil {F G:Nat->Rat} (h:(∀ k,F k=0)∨∀ k,G k=0) (k:Nat):Q.cf F G k=0:=Q.su_zero fun i _=>by
 rcases h with h | h
 ·rw[h,Rat.zero_mul]
 ·rw[h,Rat.mul_zero]
theorem nil_row (n:Nat) (f:Nat->Nat->Cell) (h:n=0):Sub (.c .nil) (.c (.row 4 n f)):=by
 subst h;exact fun D w v h=>SubC.nil 4 f D w v h
theorem qof_zero:FnOK Tryz.prog true 45 [.c (.int .i64 0)] (.g (nq 0)):=by
 have h:=qof_ok (n:=0) (by decide) (by decide);rwa [show((0:Int):Rat)=0 from rfl]at h
theorem qpMul_ok {n m:Nat} {q p:Nat->RawR} {L K:Nat} {F G:Nat->Rat} (hF:Q.qx n (fun i=>(q i).val)=F) (hG:Q.qx m (fun i=>(p i).val)=G) (hn:n<=4096) (hm:m<=4096) (hq:∀ i,i<n->(q i).Fit L) (hp:∀ i,i<m->(p i).Fit L) (h1:1<=L) (hs:∀ i k,i<=n->qlen (Q.mu F G i k)<=K) (hL:L+L+K+8<=LIM):FnOK Tryz.prog true 66 [.c (ql n q),.c (ql m p)] (.c (nql (Q.tq (Q.cf F G) (n+m-1)) (Q.cf F G))):=by
 have vF:∀ i,i<n->(q i).val=F i:=fun i hi=>by rw[<- hF,Q.qx_lt hi]
 have vG:∀ i,i<m->(p i).val=G i:=fun i hi=>by rw[<- hG,Q.qx_lt hi]
 have fF:Q.Fin n F:=by rw[<- hF];exact Q.qx_fin _ _
 have fG:Q.Fin m G:=by rw[<- hG];exact Q.qx_fin _ _
 have hz0:n=0∨m=0->Sub (.c .nil) (.c (nql (Q.tq (Q.cf F G) (n+m-1)) (Q.cf F G))):=fun h=>nil_row _ _ (tq_zero (cf_nil (h.imp (fun e k=>fF k (by omega)) fun e k=>fG k (by omega))) _);obtain⟨N,hN⟩:∃ N,N=n+m-1:=⟨_,rfl⟩;rw[<- hN]at hz0 ⊢
 have h0:=qof_zero;have z1:∀ i,i<n->FnOK Tryz.prog true 112 [.g (rr (q i))] (.c (.bool (decide (F i=0)))):=fun i hi=>qzero_ok (vF i hi) (hq i hi) (by omega);have z2:∀ j,j<m->FnOK Tryz.prog true 112 [.g (rr (p j))] (.c (.bool (decide (G j=0)))):=fun j hj=>qzero_ok (vG j hj) (hp j hj) (by omega);have p1:∀ i j,i<n->j<m->FnOK Tryz.prog true 46 [.g (rr (q i)),.g (rr (p j))] (.g (nq (F i*G j))):=fun i j hi hj=>by
  have:=qmul_ok (hq i hi) (hp j hj) (by omega);rwa [vF i hi,vG j hj]at this
 have a1:∀ i j,i<n->j<m->FnOK Tryz.prog true 93 [.g (nq (Q.mp (F i) G (Q.mu F G i) i j ((i:Int)+(j:Int)).toNat)),.g (nq (F i*G j))] (.g (nq (Q.mu F G i (i+j)+F i*G j))):=fun i j hi hj=>by
  rw[show((i:Int)+(j:Int)).toNat=i+j by omega,Q.mp_old];have k1:qlen (F i)<=L:=by rw[<- vF i hi];exact(hq i hi).qlen h1
  have k2:qlen (G j)<=L:=by rw[<- vG j hj];exact(hp j hj).qlen h1
  have:=qadd_ok (q:=ofR (Q.mu F G i (i+j))) (p:=ofR (F i*G j)) (zX (hs i _ (by omega))) (zX (Wq k1 k2 (by omega))) (by omega);rwa [qP,qP]at this
 have w0:∀ i,i<n->F i=0->∀ k,Q.mu F G i k=Q.mu F G (i+1) k:=fun i hi e k=>by
  rw[<- Q.mp_all fG i k,Q.mp_none e]
 have w1:=fun i k=>Q.mp_all fG (F:=F) i k;have w2:=fun k=>Q.mu_all fF (G:=G) k;have hT:=W9 (n:=N) (v:=Q.cf F G) (by omega);generalize Q.tq (Q.cf F G) N=T at *;have hT:∀ i,i=n->FnOK Tryz.prog true 100 [.c (.row 4 N (qlF fun k=>ofR (Q.mu F G i k)))] (.c (nql T (Q.cf F G))):=fun i e=>by
  rw[e,show(fun k=>ofR (Q.mu F G n k))=fun k=>ofR (Q.cf F G k)from funext fun k=>by rw[w2]];exact hT
 clear w2 hq hp hs vF vG hF hG fF fG;refine qV (E:=E1) qQ Tryz.func66 rfl mixed (by kernel_rfl) (by kernel_rfl) ?_;conv=>whnf
 refine qg (fun(c1:gw false (decide ((n:Int)=0))=true)=>?_) fun(c1:gw false (decide ((n:Int)=0))=false)=>?_
 ·have c1:=of_decide_eq_false (gwf c1);conv=>whnf
  refine qg (fun(c2:decide ((m:Int)=0)=true)=>?_) fun(c2:decide ((m:Int)=0)=false)=>?_
  ·have g:=hz0 (.inr (by have:=of_decide_eq_true c2;omega));conv=>whnf
   exact⟨rfl,g⟩
  ·have c2:=of_decide_eq_false c2;conv=>whnf
   refine⟨i64 (by omega) (by omega),?_⟩;conv=>whnf
   refine⟨i64 (by omega) (by omega),?_⟩;conv=>whnf
   refine⟨by omega,Int.le_refl _,by omega,by show(64:Int)*((n:Int)+(m:Int)-1)<=281474976710656;omega,?_⟩;have eN:((n:Int)+(m:Int)-1).toNat=N:=by omega
   conv=>whnf
   refine qK (fun i:Nat=>gst [(0,.c (ql n q)),(1,.c (ql m p)),(5,.c (.gs 0 0)),(27,.c (.int .i64 N)),(28,.c (.int .i64 i))] [gqp N (fun _=>0) i]) (fun i=>N-i) (fun i=>i<=N) 0 rfl (Weak.gen [some 0] rfl ⟨⟨_,rfl,rfl,rfl,eN,rfl,fun k j hk hj=>?_⟩,trivial⟩ ⟨rO rfl,rO rfl,⟨_,rfl,rfl,rfl⟩,⟨_,rfl,by show(((n:Int)+(m:Int)-1).toNat:Int)=_;rw[eN]⟩,⟨_,rfl,rfl⟩,trivial⟩) (Nat.zero_le _) fun i hi=>?_
   ·exact qY (congrArg (fun l=>l.getD j .any) (gV (fun _=>0) k).symm) (z5 k j)
   conv=>whnf
   refine qg (fun(h:decide ((i:Int)<N)=true)=>?_) fun(h:decide ((i:Int)<N)=false)=>?_
   ·have h:=of_decide_eq_true h;conv=>whnf
    refine⟨_,h0,?_⟩;conv=>whnf
    refine⟨by omega,by show(i:Int)<(N:Int);omega,?_⟩;conv=>whnf
    refine⟨i64 (by omega) (by omega),?_⟩;conv=>whnf
    refine⟨i+1,by omega,Weak.gen [some 0] rfl ⟨⟨_,rfl,rfl,rfl,rfl,rfl,fun j k hj hk=>qY ?_ (z5 j k)⟩,trivial⟩ ⟨rO rfl,rO rfl,⟨_,rfl,rfl,rfl⟩,⟨_,rfl,rfl⟩,⟨_,rfl,rfl⟩,trivial⟩,by omega⟩;exact WZ (sz:=4) (g:=qpF (fun _=>0) i) (g':=qpF (fun _=>0) (i+1)) (l:=nq 0) rfl hk (y6 (fun _=>0) i j)
   ·have h:=of_decide_eq_false h;conv=>whnf
    refine qK (fun a:Nat=>gst [(1,.c (ql m p)),(5,.c (.gs 0 0)),(36,.c (ql n q)),(37,.c (.int .i64 n)),(38,.c (.int .i64 a))] [gqr N fun k=>ofR (Q.mu F G a k)]) (fun a=>n-a) (fun a=>a<=n) 0 rfl (Weak.gen [some 0] rfl ⟨⟨_,rfl,rfl,rfl,rfl,rfl,fun k j hk hj=>qY ?_ (qW (c:=fun k=>ofR (Q.mu F G 0 k)) k j)⟩,trivial⟩ ⟨rO rfl,⟨_,rfl,rfl,rfl⟩,rO rfl,⟨_,rfl,rfl⟩,⟨_,rfl,rfl⟩,trivial⟩) (Nat.zero_le _) fun a ha=>?_
    ·exact V5 (v:=fun _=>0) (Nat.lt_of_lt_of_le hk (show N<=i by omega)) j
    have y1:=z1 a;have y2:=w0 a;conv=>whnf
    refine qg (fun(h2:decide ((a:Int)<n)=true)=>?_) fun(h2:decide ((a:Int)<n)=false)=>?_
    ·have h2:=of_decide_eq_true h2;have y1:=y1 (by omega);have y2:=y2 (by omega);conv=>whnf
     refine⟨by omega,by omega,?_⟩;conv=>whnf
     refine⟨_,y1,?_⟩;conv=>whnf
     refine qg (fun(h3:decide (F a=0)=true)=>?_) fun(h3:decide (F a=0)=false)=>?_
     ·have y3:=y2 (of_decide_eq_true h3);conv=>whnf
      refine⟨i64 (by omega) (by omega),?_⟩;conv=>whnf
      exact⟨a+1,by omega,Weak.gen [some 0] rfl ⟨⟨_,rfl,rfl,rfl,rfl,rfl,fun k j hk hj=>qY (Ug (c:=fun k=>ofR (Q.mu F G a k)) (e:=fun k=>ofR (Q.mu F G (a+1) k)) (i:=k) (k:=k) (congrArg ofR (y3 k))) (qW (c:=fun k=>ofR (Q.mu F G (a+1) k)) k j)⟩,trivial⟩ ⟨rO rfl,⟨_,rfl,rfl,rfl⟩,rO rfl,⟨_,rfl,rfl⟩,⟨_,rfl,rfl⟩,trivial⟩,by omega⟩
     ·conv=>whnf
      refine qK (fun j:Nat=>gst [(1,.c (ql m p)),(5,.c (.gs 0 0)),(7,.c (.int .i64 a)),(8,.c (.p 1 0 4 0 0)),(36,.c (ql n q)),(37,.c (.int .i64 n)),(38,.c (.int .i64 a)),(45,.c (ql m p)),(46,.c (.int .i64 m)),(47,.c (.int .i64 j))] [gqr N fun k=>ofR (Q.mp (F a) G (Q.mu F G a) a j k),⟨38,4,1,qk (rr (q a))⟩]) (fun j=>m-j) (fun j=>j<=m) 0 rfl ?_ (Nat.zero_le _) fun j hj=>?_
      ·exact Weak.gen [some 0,some 1] rfl ⟨⟨_,rfl,rfl,rfl,rfl,rfl,fun k x hk hx=>qY (Ug (c:=fun k=>ofR (Q.mu F G a k)) (e:=fun k=>ofR (Q.mp (F a) G (Q.mu F G a) a 0 k)) (i:=k) (k:=k) (congrArg ofR (Q.mp_zero _ _ _ _ k).symm)) (qW (c:=fun k=>ofR (Q.mp (F a) G (Q.mu F G a) a 0 k)) k x)⟩,boxU rfl rfl rfl,trivial⟩ ⟨rO rfl,⟨_,rfl,rfl,rfl⟩,⟨_,rfl,rfl⟩,⟨_,rfl,rfl,rfl⟩,rO rfl,⟨_,rfl,rfl⟩,⟨_,rfl,rfl⟩,rO rfl,⟨_,rfl,rfl⟩,⟨_,rfl,rfl⟩,trivial⟩
      have u1:=z2 j;have u2:=p1 a j (by omega);have u3:=a1 a j (by omega);have u4:G j=0->∀ k,Q.mp (F a) G (Q.mu F G a) a j k=Q.mp (F a) G (Q.mu F G a) a (j+1) k:=fun e k=>Q.mp_skip e k;have u5:=Q.mp_next (F a) G (Q.mu F G a) a j;have u6:=fun k=>w1 a k;conv=>whnf
      refine qg (fun(h4:decide ((j:Int)<m)=true)=>?_) fun(h4:decide ((j:Int)<m)=false)=>?_
      ·have h4:=of_decide_eq_true h4;have u1:=u1 (by omega);have u2:=u2 (by omega);have u3:=u3 (by omega);conv=>whnf
       refine⟨by omega,by omega,?_⟩;conv=>whnf
       refine⟨_,u1,?_⟩;conv=>whnf
       refine qg (fun(h5:(!decide (G j=0))=true)=>?_) fun(h5:(!decide (G j=0))=false)=>?_
       ·conv=>whnf
        refine⟨i64 (by omega) (by omega),?_⟩;conv=>whnf
        refine⟨i64 (by omega) (by omega),?_⟩;conv=>whnf
        refine⟨by omega,by show(a:Int)+(j:Int)<(N:Int);omega,?_⟩;conv=>whnf
        refine⟨_,u2,?_⟩;conv=>whnf
        refine⟨_,u3,?_⟩;conv=>whnf
        refine⟨by omega,by show(a:Int)+(j:Int)<(N:Int);omega,?_⟩;conv=>whnf
        refine⟨i64 (by omega) (by omega),?_⟩;conv=>whnf
        refine⟨j+1,by omega,Weak.gen [some 0,some 1] rfl ⟨⟨_,rfl,rfl,rfl,rfl,rfl,fun k x hk hx=>qY ?_ (qW (c:=fun k=>ofR (Q.mp (F a) G (Q.mu F G a) a (j+1) k)) k x)⟩,boxK rfl rfl,trivial⟩ ⟨rO rfl,⟨_,rfl,rfl,rfl⟩,⟨_,rfl,rfl⟩,⟨_,rfl,rfl,rfl⟩,rO rfl,⟨_,rfl,rfl⟩,⟨_,rfl,rfl⟩,rO rfl,⟨_,rfl,rfl⟩,⟨_,rfl,rfl⟩,trivial⟩,by omega⟩;exact WZ (sz:=4) (g:=fun k=>nq (Q.mp (F a) G (Q.mu F G a) a j k)) (g':=fun k=>nq (Q.mp (F a) G (Q.mu F G a) a (j+1) k)) (l:=nq (Q.mu F G a (a+j)+F a*G j)) rfl hx (by
         show(if k=((a:Int)+(j:Int)).toNat then nq (Q.mu F G a (a+j)+F a*G j)else nq (Q.mp (F a) G (Q.mu F G a) a j k))=nq (Q.mp (F a) G (Q.mu F G a) a (j+1) k);rw[show((a:Int)+(j:Int)).toNat=a+j by omega,<- u5 k];split <;> rfl)
       ·have u4:=u4 (by simpa using h5);conv=>whnf
        refine⟨i64 (by omega) (by omega),?_⟩;conv=>whnf
        exact⟨j+1,by omega,Weak.gen [some 0,some 1] rfl ⟨⟨_,rfl,rfl,rfl,rfl,rfl,fun k x hk hx=>qY (Ug (c:=fun k=>ofR (Q.mp (F a) G (Q.mu F G a) a j k)) (e:=fun k=>ofR (Q.mp (F a) G (Q.mu F G a) a (j+1) k)) (i:=k) (k:=k) (congrArg ofR (u4 k))) (qW (c:=fun k=>ofR (Q.mp (F a) G (Q.mu F G a) a (j+1) k)) k x)⟩,boxK rfl rfl,trivial⟩ ⟨rO rfl,⟨_,rfl,rfl,rfl⟩,⟨_,rfl,rfl⟩,⟨_,rfl,rfl,rfl⟩,rO rfl,⟨_,rfl,rfl⟩,⟨_,rfl,rfl⟩,rO rfl,⟨_,rfl,rfl⟩,⟨_,rfl,rfl⟩,trivial⟩,by omega⟩
      ·have h4:=of_decide_eq_false h4;have e:j=m:=by omega
       conv=>whnf
       refine⟨i64 (by omega) (by omega),?_⟩;conv=>whnf
       exact⟨a+1,by omega,Weak.gen [some 0] rfl ⟨⟨_,rfl,rfl,rfl,rfl,rfl,fun k x hk hx=>qY (Ug (c:=fun k=>ofR (Q.mp (F a) G (Q.mu F G a) a j k)) (e:=fun k=>ofR (Q.mu F G (a+1) k)) (i:=k) (k:=k) (congrArg ofR (by rw[e];exact u6 k))) (qW (c:=fun k=>ofR (Q.mu F G (a+1) k)) k x)⟩,trivial⟩ ⟨rO rfl,⟨_,rfl,rfl,rfl⟩,rO rfl,⟨_,rfl,rfl⟩,⟨_,rfl,rfl⟩,trivial⟩,by omega⟩
    ·have h2:=of_decide_eq_false h2;have g:=hT a (by omega);conv=>whnf
     refine .inr ⟨fun k j _ _=>qW (c:=fun k=>ofR (Q.mu F G a k)) k j,?_⟩;conv=>whnf
     refine⟨_,g,?_⟩;conv=>whnf
     exact⟨rfl,Sub.refl _⟩
 ·have g:=hz0 (.inl (by have:=of_decide_eq_true (gwf' c1);omega));conv=>whnf
  exact⟨rfl,g⟩
end Rf
end Go.Proofs.YtkmbnldginonbaaGreat
namespace Go.Proofs.YtkmbnldginonbaaGreat
open Go.RowKit
structure Swp (E : Env) (N : Nat) (c : Code) (σ : St) (R : Exit → St → Prop) : Prop where
 run:∀(C:Ctx) (a:Act) (w:World),C.r=E.r->C.ρ0.length<=E.m0->C.N=N->Rel C σ a w->c.wp E.P (QR C R) a w
theorem qJ {E:Env} (hE:EnvOK E) (hm:E.P.follows .mixedOrders=true) {N:Nat} {c:Code} {σ:St} {R:Exit->St->Prop} (hc:x9 N c=true) (h:awp E c σ R):Swp E N c σ R :=
 ⟨fun C a w h1 h2 h3 hr=>jJ (C:=C) hE h1 h2 hm c (by rw[h3];exact hc) h hr⟩
theorem qy {E:Env} (hE:EnvOK E) (hm:E.P.follows .mixedOrders=true) {N:Nat} {x y:Code} {σ:St} {R:Exit->St->Prop} (hc:x9 N x=true) (h:awp E x σ (seqR (fun σ'=>∃ σ2,Weak E.m0 σ' σ2/\Swp E N y σ2 R) R)):Swp E N (.seq x y) σ R:=by
 refine⟨fun C a w h1 h2 h3 hr=>?_⟩;refine wp_seq (wp_mono (jJ (C:=C) hE h1 h2 hm x (by rw[h3];exact hc) h hr) ?_);rintro e a' w' ⟨σ',hrel,hk⟩;cases e with
 | normal =>
  obtain⟨σ2,hw,hs⟩:=hk;exact hs.run C a' w' h1 h2 h3 (hw C a' w' h2 hrel)
 | _=>exact⟨σ',hrel,hk⟩
theorem qf {E:Env} (hE:EnvOK E) (hm:E.P.follows .mixedOrders=true) {N:Nat} {x y:Code} {σ:St} {R:Exit->St->Prop} (hc:x9 N x=true) (h:awp E x σ (seqR (fun σ'=>Swp E N y σ' R) R)):Swp E N (.seq x y) σ R:=by
 refine⟨fun C a w h1 h2 h3 hr=>?_⟩;refine wp_seq (wp_mono (jJ (C:=C) hE h1 h2 hm x (by rw[h3];exact hc) h hr) ?_);rintro e a' w' ⟨σ',hrel,hk⟩;cases e with
 | normal=>exact hk.run C a' w' h1 h2 h3 hrel
 | _=>exact⟨σ',hrel,hk⟩
theorem jq {E:Env} {N:Nat} {x y:Code} {σ:St} {R:Exit->St->Prop} (h:Swp E N x σ (seqR (fun σ'=>Swp E N y σ' R) R)):Swp E N (.seq x y) σ R:=by
 refine⟨fun C a w h1 h2 h3 hr=>?_⟩;refine wp_seq (wp_mono (h.run C a w h1 h2 h3 hr) ?_);rintro e a' w' ⟨σ',hrel,hk⟩;cases e with
 | normal=>exact hk.run C a' w' h1 h2 h3 hrel
 | _=>exact⟨σ',hrel,hk⟩
theorem qq {E:Env} {N id:Nat} {c:Code} {σ:St} {R:Exit->St->Prop} (h:Swp E N c σ (blockR id R)):Swp E N (.block id c) σ R:=by
 refine⟨fun C a w h1 h2 h3 hr=>?_⟩;refine wp_block (wp_mono (h.run C a w h1 h2 h3 hr) ?_);rintro e a' w' ⟨σ',hrel,hk⟩;cases e with
 | exit i =>
  simp only[blockR]at hk;simp only[Exit.inBlock];split
  ·rename_i e;rw[if_pos e]at hk;exact⟨σ',hrel,hk⟩
  ·rename_i e;rw[if_neg e]at hk;exact⟨σ',hrel,hk⟩
 | _=>exact⟨σ',hrel,hk⟩
theorem qZ {E:Env} {N:Nat} {c:Code} {σ:St} {R:Exit->St->Prop} {α:Type} (S:α->St) (m:α->Nat) (I:α->Prop) (x0:α) (h0:Weak E.m0 σ (S x0)) (hI:I x0) (hr:∀ x,I x->Swp E N c (S x) (seqR (fun σ2=>∃ x',m x'<m x/\Weak E.m0 σ2 (S x')/\I x') R)):Swp E N (.loop c) σ R:=by
 refine⟨fun C a w h1 h2 h3 hrel=>?_⟩;refine wp_loop_ghost (fun n a w=>∃ x,n=m x/\I x/\Rel C (S x) a w) (m x0) ⟨x0,rfl,hI,h0 _ _ _ h2 hrel⟩ ?_;rintro n a w ⟨x,rfl,hx,hrel⟩;refine wp_mono ((hr x hx).run C a w h1 h2 h3 hrel) ?_;rintro e a' w' ⟨σ2,hrel2,hk⟩;cases e with
 | normal =>
  obtain⟨x',hlt,hw,hI'⟩:=hk;exact⟨m x',hlt,x',rfl,hI',hw _ _ _ h2 hrel2⟩
 | _=>exact⟨σ2,hrel2,hk⟩
theorem jy {E : Env} (hE : EnvOK E) {f : FuncId} {fn : Func} {c : Code} {args : List V} {X : V} (hf : E.P.funcs[f]? = some fn) (hb : fn.body = some c) (hbd : x8 E.P f = true)
  (h:Swp E fn.ntmps c ⟨vw args,[]⟩ (retOK E fn.results.toList X)):FnOK E.P E.r f args X:=by
 refine⟨hbd,?_⟩;intro D w vs hD hU hargs;refine calls_of_wp hf hb ?_;let C:Ctx:=⟨D,⟨w,fun _=>False⟩,E.r,fn.ntmps,[]⟩;have hlen:=hargs.length;have hrel:Rel C ⟨vw args,[]⟩ { tmps:=vs.toArray++Array.replicate (fn.ntmps-vs.toArray.size) undef,defers:=[] } w:=by
  have hDof:∀ b,Dof D [] [] b->D b:=by
   rintro b (h | ⟨k,l,B,h1,_⟩)
   ·exact h
   ·simp at h1
  refine⟨[],⟨⟨rfl,rfl,rfl,Nat.le_refl _,fun _ _ _=>rfl⟩,fun b hb=>⟨hD b hb,id⟩,rfl,fun k l B h1 _=>by simp at h1,fun i j li lj Bi Bj b h1=>by simp at h1,fun hr b o d hb=>hU hr b o d (hDof b hb)⟩,⟨by simp[C];omega,LocsLe.refl _⟩,rfl,fun t=>?_⟩;have h1:=hargs.get t;have h2:VRel (Dof D [] []) w [] (args.getD t (.c .any)) (vs.getD t undef):=h1.step (Ext.refl _ _) (fun b _ hb=>hDof b hb) (LocsLe.refl _);show VRel (Dof D [] []) w [] (args.getD t (.c .any)) _;rcases Nat.lt_or_ge t vs.length with hlt | hge
  ·have:(vs.toArray++Array.replicate (fn.ntmps-vs.toArray.size) undef).getD t undef=vs.getD t undef:=by
    rw[Array.getD_eq_getD_getElem?,Array.getElem?_append_left (by simpa using hlt)];simp[List.getD]
   rw[this];exact h2
  ·rw[show args.getD t (V.c .any) = .c .any by rw[List.getD,List.getElem?_eq_none (by omega)];rfl];trivial
 refine wp_mono (h.run C _ _ rfl (Nat.zero_le _) rfl hrel) ?_;rintro e a w' ⟨σ,hr,hk⟩;have fin:retOK E fn.results.toList X .ret σ->a.defers=[]/\∃ v,(results fn a.tmps).run E.P w' = .ok v w'/\∃ u,Ending.returned v = .returned u/\VRel D w' [] X u/\Below w.heap.size w w':=by
  intro hk;obtain⟨ρ,hs,hN,hdf,hfr⟩:=hr;refine⟨hdf,?_⟩;simp only[retOK]at hk;split at hk
  ·rename_i v hv;obtain⟨x,hx,hxr⟩:=W4 hE hs hfr hv
   -- the result in a slot of its own
   let tm':Nat->V:=fun t=>if t=a.tmps.size then v else σ.tm t
   let a':Act:={ a with tmps:=a.tmps.push x };have hrel':Rel C ⟨tm',σ.bl⟩ a' w':=by
    refine⟨ρ,hs,⟨by show _<=(a.tmps.push x).size;have:=hN.1;simp;omega,hN.2⟩,hdf,fun t=>?_⟩;show VRel _ _ _ (if t=a.tmps.size then v else σ.tm t) ((a.tmps.push x).getD t undef);by_cases e:t=a.tmps.size
    ·rw[if_pos e,e];simpa [Array.getD] using hxr
    ·rw[if_neg e];have:(a.tmps.push x).getD t undef=a.tmps.getD t undef:=by
      rw[Array.getD_eq_getD_getElem?,Array.getD_eq_getD_getElem?,Array.getElem?_push];rw[if_neg e]
     rw[this];exact hfr t
   have hk':=frzA_tm (tm:=tm') (K':=fun σ'=>wJ (x6 σ'.bl v)=true/\Sub (x6 σ'.bl v) X) (wY v) (fun bl h=>h) hk;obtain⟨σ',⟨h1,h2⟩,⟨ρ',hs',_,_,hfr'⟩,htm⟩:=Rel.frzA hk' hrel';have h3:=hfr' a.tmps.size;rw[htm]at h3;have h4:VRel (Dof D ρ' σ'.bl) w' ρ' v x:=by
    have e1:tm' a.tmps.size=v:=by show(if a.tmps.size=a.tmps.size then v else _)=v;rw[if_pos rfl]
    have e2:a'.tmps.getD a.tmps.size undef=x:=by show(a.tmps.push x).getD a.tmps.size undef=x;simp[Array.getD]
    rw[<- e1,<- e2];exact h3
   have h5:=xW (ρ':=[]) (xx hs' h4) h1;exact⟨x,hx,x,rfl,h2 D w' x (h5.step (Ext.refl _ _) (fun b _ hb => .inl hb) (LocsLe.refl _)),⟨hs'.below.os,hs'.below.tape,hs'.below.output,hs'.below.size,fun k hk=>hs'.below.block k hk id⟩⟩
  ·exact hk.elim
 cases e with
 | normal=>exact fin hk
 | ret=>exact fin hk
 | exit i=>exact hk.elim
 | goto l=>exact hk.elim
 | panic ch=>exact hk.elim
 | outgrown=>exact hk.elim
def retS (E:Env) (rs:List ResultVar) (X:V) (m:Nat) (post:List Blk) (e:Exit) (σ:St):Prop :=
 match e with
 | .normal | .ret=>match retV E σ rs with
  | some v=>Weak m ⟨asg [(0,v)],σ.bl⟩ ⟨asg [(0,X)],post⟩
  | none=>False
 | _=>False
theorem fns_okS {E : Env} (hE : EnvOK E) {f : FuncId} {fn : Func} {c : Code} {args : List V} {X : V} {bl post : List Blk} (hf : E.P.funcs[f]? = some fn) (hb : fn.body = some c) (hbd : x8 E.P f = true) (hm0 : E.m0 = bl.length)
  (h:Swp E fn.ntmps c ⟨vw args,bl⟩ (retS E fn.results.toList X bl.length post)):FnS E.P E.r f bl args X post:=by
 refine⟨hbd,?_⟩;intro D w0 ρ w vs hs0 hargs;refine calls_of_wp hf hb ?_;let C:Ctx:=⟨D,w0,E.r,fn.ntmps,ρ⟩;have hlen:=hargs.length;have hrl:ρ.length=bl.length:=hs0.len;have hrel:Rel C ⟨vw args,bl⟩ { tmps:=vs.toArray++Array.replicate (fn.ntmps-vs.toArray.size) undef,defers:=[] } w:=by
  refine⟨ρ,hs0,⟨by simp[C];omega,LocsLe.refl _⟩,rfl,fun t=>?_⟩;have h2:=hargs.get t;show VRel (Dof D ρ bl) w ρ (args.getD t (.c .any)) _;rcases Nat.lt_or_ge t vs.length with hlt | hge
  ·have:(vs.toArray++Array.replicate (fn.ntmps-vs.toArray.size) undef).getD t undef=vs.getD t undef:=by
    rw[Array.getD_eq_getD_getElem?,Array.getElem?_append_left (by simpa using hlt)];simp[List.getD]
   rw[this];exact h2
  ·rw[show args.getD t (V.c .any) = .c .any by rw[List.getD,List.getElem?_eq_none (by omega)];rfl];trivial
 refine wp_mono (h.run C _ _ rfl (by show ρ.length<=E.m0;omega) rfl hrel) ?_;rintro e a w' ⟨σ,hr,hk⟩;have fin:retS E fn.results.toList X bl.length post .ret σ->a.defers=[]/\∃ v,(results fn a.tmps).run E.P w' = .ok v w'/\∃ u ρ',Ending.returned v = .returned u/\Sat D w0 E.r ρ' post w'/\LocsLe ρ ρ'/\VRel (Dof D ρ' post) w' ρ' X u:=by
  intro hk;obtain⟨ρ1,hs,hN,hdf,hfr⟩:=hr;refine⟨hdf,?_⟩;simp only[retS]at hk;split at hk
  ·rename_i v hv;obtain⟨x,hx,hxr⟩:=W4 hE hs hfr hv;have hrel':Rel ⟨D,w0,E.r,0,ρ⟩ ⟨asg [(0,v)],σ.bl⟩ ⟨#[x],[]⟩ w':=by
    refine⟨ρ1,hs,⟨Nat.zero_le _,hN.2⟩,rfl,fun t=>?_⟩;show VRel _ _ _ (if t=0 then v else .c .any) _;split
    ·rename_i e;subst e;exact hxr
    ·trivial
   obtain⟨ρ2,hs2,hN2,_,hf2⟩:=hk ⟨D,w0,E.r,0,ρ⟩ _ _ (by show ρ.length<=bl.length;omega) hrel';exact⟨x,hx,x,ρ2,rfl,hs2,hN2.2,hf2 0⟩
  ·exact hk.elim
 cases e with
 | normal=>exact fin hk
 | ret=>exact fin hk
 | exit i=>exact hk.elim
 | goto l=>exact hk.elim
 | panic ch=>exact hk.elim
 | outgrown=>exact hk.elim
end Go.Proofs.YtkmbnldginonbaaGreat
namespace Go.Proofs.YtkmbnldginonbaaGreat
open Go.RowKit
namespace Rf
theorem div_one_ok (x:Rat) {L:Nat} (h:qlen x<=L) (hL:L+8<=LIM):FnOK Tryz.prog true 59 [.g (nq x),.g (nq 1)] (.t2 (.g (nq x)) (.c (.int .i64 0))):=by
 have:=qquo_ok (q:=ofR x) (p:=ofR 1) (zX h) (zX (L:=1) (by decide)) (by omega) (by rw[qP];decide);rw[qP,qP,show x / 1=x by grind]at this;exact this
end Rf
end Go.Proofs.YtkmbnldginonbaaGreat
/- Quotient and remainder by a monic polynomial in the program. -/
namespace Go.Proofs.YtkmbnldginonbaaGreat
open Go.RowKit
theorem FnOK.res {P:Program} {r:Bool} {f:FuncId} {args:List V} {X X':V} (h:FnOK P r f args X) (s:Sub X X'):FnOK P r f args X' :=
 ⟨h.1,fun D w vs a b c=>(h.2 D w vs a b c).mono fun _ _ ⟨v,e,hv,hb⟩=>⟨v,e,s _ _ _ hv,hb⟩⟩
namespace Rf
end Rf
end Go.Proofs.YtkmbnldginonbaaGreat
/- Fractions with a common denominator, and how long they are. -/
namespace Go.Proofs.YtkmbnldginonbaaGreat
def Bd (D B:Nat) (x:Rat):Prop:=∃ z:Int,x*((D:Int):Rat)=(z:Rat)/\z.natAbs<=B
namespace Q
end Q
end Go.Proofs.YtkmbnldginonbaaGreat
namespace Go.Proofs.YtkmbnldginonbaaGreat
namespace Q
def xp (i k:Nat):Rat:=if k=i then 1 else 0
end Q
end Go.Proofs.YtkmbnldginonbaaGreat
namespace Go.Proofs.YtkmbnldginonbaaGreat
open Go.RowKit
namespace Rf
abbrev KD:Nat:=67108864
end Rf
end Go.Proofs.YtkmbnldginonbaaGreat
/- Number fields: the calls of sums and products; coordinates, and the letter. -/
namespace Go.Proofs.YtkmbnldginonbaaGreat
open Go.RowKit
open Classical in
noncomputable def Q.red (d:Nat) (f p:Nat->Rat):Nat->Rat:=if h:∃ r,Q.Rm d f p r then h.choose else p
namespace Rf
end Rf
end Go.Proofs.YtkmbnldginonbaaGreat
set_option maxHeartbeats 8000000
namespace Go.Proofs.YtkmbnldginonbaaGreat
open Go.RowKit
namespace Rf
theorem lenZ {x:Rat} {L:Nat} (h:qlen x<=L):qB x.num<=L/\qB (x.den:Int)<=L:=by
 have h:max (qB x.num) (qB (x.den:Int))<=L:=h;omega
theorem wq_n {x:Rat} (h:qlen x<=524286):wq (ofR x):=by
 have h1:=lenZ h;refine⟨⟨k6 (by omega),k6 (by omega)⟩,?_,?_⟩
 ·show qB (ofZ x.num).val<=_;rw[qX];exact h1.1
 ·show qB (ofZ (x.den:Int)).val<=_;rw[qX];exact h1.2
theorem U7 {x:Rat} (h:qlen x<=524286):FnOK Tryz.prog false 102 [.g (nq x)] (.g (nq x)):=by
 have:=vq (wq_n h);rwa [qP]at this
theorem rqsignR {q:RawR} (h:wq q):FnOK Tryz.prog false 106 [.g (rr q)] (.c (.int .i64 q.val.num.sign)):=by
 have s1:=zsign_ok (a:=q.num) h.1.1;have s2:=zsign_ok (a:=q.den) h.1.2;have e:q.num.val.sign*q.den.val.sign=q.val.num.sign:=(ratio_sign _ _).symm;refine qV (E:=E0) qw Tryz.func106 rfl mixed (by kernel_rfl) (by kernel_rfl) ?_;conv=>whnf
 refine⟨_,s1,?_⟩;conv=>whnf
 refine⟨_,s2,?_⟩;conv=>whnf
 refine⟨sign_range _ _,?_⟩;conv=>whnf
 exact⟨rfl,Sub.int e⟩
theorem Wv {x:Rat} (h:qlen x<=524286):FnOK Tryz.prog false 106 [.g (nq x)] (.c (.int .i64 x.num.sign)):=by
 have:=rqsignR (wq_n h);rwa [qP]at this
theorem over_n {a b:Int} {x:Rat} (hx:zx a b=x) (h1:qB a<=524286) (h2:qB b<=524286):FnOK Tryz.prog false 103 [.g (nz a),.g (nz b)] (.g (nq x)):=by
 have:=rover_ok (a:=ofZ a) (b:=ofZ b) (k6 (by omega)) (k6 (by omega)) (by rw[qX];exact h1) (by rw[qX];exact h2);rw[qX,qX,hx]at this;exact this
theorem rqmulR {q:RawR} {c:Rat} (hw:wq q) (h1:qB q.num.val<=65535) (h2:qB q.den.val<=65535) (hc:qlen c<=65535):FnOK Tryz.prog false 91 [.g (rr q),.g (nq c)] (.g (nq (q.val*c))):=by
 have h3:=lenZ hc;have w1:wr (ofZ c.num):=k6 (by omega);have w2:wr (ofZ (c.den:Int)):=k6 (by omega);have m1:=rmulz_ok (a:=q.num) (b:=ofZ c.num) hw.1.1 w1 (by rw[qX];omega);have m2:=rmulz_ok (a:=q.den) (b:=ofZ (c.den:Int)) hw.1.2 w2 (by rw[qX];omega);rw[qX]at m1 m2;have l1:=zJ q.num.val c.num;have l2:=zJ q.den.val (c.den:Int);have o:=over_n (x:=q.val*c) (a:=q.num.val*c.num) (b:=q.den.val*(c.den:Int)) (by rw[<- yV,zw];rfl) (by omega) (by omega);refine qV (E:=E0) qw Tryz.func91 rfl mixed (by kernel_rfl) (by kernel_rfl) ?_;conv=>whnf
 refine⟨_,m1,?_⟩;conv=>whnf
 refine⟨_,m2,?_⟩;conv=>whnf
 refine⟨_,o,?_⟩;conv=>whnf
 exact⟨rfl,Sub.refl _⟩
theorem UW {x:Rat} {L:Nat} (h:qlen x<=L):qB (ofR x).num.val<=L/\qB (ofR x).den.val<=L:=by
 have h1:=lenZ h;show qB (ofZ x.num).val<=L/\qB (ofZ (x.den:Int)).val<=L;rw[qX,qX];exact h1
theorem rqmul_n {x y:Rat} (hx:qlen x<=65535) (hy:qlen y<=65535):FnOK Tryz.prog false 91 [.g (nq x),.g (nq y)] (.g (nq (x*y))):=by
 have:=rqmulR (q:=ofR x) (wq_n (by omega)) (UW hx).1 (UW hx).2 hy;rwa [qP]at this
theorem rqadd_n {x y:Rat} (hx:qlen x<=131070) (hy:qlen y<=131070):FnOK Tryz.prog false 53 [.g (nq x),.g (nq y)] (.g (nq (x+y))):=by
 have h1:=lenZ hx;have h2:=lenZ hy;have n1:=U7 (x:=x) (by omega);have n2:=U7 (x:=y) (by omega);have m1:=zmul_n (a:=x.num) (b:=(y.den:Int)) (by omega);have m2:=zmul_n (a:=y.num) (b:=(x.den:Int)) (by omega);have m3:=zmul_n (a:=(x.den:Int)) (b:=(y.den:Int)) (by omega);have l1:=zJ x.num (y.den:Int);have l2:=zJ y.num (x.den:Int);have l3:=zJ (x.den:Int) (y.den:Int);have l4:=zlen_add (x.num*(y.den:Int)) (y.num*(x.den:Int));have a1:=zadd_ok (a:=ofZ (x.num*(y.den:Int))) (b:=ofZ (y.num*(x.den:Int))) (k6 (by omega)) (k6 (by omega)) (by rw[qX];omega) (by rw[qX];omega);rw[qX,qX]at a1;have d1:=x.den_pos;have d2:=y.den_pos;have o:=over_n (x:=x+y) (a:=x.num*(y.den:Int)+y.num*(x.den:Int)) (b:=(x.den:Int)*(y.den:Int)) (by rw[<- ratio_add (by omega) (by omega),zw,zw]) (by omega) (by omega);refine qV (E:=E0) qw Tryz.func53 rfl mixed (by kernel_rfl) (by kernel_rfl) ?_;conv=>whnf
 refine⟨_,n1,?_⟩;conv=>whnf
 refine⟨_,n2,?_⟩;conv=>whnf
 refine⟨_,m1,?_⟩;conv=>whnf
 refine⟨_,m2,?_⟩;conv=>whnf
 refine⟨_,a1,?_⟩;conv=>whnf
 refine⟨_,m3,?_⟩;conv=>whnf
 refine⟨_,o,?_⟩;conv=>whnf
 exact⟨rfl,Sub.refl _⟩
end Rf
end Go.Proofs.YtkmbnldginonbaaGreat
/- The document's lists of fractions: zeros, combinations. -/
namespace Go.Proofs.YtkmbnldginonbaaGreat
open Go.RowKit
namespace Rf
theorem Xz:FnOK Tryz.prog false 52 [.c (.int .i64 0)] (.g (nq 0)):=by
 have h:=vZ (n:=0) (by decide) (by decide);rwa [show((0:Int):Rat)=0 from rfl]at h
theorem app_sameq (v:Nat->Rat) (i j:Nat):(if j=i then nq (v i)else nq (v j))=nq (v j):=app_same (fun i=>nq (v i)) i j
theorem one_nq {bl:List Blk} (x:Rat) (r:Bool) (i j:Nat) (hi:i<1) (hj:j<4):St.one bl (xJ 4 (nq x) i j)=true/\(r=true->(xJ 4 (nq x) i j).noU=true):=by
 match i,j,hi,hj with
 | 0,0,_,_=>exact⟨rfl,fun _=>rfl⟩
 | 0,1,_,_=>exact⟨rfl,fun _=>rfl⟩
 | 0,2,_,_=>exact⟨rfl,fun _=>rfl⟩
 | 0,3,_,_=>exact⟨rfl,fun _=>rfl⟩
theorem Xx {n:Nat} (hn:n<=1024):FnOK Tryz.prog false 64 [.c (.int .i64 n)] (.c (nql n fun _=>0)):=by
 have h0:=Xz;refine qV (E:=E0) qw Tryz.func64 rfl mixed (by kernel_rfl) (by kernel_rfl) ?_;conv=>whnf
 refine qK (fun i:Nat=>gst [(0,.c (.int .i64 n)),(3,.c (.gs 0 0)),(4,.c (.int .i64 i))] [gqr i fun _=>ofR 0]) (fun i=>n-i) (fun i=>i<=n) 0 rfl (Weak.gen [none] rfl ⟨rfl,trivial⟩ ⟨⟨_,rfl,rfl⟩,rfl,⟨_,rfl,rfl⟩,trivial⟩) (Nat.zero_le _) fun i hi=>?_;conv=>whnf
 refine qg (fun(h:decide ((i:Int)<n)=true)=>?_) fun(h:decide ((i:Int)<n)=false)=>?_
 ·have h:=of_decide_eq_true h;conv=>whnf
  refine⟨_,h0,?_⟩;conv=>whnf
  refine⟨by show i+1<=16777216;omega,fun a b ha hb=>one_nq 0 _ a b ha hb,?_⟩;conv=>whnf
  refine⟨i64 (by omega) (by omega),?_⟩;conv=>whnf
  refine⟨i+1,by omega,Weak.gen [some 0] rfl ⟨⟨_,rfl,rfl,rfl,rfl,rfl,fun a b ha hb=>qY ?_ (qW (c:=fun _=>ofR 0) a b)⟩,trivial⟩ ⟨⟨_,rfl,rfl⟩,⟨_,rfl,rfl,rfl⟩,⟨_,rfl,rfl⟩,trivial⟩,by omega⟩;exact appG (sz:=4) (g:=fun _=>nq 0) (g':=fun _=>nq 0) (l:=nq 0) (app_sameq (fun _=>0) i a) (Nat.le_refl (i+1)) ha
 ·have h:=of_decide_eq_false h;have e:i=n:=by omega
  conv=>whnf
  refine⟨fun a b _ _=>qW (c:=fun _=>ofR 0) a b,?_⟩;conv=>whnf
  exact⟨rfl,zg e fun _ _ _ _=>rfl⟩
theorem rcombR_ok {n:Nat} {X Y:Nat->Rat} {qc:RawR} {c:Rat} (hw:wq qc) (w1:qB qc.num.val<=65535) (w2:qB qc.den.val<=65535) (hcv:qc.val=c) (hn:n<=1024) (hX:∀ i,i<n->qlen (X i)<=65535) (hY:∀ i,i<n->qlen (Y i)<=65535) (hc:qlen c<=65535):FnOK Tryz.prog false 63 [.c (nql n X),.g (rr qc),.c (nql n Y)] (.c (nql n fun i=>X i+c*Y i)):=by
 have s0:=rqsignR hw;rw[hcv]at s0;have s1:∀ i,i<n->FnOK Tryz.prog false 106 [.g (nq (Y i))] (.c (.int .i64 (Y i).num.sign)):=fun i hi=>Wv (by have:=hY i hi;omega);have n1:∀ i,i<n->c*Y i=0->FnOK Tryz.prog false 102 [.g (nq (X i))] (.g (nq (X i+c*Y i))):=fun i hi e=>by
  rw[e,Rat.add_zero];exact U7 (by have:=hX i hi;omega)
 have m1:∀ i,i<n->FnOK Tryz.prog false 91 [.g (rr qc),.g (nq (Y i))] (.g (nq (c*Y i))):=fun i hi=>hcv ▸ rqmulR hw w1 w2 (hY i hi);have a1:∀ i,i<n->FnOK Tryz.prog false 53 [.g (nq (X i)),.g (nq (c*Y i))] (.g (nq (X i+c*Y i))):=fun i hi=>rqadd_n (Nat.le_trans (hX i hi) (by decide)) (Wq hc (hY i hi) (by decide));have z0:c.num.sign=0->∀ i,c*Y i=0:=fun e i=>by rw[Rat.num_eq_zero.1 (Int.sign_eq_zero_iff_zero.1 e),Rat.zero_mul]
 have z1:∀ i,(Y i).num.sign=0->c*Y i=0:=fun i e=>by rw[Rat.num_eq_zero.1 (Int.sign_eq_zero_iff_zero.1 e),Rat.mul_zero]
 obtain⟨Z,hZ⟩:∃ Z:Nat->Rat,Z=fun i=>X i+c*Y i:=⟨_,rfl⟩;have n1:∀ i,i<n->c*Y i=0->FnOK Tryz.prog false 102 [.g (nq (X i))] (.g (nq (Z i))):=by rw[hZ];exact n1
 have a1:∀ i,i<n->FnOK Tryz.prog false 53 [.g (nq (X i)),.g (nq (c*Y i))] (.g (nq (Z i))):=by rw[hZ];exact a1
 rw[<- hZ];clear hZ hX hY hc hcv hw w1 w2;refine qV (E:=E0) qw Tryz.func63 rfl mixed (by kernel_rfl) (by kernel_rfl) ?_;conv=>whnf
 refine⟨_,s0,?_⟩;conv=>whnf
 refine qK (fun i:Nat=>gst [(0,.c (nql n X)),(2,.c (nql n Y)),(4,.c (.p 0 0 4 0 0)),(7,.c (.gs 1 0)),(8,.c (.bool (decide (c.num.sign=0)))),(9,.c (.int .i64 i))] [⟨38,4,1,qk (rr qc)⟩,gqr i fun k=>ofR (Z k)]) (fun i=>n-i) (fun i=>i<=n) 0 rfl (Weak.gen [some 0,none] rfl ⟨boxK rfl rfl,rfl,trivial⟩ ⟨rO rfl,rO rfl,⟨_,rfl,rfl,rfl⟩,rfl,⟨_,rfl,rfl⟩,⟨_,rfl,rfl⟩,trivial⟩) (Nat.zero_le _) fun i hi=>?_;have s1:=s1 i;have n1:=n1 i;have m1:=m1 i;have a1:=a1 i;have z1:=z1 i;conv=>whnf
 refine qg (fun(h:decide ((i:Int)<n)=true)=>?_) fun(h:decide ((i:Int)<n)=false)=>?_
 ·have h:=of_decide_eq_true h;have s1:=s1 (by omega);have n1:=n1 (by omega);have m1:=m1 (by omega);have a1:=a1 (by omega);conv=>whnf
  refine qg (fun(k:gw false (decide (c.num.sign=0))=true)=>?_) fun(k:gw false (decide (c.num.sign=0))=false)=>?_
  ·conv=>whnf
   refine⟨by omega,by omega,?_⟩;conv=>whnf
   refine⟨_,s1,?_⟩;conv=>whnf
   refine qg (fun(k2:decide ((Y i).num.sign=0)=true)=>?_) fun(k2:decide ((Y i).num.sign=0)=false)=>?_
   ·have n1:=n1 (z1 (of_decide_eq_true k2));conv=>whnf
    refine⟨by omega,by omega,?_⟩;conv=>whnf
    refine⟨_,n1,?_⟩;conv=>whnf
    refine⟨by show i+1<=16777216;omega,fun a b ha hb=>one_nq (Z i) _ a b ha hb,?_⟩;conv=>whnf
    refine⟨i64 (by omega) (by omega),?_⟩;conv=>whnf
    refine⟨i+1,by omega,Weak.gen [some 0,some 1] rfl ⟨boxK rfl rfl,⟨_,rfl,rfl,rfl,rfl,rfl,fun a b ha hb=>qY ?_ (qW (c:=fun k=>ofR (Z k)) a b)⟩,trivial⟩ ⟨rO rfl,rO rfl,⟨_,rfl,rfl,rfl⟩,⟨_,rfl,rfl,rfl⟩,⟨_,rfl,rfl⟩,⟨_,rfl,rfl⟩,trivial⟩,by omega⟩;exact appG (sz:=4) (g:=fun k=>nq (Z k)) (g':=fun k=>nq (Z k)) (l:=nq (Z i)) (app_sameq Z i a) (Nat.le_refl (i+1)) ha
   ·conv=>whnf
    refine⟨by omega,by omega,?_⟩;conv=>whnf
    refine⟨by omega,by omega,?_⟩;conv=>whnf
    refine⟨_,m1,?_⟩;conv=>whnf
    refine⟨_,a1,?_⟩;conv=>whnf
    refine .inr ⟨rfl,?_⟩;conv=>whnf
    refine⟨by show i+1<=16777216;omega,fun a b ha hb=>one_nq (Z i) _ a b ha hb,?_⟩;conv=>whnf
    refine⟨i64 (by omega) (by omega),?_⟩;conv=>whnf
    refine⟨i+1,by omega,Weak.gen [some 0,some 1] rfl ⟨boxK rfl rfl,⟨_,rfl,rfl,rfl,rfl,rfl,fun a b ha hb=>qY ?_ (qW (c:=fun k=>ofR (Z k)) a b)⟩,trivial⟩ ⟨rO rfl,rO rfl,⟨_,rfl,rfl,rfl⟩,⟨_,rfl,rfl,rfl⟩,⟨_,rfl,rfl⟩,⟨_,rfl,rfl⟩,trivial⟩,by omega⟩;exact appG (sz:=4) (g:=fun k=>nq (Z k)) (g':=fun k=>nq (Z k)) (l:=nq (Z i)) (app_sameq Z i a) (Nat.le_refl (i+1)) ha
  ·have n1:=n1 (z0 (of_decide_eq_true (gwf' k)) i);conv=>whnf
   refine⟨by omega,by omega,?_⟩;conv=>whnf
   refine⟨_,n1,?_⟩;conv=>whnf
   refine⟨by show i+1<=16777216;omega,fun a b ha hb=>one_nq (Z i) _ a b ha hb,?_⟩;conv=>whnf
   refine⟨i64 (by omega) (by omega),?_⟩;conv=>whnf
   refine⟨i+1,by omega,Weak.gen [some 0,some 1] rfl ⟨boxK rfl rfl,⟨_,rfl,rfl,rfl,rfl,rfl,fun a b ha hb=>qY ?_ (qW (c:=fun k=>ofR (Z k)) a b)⟩,trivial⟩ ⟨rO rfl,rO rfl,⟨_,rfl,rfl,rfl⟩,⟨_,rfl,rfl,rfl⟩,⟨_,rfl,rfl⟩,⟨_,rfl,rfl⟩,trivial⟩,by omega⟩;exact appG (sz:=4) (g:=fun k=>nq (Z k)) (g':=fun k=>nq (Z k)) (l:=nq (Z i)) (app_sameq Z i a) (Nat.le_refl (i+1)) ha
 ·have h:=of_decide_eq_false h;have e:i=n:=by omega
  conv=>whnf
  refine⟨fun a b _ _=>qW (c:=fun k=>ofR (Z k)) a b,?_⟩;conv=>whnf
  exact⟨rfl,zg e fun _ _ _ _=>rfl⟩
theorem rcomb_ok {n:Nat} {X Y:Nat->Rat} {c:Rat} (hn:n<=1024) (hX:∀ i,i<n->qlen (X i)<=65535) (hY:∀ i,i<n->qlen (Y i)<=65535) (hc:qlen c<=65535):FnOK Tryz.prog false 63 [.c (nql n X),.g (nq c),.c (nql n Y)] (.c (nql n fun i=>X i+c*Y i)) :=
 rcombR_ok (qc:=ofR c) (wq_n (by omega)) (UW hc).1 (UW hc).2 (qP c) hn hX hY hc
end Rf
end Go.Proofs.YtkmbnldginonbaaGreat
/- The document's matrices: rows. -/
namespace Go.Proofs.YtkmbnldginonbaaGreat
open Go.RowKit
abbrev zj (n m:Nat) (G:Nat->Nat->Rat):List Cell:=[.int .i64 n,.int .i64 m,.row 4 (n*m) (qlF fun k=>ofR (G (k / m) (k%m)))]
abbrev qG (n m:Nat) (q:Nat->RawR):List Cell:=[.int .i64 n,.int .i64 m,ql (n*m) q]
namespace Rf
abbrev vb (n m:Nat) (G:Nat->Nat->Rat):Cell := .row 1 n fun i _=>nql m (G i)
theorem mat_idx {n m i j:Nat} (hi:i<n) (hj:j<m):i*m+j<n*m/\(i*m+j) / m=i/\(i*m+j)%m=j:=by
 have h1:(i+1)*m<=n*m:=Nat.mul_le_mul_right _ hi;rw[Nat.add_mul]at h1;refine⟨by omega,?_,?_⟩
 ·rw[Nat.mul_comm,Nat.mul_add_div (by omega),Nat.div_eq_of_lt hj,Nat.add_zero]
 ·rw[Nat.mul_comm,Nat.mul_add_mod,Nat.mod_eq_of_lt hj]
theorem rowsR_ok {n m:Nat} {q:Nat->RawR} {G:Nat->Nat->Rat} (hn:n<=64) (hm:m<=64) (h:∀ k,k<n*m->wq (q k)) (hG:∀ i j,i<n->j<m->(q (i*m+j)).val=G i j):FnOK Tryz.prog false 55 [.g (qG n m q)] (.c (vb n m G)):=by
 have hnm:∀ i,i<=n->(i:Int)*(m:Int)=((i*m:Nat):Int)/\i*m<=4096:=fun i hi=>⟨by rw[Int.natCast_mul],Nat.le_trans (Nat.mul_le_mul (show i<=64 by omega) hm) (by decide)⟩;have n1:∀ i j,i<n->j<m->FnOK Tryz.prog false 102 [.g (rr (q ((i:Int)*(m:Int)+(j:Int)).toNat))] (.g (nq (G i j))):=fun i j hi hj=>by
  have e1:=(hnm i (by omega)).1;rw[show((i:Int)*(m:Int)+(j:Int)).toNat=i*m+j by rw[e1];omega,<- hG i j hi hj];exact vq (h _ (mat_idx hi hj).1)
 clear hG;clear h;refine qV (E:=E0) qw Tryz.func55 rfl mixed (by kernel_rfl) (by kernel_rfl) ?_;conv=>whnf
 refine qK (fun i:Nat=>gst [(1,.c (.p 0 0 3 0 0)),(3,.c (.gs 1 0)),(4,.c (.int .i64 i))] [⟨24,3,1,qk (qG n m q)⟩,⟨22,1,i,fun k _=>nql m (G k)⟩]) (fun i=>n-i) (fun i=>i<=n) 0 rfl (Weak.gen [some 0,none] rfl ⟨boxK rfl rfl,rfl,trivial⟩ ⟨⟨_,rfl,rfl,rfl⟩,rfl,⟨_,rfl,rfl⟩,trivial⟩) (Nat.zero_le _) fun i hi=>?_;have n1:=n1 i;obtain⟨e1,e2⟩:=hnm i hi;have e3:=fun(a:i<n) (j:Nat) (b:j<m)=>(mat_idx a b).1;conv=>whnf
 refine qg (fun(h:decide ((i:Int)<n)=true)=>?_) fun(h:decide ((i:Int)<n)=false)=>?_
 ·have h:=of_decide_eq_true h;have n1:=fun j=>n1 j (by omega);have e3:=e3 (by omega);conv=>whnf
  refine qK (fun j:Nat=>gst [(1,.c (.p 0 0 3 0 0)),(3,.c (.gs 1 0)),(4,.c (.int .i64 i)),(5,.c (.gs 2 0)),(6,.c (.int .i64 j))] [⟨24,3,1,qk (qG n m q)⟩,⟨22,1,i,fun k _=>nql m (G k)⟩,gqr j fun k=>ofR (G i k)]) (fun j=>m-j) (fun j=>j<=m) 0 rfl (Weak.gen [some 0,some 1,none] rfl ⟨boxK rfl rfl,⟨_,rfl,rfl,rfl,rfl,rfl,fun a b ha hb=>qY rfl rfl⟩,rfl,trivial⟩ ⟨⟨_,rfl,rfl,rfl⟩,⟨_,rfl,rfl,rfl⟩,⟨_,rfl,rfl⟩,rfl,⟨_,rfl,rfl⟩,trivial⟩) (Nat.zero_le _) fun j hj=>?_;have n1:=n1 j;have e3:=e3 j;conv=>whnf
  refine qg (fun(h1:decide ((j:Int)<m)=true)=>?_) fun(h1:decide ((j:Int)<m)=false)=>?_
  ·have h1:=of_decide_eq_true h1;have n1:=n1 (by omega);have e3:=e3 (by omega);conv=>whnf
   refine⟨i64 (by rw[e1];omega) (by rw[e1];omega),?_⟩;conv=>whnf
   refine⟨i64 (by rw[e1];omega) (by rw[e1];omega),?_⟩;conv=>whnf
   refine⟨by rw[e1];omega,by show(i:Int)*(m:Int)+(j:Int)<((n*m:Nat):Int);rw[e1];omega,?_⟩;conv=>whnf
   refine⟨_,n1,?_⟩;conv=>whnf
   refine⟨by show j+1<=16777216;omega,fun a b ha hb=>one_nq (G i j) _ a b ha hb,?_⟩;conv=>whnf
   refine⟨i64 (by omega) (by omega),?_⟩;conv=>whnf
   refine⟨j+1,by omega,Weak.gen [some 0,some 1,some 2] rfl ⟨boxK rfl rfl,⟨_,rfl,rfl,rfl,rfl,rfl,fun a b ha hb=>qY rfl rfl⟩,⟨_,rfl,rfl,rfl,rfl,rfl,fun a b ha hb=>qY ?_ (qW (c:=fun k=>ofR (G i k)) a b)⟩,trivial⟩ ⟨⟨_,rfl,rfl,rfl⟩,⟨_,rfl,rfl,rfl⟩,⟨_,rfl,rfl⟩,⟨_,rfl,rfl,rfl⟩,⟨_,rfl,rfl⟩,trivial⟩,by omega⟩;exact appG (sz:=4) (g:=fun k=>nq (G i k)) (g':=fun k=>nq (G i k)) (l:=nq (G i j)) (app_sameq (G i) j a) (Nat.le_refl (j+1)) ha
  ·have h1:=of_decide_eq_false h1;have ej:j=m:=by omega
   conv=>whnf
   refine⟨by show i+1<=16777216;omega,fun a b ha hb=>?_,?_⟩
   ·match a,b,ha,hb with
    | 0,0,_,_=>exact⟨rfl,fun h=>by cases h⟩
   conv=>whnf
   refine⟨i64 (by omega) (by omega),?_⟩;conv=>whnf
   refine⟨i+1,by omega,Weak.gen [some 0,some 1] rfl ⟨boxK rfl rfl,⟨_,rfl,rfl,rfl,rfl,rfl,fun a b ha hb=>?_⟩,trivial⟩ ⟨⟨_,rfl,rfl,rfl⟩,⟨_,rfl,rfl,rfl⟩,⟨_,rfl,rfl⟩,trivial⟩,by omega⟩;exact regApp (t:=fun k=>nql m (G k)) ha hb (fun _=>qY rfl rfl) (.inr (.inr ⟨2,_,rfl,rfl,rfl,rfl,Nat.zero_le _,rfl,ej,fun k l _ _=>⟨rfl,qW (c:=fun k=>ofR (G i k)) k l⟩⟩))
 ·have h:=of_decide_eq_false h;have e:i=n:=by omega
  conv=>whnf
  refine⟨fun a b _ _=>rfl,?_⟩;conv=>whnf
  exact⟨rfl,zg e fun _ _ _ _=>rfl⟩
theorem wq_mat {n m:Nat} {G:Nat->Nat->Rat} (h:∀ i j,i<n->j<m->qlen (G i j)<=524286) (k:Nat) (hk:k<n*m):wq (ofR (G (k / m) (k%m))):=by
 have h0:0<m:=Nat.pos_of_ne_zero fun e=>by rw[e,Nat.mul_zero]at hk;omega
 exact wq_n (h _ _ (Nat.div_lt_of_lt_mul (by rw[Nat.mul_comm];exact hk)) (Nat.mod_lt _ h0))
theorem Xq {n m:Nat} {G:Nat->Nat->Rat} (i j:Nat) (hi:i<n) (hj:j<m):(ofR (G ((i*m+j) / m) ((i*m+j)%m))).val=G i j:=by
 obtain⟨_,e2,e3⟩:=mat_idx hi hj;rw[qP,e2,e3]
theorem rows_ok {n m:Nat} {G:Nat->Nat->Rat} (hn:n<=64) (hm:m<=64) (h:∀ i j,i<n->j<m->qlen (G i j)<=524286):FnOK Tryz.prog false 55 [.g (zj n m G)] (.c (vb n m G)) :=
 rowsR_ok hn hm (wq_mat h) (Xq (n:=n))
end Rf
end Go.Proofs.YtkmbnldginonbaaGreat
/- The document's matrices: a list times a matrix; a matrix of rows; products. -/
namespace Go.Proofs.YtkmbnldginonbaaGreat
open Go.RowKit
namespace Rf
abbrev xY (x:Nat->Rat) (G:Nat->Nat->Rat) (i j:Nat):Rat:=Q.su (fun a=>x a*G a j) i
theorem applyV_ok {k m:Nat} {x:Nat->Rat} {qx:Nat->RawR} {p:Nat->RawR} {G:Nat->Nat->Rat} (hk:k<=64) (hm:m<=64) (hx:∀ i,i<k->wq (qx i)/\qB (qx i).num.val<=65535/\qB (qx i).den.val<=65535/\(qx i).val=x i/\qlen (x i)<=65535) (hG:∀ i j,i<k->j<m->qlen (G i j)<=65535) (hS:∀ i j,i<=k->j<m->qlen (xY x G i j)<=65535) (hw:∀ i,i<k*m->wq (p i)) (hv:∀ i j,i<k->j<m->(p (i*m+j)).val=G i j):FnOK Tryz.prog false 56 [.c (ql k qx),.g (qG k m p)] (.c (nql m (xY x G k))):=by
 have z0:=Xx (n:=m) (by omega);have r0:=rowsR_ok (n:=k) (m:=m) (q:=p) (G:=G) hk hm hw hv;have s0:∀ i,i<k->FnOK Tryz.prog false 106 [.g (rr (qx i))] (.c (.int .i64 (x i).num.sign)):=fun i hi=>by
  have:=rqsignR (hx i hi).1;rwa [(hx i hi).2.2.2.1]at this
 have c0:∀ i,i<k->FnOK Tryz.prog false 63 [.c (nql m (xY x G i)),.g (rr (qx i)),.c (nql m (G i))] (.c (nql m (xY x G (i+1)))):=fun i hi=>rcombR_ok (hx i hi).1 (hx i hi).2.1 (hx i hi).2.2.1 (hx i hi).2.2.2.1 (by omega) (fun j hj=>hS i j (by omega) hj) (fun j hj=>hG i j hi hj) (hx i hi).2.2.2.2;have e0:∀ i,(x i).num.sign=0->∀ j,xY x G i j=xY x G (i+1) j:=fun i e j=>by
  show _=xY x G i j+x i*G i j;rw[Rat.num_eq_zero.1 (Int.sign_eq_zero_iff_zero.1 e),Rat.zero_mul,Rat.add_zero]
 clear hx hG hS hw hv;refine qV (E:=E0) qw Tryz.func56 rfl mixed (by kernel_rfl) (by kernel_rfl) ?_;conv=>whnf
 refine⟨_,z0,?_⟩;conv=>whnf
 refine⟨_,r0,?_⟩;conv=>whnf
 refine qK (fun i:Nat=>gst [(0,.c (ql k qx)),(5,.c (nql m (xY x G i))),(6,.c (vb k m G)),(7,.c (.int .i64 i))] []) (fun i=>k-i) (fun i=>i<=k) 0 rfl (Weak.gen [] rfl trivial ⟨rO rfl,rO rfl,rO rfl,⟨_,rfl,rfl⟩,trivial⟩) (Nat.zero_le _) fun i hi=>?_;have s0:=s0 i;have c0:=c0 i;have e0:=e0 i;conv=>whnf
 refine qg (fun(h:decide ((i:Int)<k)=true)=>?_) fun(h:decide ((i:Int)<k)=false)=>?_
 ·have h:=of_decide_eq_true h;have s0:=s0 (by omega);have c0:=c0 (by omega);conv=>whnf
  refine⟨by omega,by omega,?_⟩;conv=>whnf
  refine⟨_,s0,?_⟩;conv=>whnf
  refine qg (fun(h1:(!decide ((x i).num.sign=0))=true)=>?_) fun(h1:(!decide ((x i).num.sign=0))=false)=>?_
  ·conv=>whnf
   refine⟨by omega,by omega,?_⟩;conv=>whnf
   refine⟨by omega,by omega,?_⟩;conv=>whnf
   refine⟨_,c0,?_⟩;conv=>whnf
   refine⟨i64 (by omega) (by omega),?_⟩;conv=>whnf
   exact⟨i+1,by omega,Weak.gen [] rfl trivial ⟨rO rfl,rO rfl,rO rfl,⟨_,rfl,rfl⟩,trivial⟩,by omega⟩
  ·have e0:=e0 (by simpa using h1);conv=>whnf
   refine⟨i64 (by omega) (by omega),?_⟩;conv=>whnf
   exact⟨i+1,by omega,Weak.gen [] rfl trivial ⟨rO rfl,.inl ⟨_,_,rfl,rfl,fun a b _ _=>Ug (c:=fun j=>ofR (xY x G i j)) (e:=fun j=>ofR (xY x G (i+1) j)) (i:=a) (k:=a) (congrArg ofR (e0 a))⟩,rO rfl,⟨_,rfl,rfl⟩,trivial⟩,by omega⟩
 ·have h:=of_decide_eq_false h;have e:i=k:=by omega
  have g:Sub (.c (nql m (xY x G i))) (.c (nql m (xY x G k))):=by rw[e];exact Sub.refl _
  conv=>whnf
  exact⟨rfl,g⟩
theorem applyR_ok {k m:Nat} {x:Nat->Rat} {p:Nat->RawR} {G:Nat->Nat->Rat} (hk:k<=64) (hm:m<=64) (hx:∀ i,i<k->qlen (x i)<=65535) (hG:∀ i j,i<k->j<m->qlen (G i j)<=65535) (hS:∀ i j,i<=k->j<m->qlen (xY x G i j)<=65535) (hw:∀ i,i<k*m->wq (p i)) (hv:∀ i j,i<k->j<m->(p (i*m+j)).val=G i j):FnOK Tryz.prog false 56 [.c (nql k x),.g (qG k m p)] (.c (nql m (xY x G k))) :=
 applyV_ok (qx:=fun i=>ofR (x i)) hk hm (fun i hi=>⟨wq_n (Nat.le_trans (hx i hi) (by decide)),(UW (hx i hi)).1,(UW (hx i hi)).2,qP _,hx i hi⟩) hG hS hw hv
theorem mat_next {n m i j:Nat} (G:Nat->Nat->Rat) (hj:j<m) (hi:i<n):nq (G ((i*m+j) / m) ((i*m+j)%m))=nq (G i j):=by
 obtain⟨_,e2,e3⟩:=mat_idx hi hj;rw[e2,e3]
theorem rofR {n m:Nat} {q:Nat->Nat->RawR} {G:Nat->Nat->Rat} (hn:n<=64) (hm:m<=64) (hw:∀ i j,i<n->j<m->wq (q i j)) (hv:∀ i j,i<n->j<m->(q i j).val=G i j):FnOK Tryz.prog false 57 [.c (.int .i64 m),.c (.row 1 n fun i _=>ql m (q i))] (.g (zj n m G)):=by
 have n1:∀ i j,i<n->j<m->FnOK Tryz.prog false 102 [.g (rr (q i j))] (.g (nq (G i j))):=fun i j hi hj=>by
  have:=vq (hw i j hi hj);rwa [hv i j hi hj]at this
 have hnm:∀ i,i<=n->i*m<=4096:=fun i hi=>Nat.le_trans (Nat.mul_le_mul (show i<=64 by omega) hm) (by decide);clear hw hv;refine qV (E:=E0) qw Tryz.func57 rfl mixed (by kernel_rfl) (by kernel_rfl) ?_;conv=>whnf
 refine qK (fun i:Nat=>gst [(0,.c (.int .i64 m)),(1,.c (.row 1 n fun i _=>ql m (q i))),(4,.c (.p 0 0 3 0 0)),(5,.c (.p 1 0 3 0 0)),(6,.c (.int .i64 i))] [⟨24,3,1,qk [.int .i64 0,.int .i64 0,.nil]⟩,⟨24,3,1,qk [.int .i64 n,.int .i64 m,.gs 2 0]⟩,gqr (i*m) fun k=>ofR (G (k / m) (k%m))]) (fun i=>n-i) (fun i=>i<=n) 0 rfl ?_ (Nat.zero_le _) fun i hi=>?_
 ·refine Weak.gen [some 0,some 1,none] rfl ⟨boxK rfl rfl,⟨_,rfl,rfl,rfl,rfl,rfl,fun a b ha hb=>by
   obtain rfl:=Nat.lt_one_iff.1 ha;match b,hb with
   | 0,_=>exact⟨_,rfl,rfl⟩
   | 1,_=>exact⟨_,rfl,rfl⟩
   | 2,_=>exact rfl⟩,Nat.zero_mul m,trivial⟩ ⟨⟨_,rfl,rfl⟩,rO rfl,⟨_,rfl,rfl,rfl⟩,⟨_,rfl,rfl,rfl⟩,⟨_,rfl,rfl⟩,trivial⟩
 have n1:=n1 i;have e1:=hnm i hi;conv=>whnf
 refine qg (fun(h:decide ((i:Int)<n)=true)=>?_) fun(h:decide ((i:Int)<n)=false)=>?_
 ·have h:=of_decide_eq_true h;have n1:=fun j=>n1 j (by omega);have ap:∀ j,j<m->∀ a,(if a=i*m+j then nq (G i j)else nq (G (a / m) (a%m)))=nq (G (a / m) (a%m)):=fun j hj a=>by
   split
   ·rename_i e;rw[e,mat_next G hj (show i<n by omega)]
   ·rfl
  conv=>whnf
  refine qK (fun j:Nat=>gst [(0,.c (.int .i64 m)),(1,.c (.row 1 n fun i _=>ql m (q i))),(4,.c (.p 0 0 3 0 0)),(5,.c (.p 1 0 3 0 0)),(6,.c (.int .i64 i)),(7,.c (.int .i64 j))] [⟨24,3,1,qk [.int .i64 0,.int .i64 0,.nil]⟩,⟨24,3,1,qk [.int .i64 n,.int .i64 m,.gs 2 0]⟩,gqr (i*m+j) fun k=>ofR (G (k / m) (k%m))]) (fun j=>m-j) (fun j=>j<=m) 0 rfl (Weak.gen [some 0,some 1,some 2] rfl ⟨boxK rfl rfl,⟨_,rfl,rfl,rfl,rfl,rfl,fun a b ha hb=>by
   obtain rfl:=Nat.lt_one_iff.1 ha;match b,hb with
   | 0,_=>exact⟨_,rfl,rfl⟩
   | 1,_=>exact⟨_,rfl,rfl⟩
   | 2,_=>exact⟨_,rfl,rfl,rfl⟩⟩,⟨_,rfl,rfl,rfl,rfl,rfl,fun a b ha hb=>qY rfl (qW (c:=fun k=>ofR (G (k / m) (k%m))) a b)⟩,trivial⟩ ⟨⟨_,rfl,rfl⟩,rO rfl,⟨_,rfl,rfl,rfl⟩,⟨_,rfl,rfl,rfl⟩,⟨_,rfl,rfl⟩,⟨_,rfl,rfl⟩,trivial⟩) (Nat.zero_le _) fun j hj=>?_
  have n1:=n1 j;have ap:=ap j;conv=>whnf
  refine qg (fun(h1:decide ((j:Int)<m)=true)=>?_) fun(h1:decide ((j:Int)<m)=false)=>?_
  ·have h1:=of_decide_eq_true h1;have n1:=n1 (by omega);have ap:=ap (by omega);conv=>whnf
   refine⟨by omega,by omega,?_⟩;conv=>whnf
   refine⟨by omega,by omega,?_⟩;conv=>whnf
   refine⟨_,n1,?_⟩;conv=>whnf
   refine .inr ⟨rfl,?_⟩;conv=>whnf
   refine⟨by show i*m+j+1<=16777216;omega,fun a b ha hb=>one_nq (G i j) _ a b ha hb,?_⟩;conv=>whnf
   refine⟨i64 (by omega) (by omega),?_⟩;conv=>whnf
   refine⟨j+1,by omega,Weak.gen [some 0,some 1,some 2] rfl ⟨boxK rfl rfl,⟨_,rfl,rfl,rfl,rfl,rfl,fun a b ha hb=>by
   obtain rfl:=Nat.lt_one_iff.1 ha;match b,hb with
   | 0,_=>exact⟨_,rfl,rfl⟩
   | 1,_=>exact⟨_,rfl,rfl⟩
   | 2,_=>exact⟨_,rfl,rfl,rfl⟩⟩,⟨_,rfl,rfl,rfl,rfl,rfl,fun a b ha hb=>qY ?_ (qW (c:=fun k=>ofR (G (k / m) (k%m))) a b)⟩,trivial⟩ ⟨⟨_,rfl,rfl⟩,rO rfl,⟨_,rfl,rfl,rfl⟩,⟨_,rfl,rfl,rfl⟩,⟨_,rfl,rfl⟩,⟨_,rfl,rfl⟩,trivial⟩,by omega⟩
   exact appG (sz:=4) (g:=fun k=>nq (G (k / m) (k%m))) (g':=fun k=>nq (G (k / m) (k%m))) (l:=nq (G i j)) (ap a) (Nat.le_refl (i*m+j+1)) ha
  ·have h1:=of_decide_eq_false h1;have ej:i*m+j=(i+1)*m:=by rw[Nat.succ_mul,show j=m by omega]
   conv=>whnf
   refine⟨i64 (by omega) (by omega),?_⟩;conv=>whnf
   exact⟨i+1,by omega,Weak.gen [some 0,some 1,some 2] rfl ⟨boxK rfl rfl,⟨_,rfl,rfl,rfl,rfl,rfl,fun a b ha hb=>by
   obtain rfl:=Nat.lt_one_iff.1 ha;match b,hb with
   | 0,_=>exact⟨_,rfl,rfl⟩
   | 1,_=>exact⟨_,rfl,rfl⟩
   | 2,_=>exact⟨_,rfl,rfl,rfl⟩⟩,⟨_,rfl,rfl,rfl,ej,rfl,fun a b ha hb=>qY rfl (qW (c:=fun k=>ofR (G (k / m) (k%m))) a b)⟩,trivial⟩ ⟨⟨_,rfl,rfl⟩,rO rfl,⟨_,rfl,rfl,rfl⟩,⟨_,rfl,rfl,rfl⟩,⟨_,rfl,rfl⟩,trivial⟩,by omega⟩
 ·have h:=of_decide_eq_false h;have e:i=n:=by omega
  have g:Sub (.g [.int .i64 n,.int .i64 m,.row 4 (i*m) (qlF fun k=>ofR (G (k / m) (k%m)))]) (.g (zj n m G)):=by rw[e];exact Sub.refl _
  conv=>whnf
  refine⟨fun a b _ _=>qW (c:=fun k=>ofR (G (k / m) (k%m))) a b,?_⟩;conv=>whnf
  exact⟨rfl,g⟩
theorem rof_mat {n m:Nat} {G:Nat->Nat->Rat} (hn:n<=64) (hm:m<=64) (h:∀ i j,i<n->j<m->qlen (G i j)<=524286):FnOK Tryz.prog false 57 [.c (.int .i64 m),.c (vb n m G)] (.g (zj n m G)) :=
 rofR (q:=fun i j=>ofR (G i j)) hn hm (fun i j hi hj=>wq_n (h i j hi hj)) fun _ _ _ _=>qP _
end Rf
end Go.Proofs.YtkmbnldginonbaaGreat
/- The document's product of matrices. -/
namespace Go.Proofs.YtkmbnldginonbaaGreat
open Go.RowKit
namespace Rf
theorem rmatmulR_ok {n k m:Nat} {q p:Nat->RawR} {A B:Nat->Nat->Rat} (hn:n<=64) (hk:k<=64) (hm:m<=64) (hA:∀ i j,i<n->j<k->qlen (A i j)<=65535) (hB:∀ i j,i<k->j<m->qlen (B i j)<=65535) (hS:∀ r i j,r<n->i<=k->j<m->qlen (xY (A r) B i j)<=65535) (hq:∀ i,i<n*k->wq (q i)) (hqv:∀ i j,i<n->j<k->(q (i*k+j)).val=A i j) (hp:∀ i,i<k*m->wq (p i)) (hpv:∀ i j,i<k->j<m->(p (i*m+j)).val=B i j):FnOK Tryz.prog false 14 [.g (qG n k q),.g (qG k m p)] (.g (zj n m fun r=>xY (A r) B k)):=by
 have r0:=rowsR_ok (n:=n) (m:=k) (q:=q) (G:=A) hn hk hq hqv;have a0:∀ i,i<n->FnOK Tryz.prog false 56 [.c (nql k (A i)),.g (qG k m p)] (.c (nql m (xY (A i) B k))):=fun i hi=>applyR_ok hk hm (fun j hj=>hA i j hi hj) hB (fun r j hr hj=>hS i r j hi hr hj) hp hpv;have o0:=rof_mat (n:=n) (m:=m) (G:=fun r=>xY (A r) B k) hn hm fun i j hi hj=>by have:=hS i k j hi (Nat.le_refl _) hj;omega
 clear hA hB hS hq hqv hp hpv;have o1:∀ i,i=n->FnOK Tryz.prog false 57 [.c (.int .i64 m),.c (.row 1 i fun a _=>nql m (xY (A a) B k))] (.g (zj n m fun r=>xY (A r) B k)):=fun i e=>by rw[e];exact o0
 refine qV (E:=E0) qw Tryz.func14 rfl mixed (by kernel_rfl) (by kernel_rfl) ?_;conv=>whnf
 refine⟨_,r0,?_⟩;conv=>whnf
 refine qK (fun i:Nat=>gst [(3,.c (.p 0 0 3 0 0)),(4,.c (.p 1 0 3 0 0)),(5,.c (vb n k A)),(6,.c (.gs 2 0)),(7,.c (.int .i64 i))] [⟨24,3,1,qk (qG k m p)⟩,⟨24,3,1,qk [.int .i64 0,.int .i64 0,.nil]⟩,⟨22,1,i,fun a _=>nql m (xY (A a) B k)⟩]) (fun i=>n-i) (fun i=>i<=n) 0 rfl (Weak.gen [some 1,some 2,none] rfl ⟨boxK rfl rfl,boxK rfl rfl,rfl,trivial⟩ ⟨⟨_,rfl,rfl,rfl⟩,⟨_,rfl,rfl,rfl⟩,rO rfl,rfl,⟨_,rfl,rfl⟩,trivial⟩) (Nat.zero_le _) fun i hi=>?_;have a0:=a0 i;conv=>whnf
 refine qg (fun(h:decide ((i:Int)<n)=true)=>?_) fun(h:decide ((i:Int)<n)=false)=>?_
 ·have h:=of_decide_eq_true h;have a0:=a0 (by omega);conv=>whnf
  refine⟨by omega,by omega,?_⟩;conv=>whnf
  refine⟨_,a0,?_⟩;conv=>whnf
  refine .inr ⟨rfl,?_⟩;conv=>whnf
  refine⟨by show i+1<=16777216;omega,fun a b ha hb=>?_,?_⟩
  ·match a,b,ha,hb with
   | 0,0,_,_=>exact⟨rfl,fun h=>by cases h⟩
  conv=>whnf
  refine⟨i64 (by omega) (by omega),?_⟩;conv=>whnf
  exact⟨i+1,by omega,Weak.gen [some 0,some 1,some 2] rfl ⟨boxK rfl rfl,boxK rfl rfl,⟨_,rfl,rfl,rfl,rfl,rfl,fun a b ha hb=>regApp (t:=fun a=>nql m (xY (A a) B k)) ha hb (fun _=>qY rfl rfl) (qY rfl rfl)⟩,trivial⟩ ⟨⟨_,rfl,rfl,rfl⟩,⟨_,rfl,rfl,rfl⟩,rO rfl,⟨_,rfl,rfl,rfl⟩,⟨_,rfl,rfl⟩,trivial⟩,by omega⟩
 ·have h:=of_decide_eq_false h;have g:=o1 i (by omega);conv=>whnf
  refine⟨fun a b _ _=>rfl,?_⟩;conv=>whnf
  refine⟨_,g,?_⟩;conv=>whnf
  exact⟨rfl,Sub.refl _⟩
end Rf
end Go.Proofs.YtkmbnldginonbaaGreat
/- Lists and matrices are the same as themselves. -/
namespace Go.Proofs.YtkmbnldginonbaaGreat
open Go.RowKit
namespace Rf
theorem sameRat_n {x:Rat} (h:qlen x<=524286):FnOK Tryz.prog false 68 [.g (nq x),.g (nq x)] (.c (.bool true)):=by
 have h1:=lenZ h;have s1:=sameInt_n x.num (by omega);have s2:=sameInt_n (x.den:Int) (by omega);refine qV (E:=E0) qw Tryz.func68 rfl mixed (by kernel_rfl) (by kernel_rfl) ?_;conv=>whnf
 refine⟨_,s1,?_⟩;conv=>whnf
 refine⟨_,s2,?_⟩;conv=>whnf
 exact⟨rfl,Sub.refl _⟩
theorem sameRats_n {n:Nat} {v:Nat->Rat} (hn:n<=4096) (h:∀ i,i<n->qlen (v i)<=524286):FnOK Tryz.prog false 21 [.c (nql n v),.c (nql n v)] (.c (.bool true)):=by
 have s1:=fun i hi=>sameRat_n (h i hi);clear h;refine qV (E:=E0) qw Tryz.func21 rfl mixed (by kernel_rfl) (by kernel_rfl) ?_;conv=>whnf
 refine jj (show(!decide ((n:Int)=n))=false by simp) ?_;conv=>whnf
 refine qK (fun i:Nat=>gst [(0,.c (nql n v)),(1,.c (nql n v)),(5,.c (.int .i64 i))] []) (fun i=>n-i) (fun i=>i<=n) 0 rfl (Weak.gen [] rfl trivial ⟨rO rfl,rO rfl,⟨_,rfl,rfl⟩,trivial⟩) (Nat.zero_le _) fun i hi=>?_;have s1:=s1 i;conv=>whnf
 refine qg (fun(h:decide ((i:Int)<n)=true)=>?_) fun(h:decide ((i:Int)<n)=false)=>?_
 ·have h:=of_decide_eq_true h;have s1:=s1 (by omega);conv=>whnf
  refine⟨by omega,by omega,?_⟩;conv=>whnf
  refine⟨by omega,by omega,?_⟩;conv=>whnf
  refine⟨_,s1,?_⟩;conv=>whnf
  refine⟨i64 (by omega) (by omega),?_⟩;conv=>whnf
  exact⟨i+1,by omega,Weak.gen [] rfl trivial ⟨rO rfl,rO rfl,⟨_,rfl,rfl⟩,trivial⟩,by omega⟩
 ·conv=>whnf
  exact⟨rfl,Sub.refl _⟩
end Rf
end Go.Proofs.YtkmbnldginonbaaGreat
namespace Go.Proofs.YtkmbnldginonbaaGreat
open Go.RowKit
namespace Rf
set_option maxHeartbeats 4000000
theorem zneg_n {x:Int} (h:qB x<=1048576):FnOK Tryz.prog false 144 [.g (nz x)] (.g (nz (-x))):=by
 have:=zneg_ok (a:=ofZ x) (k6 h);rwa [qX]at this
theorem rqneg_n {x:Rat} (hx:qlen x<=131070):FnOK Tryz.prog false 167 [.g (nq x)] (.g (nq (-x))):=by
 have h1:=lenZ hx;have m1:=zneg_n (x:=x.num) (by omega);have e:=kQ x.num;have o:=over_n (x := -x) (a := -x.num) (b:=(x.den:Int)) (by rw[Wz,zw]) (by omega) (by omega);refine qV (E:=E0) qw Tryz.func167 rfl mixed (by kernel_rfl) (by kernel_rfl) ?_;conv=>whnf
 refine⟨_,m1,?_⟩;conv=>whnf
 refine⟨_,o,?_⟩;conv=>whnf
 exact⟨rfl,Sub.refl _⟩
theorem rqratio_n {x y:Rat} (hx:qlen x<=131070) (hy:qlen y<=131070):FnOK Tryz.prog false 70 [.g (nq x),.g (nq y)] (.g (nq (x / y))):=by
 have h1:=lenZ hx;have h2:=lenZ hy;have n1:=U7 (x:=x) (by omega);have n2:=U7 (x:=y) (by omega);have m1:=zmul_n (a:=x.num) (b:=(y.den:Int)) (by omega);have m2:=zmul_n (a:=(x.den:Int)) (b:=y.num) (by omega);have l1:=zJ x.num (y.den:Int);have l2:=zJ (x.den:Int) y.num;have o:=over_n (x:=x / y) (a:=x.num*(y.den:Int)) (b:=(x.den:Int)*y.num) (by rw[<- ratio_div,zw,zw]) (by omega) (by omega);refine qV (E:=E0) qw Tryz.func70 rfl mixed (by kernel_rfl) (by kernel_rfl) ?_;conv=>whnf
 refine⟨_,n1,?_⟩;conv=>whnf
 refine⟨_,n2,?_⟩;conv=>whnf
 refine⟨_,m1,?_⟩;conv=>whnf
 refine⟨_,m2,?_⟩;conv=>whnf
 refine⟨_,o,?_⟩;conv=>whnf
 exact⟨rfl,Sub.refl _⟩
end Rf
end Go.Proofs.YtkmbnldginonbaaGreat
set_option maxHeartbeats 4000000
namespace Go.Proofs.YtkmbnldginonbaaGreat
open Go.RowKit
def wk (sz n:Nat) (g:Nat->List Cell):V := .c (.row sz n fun i j=>(g i).getD j .any)
theorem SubC.row {sz n:Nat} {f f':Nat->Nat->Cell} (h:∀ i j,i<n->j<sz->f i j=f' i j):SubC (.row sz n f) (.row sz n f'):=by
 rintro D w v ⟨A,c,rfl,h1,h3⟩;refine⟨A,c,rfl,h1,fun hn=>?_⟩;obtain⟨b,o,hA,hb,hD,hc⟩:=h3 hn;refine⟨b,o,hA,hb,hD,fun i j hi hj=>?_⟩;rw[<- h i j hi hj];exact hc i j hi hj
theorem Sub.row {sz n n':Nat} {f f':Nat->Nat->Cell} (hn:n=n') (h:∀ i j,i<n->j<sz->f i j=f' i j):Sub (.c (.row sz n f)) (.c (.row sz n' f')):=by
 subst hn;exact fun D w v hv=>SubC.row h D w v hv
theorem yj (q:RawR) (j:Nat) (h:j<4):((rr q).getD j .any).clos=true:=by
 match j,h with
 | 0,_=>rfl
 | 1,_=>rfl
 | 2,_=>rfl
 | 3,_=>rfl
theorem qof0:FnOK Tryz.prog true 45 [.c (.int .i64 0)] (.g (nq 0)):=qof_ok (n:=0) (by omega) (by omega)
theorem qz {n:Int} (h1 : -9223372036854775808<=n) (h2:n<9223372036854775808):inR .i64 n:=⟨h1,h2⟩
theorem yv : ∀ {c : Cell} {m : Nat}, c.clos = true → c.lt m = true
 | .cl _ _ _,_,h=>by
  simp only[Cell.clos,Cell.lt,List.all_eq_true,List.mem_range]at h ⊢
  exact fun j hj=>yv (h j hj)
 | .any,_,_=>rfl
 | .bool _,_,_=>rfl
 | .int _ _,_,_=>rfl
 | .nil,_,_=>rfl
 | .row _ _ _,_,_=>rfl
 | .xp _ _,_,_=>rfl
 | .fn _,_,_=>rfl
 | .str _,_,_=>rfl
 | .p ..,_,h=>by simp[Cell.clos]at h
 | .gs ..,_,h=>by simp[Cell.clos]at h
 | .sl ..,_,h=>by simp[Cell.clos]at h
theorem zeroF_clos {l:List Cell} (h:l.all Cell.clos=true) (i j:Nat) (hj:j<l.length):(zeroF l i j).clos=true:=by
 show(l.getD j .any).clos=true;simp only[List.getD,List.getElem?_eq_getElem hj,Option.getD_some];exact List.all_eq_true.1 h _ (List.getElem_mem hj)
structure Filled (n i : Nat) (g : Nat → List Cell) (f : Nat → Nat → Cell) : Prop where
 done:∀ i' j,i'<i->j<4->f i' j=(g i').getD j .any
 clos:∀ i' j,i'<n->j<4->(f i' j).clos=true
theorem Filled.step {n i:Nat} {g:Nat->List Cell} {f:Nat->Nat->Cell} (h:Filled n i g f) {q:RawR} (hq:g i=rr q):Filled n (i+1) g (zY f i 0 (rr q)):=by
 constructor
 ·intro i' j hi hj;unfold zY;by_cases e:i'=i
  ·subst e;rw[if_pos ⟨rfl,Nat.zero_le _,by simpa [rr] using hj⟩,hq];rfl
  ·rw[if_neg (fun h=>e h.1)];exact h.done i' j (by omega) hj
 ·intro i' j hi hj;unfold zY;split
  ·exact yj q _ (by omega)
  ·exact h.clos i' j hi hj
end Go.Proofs.YtkmbnldginonbaaGreat
/- Rows that are written: combine; vectors times rows. -/
namespace Go.Proofs.YtkmbnldginonbaaGreat
open Go.RowKit
def jw (n:Nat) (A:Nat->Rat):Cell := .row 4 n fun i j=>(nq (A i)).getD j .any
def wG (n:Nat) (A:Nat->Rat):Blk:=⟨38,4,n,0,0,fun i j=>(nq (A i)).getD j .any⟩
theorem VQ (n:Nat) (A:Nat->Rat):(wG n A).plain:=fun _ _ _ _ hj=>yj _ _ hj
def QS:Nat:=274877906944
theorem nonzero_ok {q:RawR} {L:Nat} (h:q.Fit L) (hL:L+3<=LIM):FnOK Tryz.prog true 154 [.g (rr q)] (.c (.bool (decide (q.val≠0)))):=by
 refine qV (E:=E1) qQ Tryz.func154 rfl mixed (by kernel_rfl) (by kernel_rfl) ?_;conv=>whnf
 refine⟨_,qsign_ok (q:=q) h hL,?_⟩;conv=>whnf
 refine⟨rfl,Sub.bool ?_⟩;show(!decide (q.val.num.sign=0))=decide (q.val≠0);by_cases e:q.val=0
 ·simp[e]
 ·have:¬ q.val.num.sign=0:=fun h=>e ((jf _).1 h);simp[e]
theorem QS_lim:3*QS+16<=LIM:=by decide
theorem Wq {x y:Rat} {L L':Nat} (hx:qlen x<=L) (hy:qlen y<=L') (h1:1<=L+L'):qlen (x*y)<=L+L':=by
 have e:x*y=zx (x.num*y.num) ((x.den:Int)*(y.den:Int)):=by
  rw[<- yV,zw,zw]
 rw[e];unfold qlen at hx hy;have a1:=zJ x.num y.num;have a2:=zJ (x.den:Int) (y.den:Int);exact yF (by omega) (by omega) h1
theorem upd_alike {n i:Nat} {A A':Nat->Rat} {y:Rat} (h1:A' i=y) (h2:∀ i',i'<n->i'≠i->A' i'=A i'):Blk.alike ⟨38,4,n,0,0,zY (wG n A).f i 0 (nq y)⟩ (wG n A'):=by
 refine⟨rfl,fun i' j hi hj=>?_⟩;show zY (wG n A).f i 0 (nq y) i' j=(nq (A' i')).getD j .any;unfold zY;by_cases e:i'=i
 ·subst e;rw[if_pos ⟨rfl,Nat.zero_le _,by simpa [rr] using hj⟩,h1];rfl
 ·rw[if_neg (fun h=>e h.1),h2 i' hi e];rfl
theorem mid_alike {n:Nat} {A A':Nat->Rat} (h2:∀ i',i'<n->A' i'=A i'):Blk.alike (wG n A) (wG n A'):=by
 refine⟨rfl,fun i' j hi hj=>?_⟩;show(nq (A i')).getD j .any=(nq (A' i')).getD j .any;rw[h2 i' hi]
def mid (A Bv:Nat->Rat) (x:Rat) (i i':Nat):Rat:=if i'<i then A i'+x*Bv i' else A i'
theorem mid_self {A Bv:Nat->Rat} {x:Rat} {i:Nat}:mid A Bv x i i=A i:=by simp[mid]
theorem mid_succ {A Bv:Nat->Rat} {x:Rat} {i:Nat}:mid A Bv x (i+1) i=A i+x*Bv i:=by simp[mid]
theorem mid_ne {A Bv:Nat->Rat} {x:Rat} {i i':Nat} (h:i'≠i):mid A Bv x (i+1) i'=mid A Bv x i i':=by
 unfold mid;by_cases e:i'<i
 ·rw[if_pos e,if_pos (by omega)]
 ·rw[if_neg e,if_neg (by omega)]
theorem VJ (n m:Nat) (A:Nat->Rat) (i j:Nat) (hj:j<4):((wG n A).f i j).lt m=true:=yv (yj _ _ hj)
theorem box_lt (q:RawR) (m i j:Nat) (hj:j<4):(qk (rr q) i j).lt m=true:=yv (yj _ _ hj)
theorem upd_clos {n i:Nat} {A:Nat->Rat} {y:Rat} (i' j:Nat) (hj:j<4):(zY (wG n A).f i 0 (nq y) i' j).clos=true:=by
 unfold zY;split
 ·exact yj _ _ (by omega)
 ·exact yj _ _ hj
theorem combine_m {n : Nat} {A Bv : Nat → Rat} {x : Rat} (hn : n ≤ 1048576) (hA : ∀ i, i < n → qlen (A i) ≤ QS) (hB : ∀ i, i < n → qlen (Bv i) ≤ QS) (hx : qlen x ≤ QS) :
  FnM Tryz.prog true 155 (wG n A) [.c (.gs 0 0),.c (jw n Bv),.g (nq x),.c (.int .i64 0)] (.c .any) (wG n fun i=>A i+x*Bv i) []:=by
 have hQ:=QS_lim;have hQ1:1<=QS:=by decide
 refine fnm_ok (E:=E1m) wj Tryz.func155 rfl mixed (by kernel_rfl) (by kernel_rfl) rfl ?_;conv=>whnf
 refine gg (fun k σ=>∃ i:Nat,k=n-i/\i<=n/\σ=⟨asg [(0,.c (.gs 0 0)),(1,.c (jw n Bv)),(6,.c (.p 1 0 4 0 0)),(8,.c (.int .i64 i))],[wG n (mid A Bv x i),⟨38,4,1,0,0,qk (nq x)⟩]⟩) n ?_ ?_
 ·refine⟨_,Weak.cut (tl:=[(0,.c (.gs 0 0)),(1,.c (jw n Bv)),(6,.c (.p 1 0 4 0 0)),(8,.c (.int .i64 0))]) (bl':=[wG n (mid A Bv x 0),⟨38,4,1,0,0,qk (nq x)⟩]) rfl ⟨rfl,rfl,rfl,rfl,trivial⟩ rfl ⟨fun _ i j _ hj=>VJ _ _ _ i j hj,fun _ i j _ hj=>box_lt _ _ i j hj,trivial⟩ rfl,0,rfl,by omega,rfl⟩
 ·rintro k σ' ⟨i,hk,hi,rfl⟩;conv=>whnf
  refine qg (fun(h:decide ((i:Int)<n)=true)=>?_) fun(h:decide ((i:Int)<n)=false)=>?_
  ·have h:=of_decide_eq_true h;have hin:i<n:=by omega
   conv=>whnf
   refine⟨by omega,by show((i:Nat):Int)<(n:Int);omega,?_⟩;conv=>whnf
   refine⟨_,nonzero_ok (q:=ofR (Bv i)) (zX (hB i hin)) (by omega),?_⟩;conv=>whnf
   refine qg (fun(h2:decide ((ofR (Bv i)).val≠0)=true)=>?_) fun(h2:decide ((ofR (Bv i)).val≠0)=false)=>?_
   ·conv=>whnf
    refine⟨by omega,by show((i:Nat):Int)<(n:Int);omega,?_⟩;conv=>whnf
    refine⟨by omega,by show((i:Nat):Int)<(n:Int);omega,?_⟩;conv=>whnf
    refine⟨_,qmul_ok (q:=ofR x) (p:=ofR (Bv i)) (zX hx) (zX (hB i hin)) (by omega),?_⟩;conv=>whnf
    refine⟨_,qadd_ok (q:=ofR (mid A Bv x i i)) (p:=ofR ((ofR x).val*(ofR (Bv i)).val)) (zX (L:=QS) (by rw[mid_self];exact hA i hin)) (zX (L:=QS+QS) (by rw[qP,qP];exact Wq hx (hB i hin) (by omega))) (by omega),?_⟩;conv=>whnf
    refine⟨by omega,by show((i:Nat):Int)<(n:Int);omega,?_⟩;conv=>whnf
    refine⟨qz (by omega) (by omega),?_⟩;conv=>whnf
    refine⟨n-(i+1),by omega,_,(Weak.cut (tl:=[(0,.c (.gs 0 0)),(1,.c (jw n Bv)),(6,.c (.p 1 0 4 0 0)),(8,.c (.int .i64 (i+1:Nat)))]) (bl':=[⟨38,4,n,0,0,zY (wG n (mid A Bv x i)).f i 0 (nq ((ofR (mid A Bv x i i)).val+(ofR ((ofR x).val*(ofR (Bv i)).val)).val))⟩,⟨38,4,1,0,0,qk (nq x)⟩]) rfl ⟨rfl,rfl,rfl,rfl,trivial⟩ rfl ⟨fun _ i' j _ hj=>yv (upd_clos i' j hj),fun _ i j _ hj=>box_lt _ _ i j hj,trivial⟩ rfl).trans (Weak.alike (bl':=[wG n (mid A Bv x (i+1)),_]) ⟨upd_alike (by rw[qP,qP,qP,qP,mid_self,mid_succ]) fun i' _ he=>mid_ne he,Blk.alike.refl _,trivial⟩),i+1,rfl,by omega,rfl⟩
   ·have h2:Bv i=0:=by have:=of_decide_eq_false h2;rw[qP]at this;exact Decidable.not_not.1 this
    conv=>whnf
    refine⟨qz (by omega) (by omega),?_⟩;conv=>whnf
    refine⟨n-(i+1),by omega,_,(Weak.cut (tl:=[(0,.c (.gs 0 0)),(1,.c (jw n Bv)),(6,.c (.p 1 0 4 0 0)),(8,.c (.int .i64 (i+1:Nat)))]) (bl':=[wG n (mid A Bv x i),⟨38,4,1,0,0,qk (nq x)⟩]) rfl ⟨rfl,rfl,rfl,rfl,trivial⟩ rfl ⟨fun _ i j _ hj=>VJ _ _ _ i j hj,fun _ i j _ hj=>box_lt _ _ i j hj,trivial⟩ rfl).trans (Weak.alike (bl':=[wG n (mid A Bv x (i+1)),_]) ⟨mid_alike fun i' _=>?_,Blk.alike.refl _,trivial⟩),i+1,rfl,by omega,rfl⟩;by_cases e:i'=i
    ·subst e;rw[mid_self,mid_succ,h2,Rat.mul_zero,Rat.add_zero]
    ·exact mid_ne e
  ·have h:=of_decide_eq_false h;obtain rfl:i=n:=by omega
   conv=>whnf
   exact(Weak.cut (m0:=1) (tl:=[(0,.c .any)]) (bl':=[wG i (mid A Bv x i)]) rfl ⟨rfl,trivial⟩ rfl ⟨fun _ i j _ hj=>VJ _ _ _ i j hj,trivial⟩ rfl).trans (Weak.alike (bl':=[wG i fun i=>A i+x*Bv i]) ⟨mid_alike fun i' hi'=>by unfold mid;rw[if_pos hi'],trivial⟩)
theorem zeros_m {n:Nat} (hn:n<=1048576):FnM Tryz.prog true 151 phB [.c (.int .i64 n)] (.c (.gs 1 0)) phB [wG n fun _=>0]:=by
 refine fnm_ok (E:=E1m) wj Tryz.func151 rfl mixed (by kernel_rfl) (by kernel_rfl) rfl ?_;conv=>whnf
 refine⟨by omega,by omega,by omega,by show((64:Nat):Int)*(n:Int)<=_;omega,?_⟩;conv=>whnf
 refine gg (fun k σ=>∃(i:Nat) (f:Nat->Nat->Cell),k=n-i/\i<=n/\Filled n i (fun _=>nq 0) f/\σ=⟨asg [(3,.c (.gs 1 0)),(8,.c (.int .i64 n)),(9,.c (.int .i64 i))],[phB,⟨38,4,n,0,0,f⟩]⟩) n ?_ ?_
 ·have hz:=zeroF_clos (l:=[.bool false,.nil,.bool false,.nil]) rfl;refine⟨_,Weak.cut (tl:=[(3,.c (.gs 1 0)),(8,.c (.int .i64 n)),(9,.c (.int .i64 0))]) (bl':=[phB,⟨38,4,n,0,0,_⟩]) rfl ⟨rfl,rfl,rfl,trivial⟩ rfl ⟨fun h=>absurd h (by decide),fun _ i j _ hj=>yv (hz i j hj),trivial⟩ rfl,0,_,rfl,by omega,⟨fun i' j h=>by omega,fun i j _ hj=>hz i j hj⟩,rfl⟩
 ·rintro k σ' ⟨i,f,hk,hi,hf,rfl⟩;conv=>whnf
  refine qg (fun(h:decide ((i:Int)<n)=true)=>?_) fun(h:decide ((i:Int)<n)=false)=>?_
  ·have h:=of_decide_eq_true h;conv=>whnf
   refine⟨_,qof0,?_⟩;conv=>whnf
   refine⟨by omega,by show((i:Nat):Int)<(n:Int);omega,?_⟩;conv=>whnf
   refine⟨qz (by omega) (by omega),?_⟩;conv=>whnf
   have hf':=hf.step (q:=ofR 0) rfl;refine⟨n-(i+1),by omega,_,Weak.cut (tl:=[(3,.c (.gs 1 0)),(8,.c (.int .i64 n)),(9,.c (.int .i64 (i+1:Nat)))]) (bl':=[phB,⟨38,4,n,0,0,_⟩]) rfl ⟨rfl,rfl,rfl,trivial⟩ rfl ⟨fun h=>absurd h (by decide),fun _ i j hi hj=>yv (hf'.clos i j hi hj),trivial⟩ rfl,i+1,_,rfl,by omega,hf',rfl⟩
  ·have h:=of_decide_eq_false h;obtain rfl:i=n:=by omega
   conv=>whnf
   exact(Weak.cut (m0:=1) (tl:=[(0,.c (.gs 1 0))]) (bl':=[phB,⟨38,4,i,0,0,f⟩]) rfl ⟨rfl,trivial⟩ rfl ⟨fun h=>absurd h (by decide),fun _ i j hi hj=>yv (hf.clos i j hi hj),trivial⟩ rfl).trans (Weak.alike (bl':=[phB,wG i fun _=>0]) ⟨Blk.alike.refl _,⟨rfl,fun i' j hi hj=>hf.done i' j hi hj⟩,trivial⟩)
def wF (X : Nat → Rat) (G : Nat → Nat → Rat) : Nat → Nat → Rat
 | 0,_=>0
 | i+1,j=>wF X G i j+X i*G i j
theorem times_ok {n m : Nat} {X : Nat → Rat} {G : Nat → Nat → Rat} (hn : n ≤ 1048576) (hm : m ≤ 1048576) (hX : ∀ i, i < n → qlen (X i) ≤ QS) (hG : ∀ i j, i < n → j < m → qlen (G i j) ≤ QS) (hS : ∀ i j, i < n → j < m → qlen (wF X G i j) ≤ QS) :
  FnOK Tryz.prog true 120 [.c (jw n X),.c (.row 1 n fun i _=>jw m (G i)),.c (.int .i64 m)] (.c (jw m (wF X G n))):=by
 have hQ:=QS_lim;refine qV (E:=E1) qQ Tryz.func120 rfl mixed (by kernel_rfl) (by kernel_rfl) ?_;conv=>whnf
 refine .inl ⟨[],true,?_⟩;conv=>whnf
 refine⟨0,phB,[.c (.int .i64 m)],_,_,_,zeros_m hm,rfl,.inr (Nat.le_refl 2),fun h=>absurd h (by decide),fun h=>absurd h (by decide),fun F hF=>?_,rfl,rfl,?_⟩
 ·simp at hF;subst hF;exact VQ _ _
 conv=>whnf
 refine gg (fun k σ=>∃ i:Nat,k=n-i/\i<=n/\σ=⟨asg [(0,.c (jw n X)),(1,.c (.row 1 n fun i _=>jw m (G i))),(7,.c (.gs 1 0)),(12,.c (.int .i64 n)),(13,.c (.int .i64 i))],[phB,wG m (wF X G i)]⟩) n ?_ ?_
 ·refine⟨_,Weak.cut (tl:=[(0,.c (jw n X)),(1,.c (.row 1 n fun i _=>jw m (G i))),(7,.c (.gs 1 0)),(12,.c (.int .i64 n)),(13,.c (.int .i64 0))]) (bl':=[phB,wG m (wF X G 0)]) rfl ⟨rfl,rfl,rfl,rfl,rfl,trivial⟩ rfl ⟨fun h=>absurd h (by decide),fun _ i j _ hj=>VJ _ _ _ i j hj,trivial⟩ rfl,0,rfl,by omega,rfl⟩
 ·rintro k σ' ⟨i,hk,hi,rfl⟩;conv=>whnf
  refine qg (fun(h:decide ((i:Int)<n)=true)=>?_) fun(h:decide ((i:Int)<n)=false)=>?_
  ·have h:=of_decide_eq_true h;have hin:i<n:=by omega
   conv=>whnf
   refine⟨by omega,by show((i:Nat):Int)<(n:Int);omega,?_⟩;conv=>whnf
   refine⟨_,nonzero_ok (q:=ofR (X i)) (zX (hX i hin)) (by omega),?_⟩;conv=>whnf
   refine qg (fun(h2:decide ((ofR (X i)).val≠0)=true)=>?_) fun(h2:decide ((ofR (X i)).val≠0)=false)=>?_
   ·conv=>whnf
    refine⟨by omega,by show((i:Nat):Int)<(n:Int);omega,?_⟩;conv=>whnf
    refine⟨by omega,by show((i:Nat):Int)<(n:Int);omega,?_⟩;conv=>whnf
    refine⟨1,wG m (wF X G i),[.c (.gs 0 0),.c (jw m (G i)),.g (nq (X i)),.c (.int .i64 0)],.c .any,_,combine_m hm (hS i · hin) (hG i · hin) (hX i hin),rfl,rfl,VQ _ _,VQ _ _,rfl,rfl,rfl,⟨_,List.Mem.head _,rfl⟩,rfl,rfl,?_⟩;conv=>whnf
    refine⟨qz (by omega) (by omega),?_⟩;conv=>whnf
    refine⟨n-(i+1),by omega,_,Weak.cut (tl:=[(0,.c (jw n X)),(1,.c (.row 1 n fun i _=>jw m (G i))),(7,.c (.gs 1 0)),(12,.c (.int .i64 n)),(13,.c (.int .i64 (i+1:Nat)))]) (bl':=[phB,wG m (wF X G (i+1))]) rfl ⟨rfl,rfl,rfl,rfl,rfl,trivial⟩ rfl ⟨fun h=>absurd h (by decide),fun _ i j _ hj=>VJ _ _ _ i j hj,trivial⟩ rfl,i+1,rfl,by omega,rfl⟩
   ·have h2:X i=0:=by have:=of_decide_eq_false h2;rw[qP]at this;exact Decidable.not_not.1 this
    conv=>whnf
    refine⟨qz (by omega) (by omega),?_⟩;conv=>whnf
    refine⟨n-(i+1),by omega,_,(Weak.cut (tl:=[(0,.c (jw n X)),(1,.c (.row 1 n fun i _=>jw m (G i))),(7,.c (.gs 1 0)),(12,.c (.int .i64 n)),(13,.c (.int .i64 (i+1:Nat)))]) (bl':=[phB,wG m (wF X G i)]) rfl ⟨rfl,rfl,rfl,rfl,rfl,trivial⟩ rfl ⟨fun h=>absurd h (by decide),fun _ i j _ hj=>VJ _ _ _ i j hj,trivial⟩ rfl).trans (Weak.alike (bl':=[phB,wG m (wF X G (i+1))]) ⟨Blk.alike.refl _,mid_alike fun j _=>?_,trivial⟩),i+1,rfl,by omega,rfl⟩;show wF X G i j+X i*G i j=wF X G i j;rw[h2,Rat.zero_mul,Rat.add_zero]
  ·have h:=of_decide_eq_false h;obtain rfl:i=n:=by omega
   conv=>whnf
   refine⟨fun i' j _ hj=>yj _ _ hj,?_⟩;conv=>whnf
   exact⟨rfl,Sub.refl _⟩
end Go.Proofs.YtkmbnldginonbaaGreat
/- Matrices: rows put one behind the other. -/
namespace Go.Proofs.YtkmbnldginonbaaGreat
open Go.RowKit
def flat (m:Nat) (G:Nat->Nat->Rat) (x:Nat):Rat:=G (x / m) (x%m)
def qmat (n m:Nat) (G:Nat->Nat->Rat):V := .g [.int .i64 n,.int .i64 m,jw (n*m) (flat m G)]
def V2 (u n:Nat) (A:Nat->Rat):Blk:=⟨38,4,n,u,0,fun i j=>(nq (A i)).getD j .any⟩
theorem rr_one (bl:List Blk) (q:RawR) (j:Nat) (h:j<4):St.one bl ((rr q).getD j .any)=true:=by
 match j,h with
 | 0,_=>rfl
 | 1,_=>rfl
 | 2,_=>rfl
 | 3,_=>rfl
theorem rr_noU (q:RawR) (j:Nat) (h:j<4):((rr q).getD j .any).noU=true:=by
 match j,h with
 | 0,_=>rfl
 | 1,_=>rfl
 | 2,_=>rfl
 | 3,_=>rfl
theorem flat_app {i m u:Nat} {G:Nat->Nat->Rat}:Blk.alike ⟨38,4,i*m+m,u,0,zB (i*m) (V2 u (i*m) (flat m G)).f fun a b=>(nq (G i a)).getD b .any⟩ (V2 u ((i+1)*m) (flat m G)):=by
 have e:i*m+m=(i+1)*m:=by rw[Nat.succ_mul]
 refine⟨by unfold V2;rw[e],fun x j hx hj=>?_⟩;have hx:x<i*m+m:=hx;show zB (i*m) (V2 u (i*m) (flat m G)).f (fun a b=>(nq (G i a)).getD b .any) x j=(nq (flat m G x)).getD j .any;unfold zB;by_cases h:x<i*m
 ·rw[if_pos h];rfl
 ·rw[if_neg h];obtain⟨d,rfl⟩:=Nat.exists_eq_add_of_le (show i*m<=x by omega);have hm:0<m:=by omega
  have q1:(i*m+d) / m=i:=by rw[Nat.mul_comm,Nat.mul_add_div hm,Nat.div_eq_of_lt (by omega)];rfl
  have q2:(i*m+d)%m=d:=by rw[Nat.mul_comm,Nat.mul_add_mod,Nat.mod_eq_of_lt (by omega)]
  unfold flat
  rw[q1,q2,Nat.add_sub_cancel_left]
theorem store_ok {n m:Nat} {G:Nat->Nat->Rat} (hn:n<=1024) (hm:m<=1024):FnOK Tryz.prog true 108 [.c (.int .i64 m),.c (.row 1 n fun i _=>jw m (G i))] (qmat n m G):=by
 refine qV (E:=E1) qQ Tryz.func108 rfl mixed (by kernel_rfl) (by kernel_rfl) ?_;conv=>whnf
 refine gg (fun k σ=>∃ i:Nat,k=n-i/\i<=n/\σ=⟨asg [(4,.c (.p 0 0 3 0 0)),(5,.c (.p 1 0 3 0 0)),(12,.c (.row 1 n fun i _=>jw m (G i))),(13,.c (.int .i64 n)),(14,.c (.int .i64 i))],[⟨24,3,1,0,0,qk [.int .i64 0,.int .i64 0,.nil]⟩,⟨24,3,1,0,0,qk [.int .i64 n,.int .i64 m,.gs 2 0]⟩,V2 0 (i*m) (flat m G)]⟩) n ?_ ?_
 ·refine⟨_,(Weak.cut (tl:=[(4,.c (.p 0 0 3 0 0)),(5,.c (.p 1 0 3 0 0)),(12,.c (.row 1 n fun i _=>jw m (G i))),(13,.c (.int .i64 n)),(14,.c (.int .i64 0))]) (bl':=[⟨24,3,1,0,0,qk [.int .i64 0,.int .i64 0,.nil]⟩,⟨24,3,1,0,0,zY (qk [.int .i64 0,.int .i64 0,.nil]) 0 0 [.int .i64 n,.int .i64 m,.nil]⟩]) rfl ⟨rfl,rfl,rfl,rfl,rfl,trivial⟩ rfl ⟨fun _ i j _ hj=>?_,fun _ i j (hi:i<1) hj=>?_,trivial⟩ rfl).trans ((Weak.nil (tm:=asg [(4,.c (.p 0 0 3 0 0)),(5,.c (.p 1 0 3 0 0)),(12,.c (.row 1 n fun i _=>jw m (G i))),(13,.c (.int .i64 n)),(14,.c (.int .i64 0))]) (bl:=[⟨24,3,1,0,0,qk [.int .i64 0,.int .i64 0,.nil]⟩,⟨24,3,1,0,0,zY (qk [.int .i64 0,.int .i64 0,.nil]) 0 0 [.int .i64 n,.int .i64 m,.nil]⟩]) (tm':=asg [(4,.c (.p 0 0 3 0 0)),(5,.c (.p 1 0 3 0 0)),(12,.c (.row 1 n fun i _=>jw m (G i))),(13,.c (.int .i64 n)),(14,.c (.int .i64 0))]) (bl':=[⟨24,3,1,0,0,qk [.int .i64 0,.int .i64 0,.nil]⟩,⟨24,3,1,0,0,qk [.int .i64 n,.int .i64 m,.gs 2 0]⟩]) 38 4 ⟨Blk.nilLike.refl _ _,⟨rfl,fun h=>absurd rfl h,fun i j hi hj=>?_⟩,trivial⟩ fun t => .inl rfl).trans (Weak.alike (bl':=[_,_,V2 0 (0*m) (flat m G)]) ⟨Blk.alike.refl _,Blk.alike.refl _,⟨by unfold V2;rw[Nat.zero_mul],fun i j hi hj=>?_⟩,trivial⟩)),0,rfl,by omega,rfl⟩
  ·match j,hj with
   | 0,_=>rfl
   | 1,_=>rfl
   | 2,_=>rfl
  ·obtain rfl:i=0:=by omega
   match j,hj with
   | 0,_=>rfl
   | 1,_=>rfl
   | 2,_=>rfl
  ·obtain rfl:i=0:=by
    have hi:i<1:=hi;omega
   match j,hj with
   | 0,_=>exact .inl rfl
   | 1,_=>exact .inl rfl
   | 2,_=>exact .inr ⟨rfl,rfl⟩
  ·have hi:i<0:=hi;omega
 ·rintro k σ' ⟨i,hk,hi,rfl⟩;conv=>whnf
  refine qg (fun(h:decide ((i:Int)<n)=true)=>?_) fun(h:decide ((i:Int)<n)=false)=>?_
  ·have h:=of_decide_eq_true h;have hin:i<n:=by omega
   have hle:i*m+m<=1024*1024:=by
    have:=Nat.mul_le_mul (show i+1<=1024 by omega) hm;rw[Nat.succ_mul]at this;omega
   conv=>whnf
   refine⟨by omega,by show((i:Nat):Int)<(n:Int);omega,?_⟩;conv=>whnf
   refine⟨by show i*m+m<=16777216;omega,fun a b _ hb=>⟨rr_one _ _ _ hb,fun _=>rr_noU _ _ hb⟩,?_⟩;conv=>whnf
   refine⟨qz (by omega) (by omega),?_⟩;conv=>whnf
   have hac:∀ a b,b<4->(zB (i*m) (V2 0 (i*m) (flat m G)).f (fun a b=>(nq (G i a)).getD b .any) a b).clos=true:=fun a b hb=>by
    unfold zB;split
    ·exact yj _ _ hb
    ·exact yj _ _ hb
   refine⟨n-(i+1),by omega,_,(Weak.cut (tl:=[(4,.c (.p 0 0 3 0 0)),(5,.c (.p 1 0 3 0 0)),(12,.c (.row 1 n fun i _=>jw m (G i))),(13,.c (.int .i64 n)),(14,.c (.int .i64 ((i+1:Nat):Int)))]) (bl':=[⟨24,3,1,0,0,qk [.int .i64 0,.int .i64 0,.nil]⟩,⟨24,3,1,0,0,zY (qk [.int .i64 n,.int .i64 m,.gs 2 0]) 0 2 [.gs 2 1]⟩,⟨38,4,i*m+m,1,0,zB (i*m) (V2 0 (i*m) (flat m G)).f fun a b=>(nq (G i a)).getD b .any⟩]) rfl ⟨rfl,rfl,rfl,rfl,rfl,trivial⟩ rfl ⟨fun _ i j _ hj=>?_,fun _ i j (hi:i<1) hj=>?_,fun _ i j _ hj=>yv (hac i j hj),trivial⟩ rfl).trans ((Weak.reset (m0:=0) 2 (B:=⟨38,4,i*m+m,1,0,zB (i*m) (V2 0 (i*m) (flat m G)).f fun a b=>(nq (G i a)).getD b .any⟩) rfl (by show 0<=1;omega) rfl).trans ((Weak.cut (tl:=[(4,.c (.p 0 0 3 0 0)),(5,.c (.p 1 0 3 0 0)),(12,.c (.row 1 n fun i _=>jw m (G i))),(13,.c (.int .i64 n)),(14,.c (.int .i64 ((i+1:Nat):Int)))]) (bl':=[⟨24,3,1,0,0,fun x y=>wb 2 1 (qk [.int .i64 0,.int .i64 0,.nil] x y)⟩,⟨24,3,1,0,0,fun x y=>wb 2 1 (zY (qk [.int .i64 n,.int .i64 m,.gs 2 0]) 0 2 [.gs 2 1] x y)⟩,⟨38,4,i*m+m,0,0,fun x y=>wb 2 1 ((zB (i*m) (V2 0 (i*m) (flat m G)).f (fun a b=>(nq (G i a)).getD b .any)) x y)⟩]) rfl ⟨rfl,rfl,rfl,rfl,rfl,trivial⟩ rfl ⟨fun _ i j _ hj=>?_,fun _ i j (hi:i<1) hj=>?_,fun _ i j _ hj=>?_,trivial⟩ rfl).trans (Weak.alike (bl':=[⟨24,3,1,0,0,qk [.int .i64 0,.int .i64 0,.nil]⟩,⟨24,3,1,0,0,qk [.int .i64 n,.int .i64 m,.gs 2 0]⟩,V2 0 ((i+1)*m) (flat m G)]) ⟨⟨rfl,fun x y _ hy=>?_⟩,⟨rfl,fun x y (hx:x<1) hy=>?_⟩,⟨flat_app.1,fun x y hx hy=>?_⟩,trivial⟩))),i+1,rfl,by omega,rfl⟩
   ·match j,hj with
    | 0,_=>rfl
    | 1,_=>rfl
    | 2,_=>rfl
   ·obtain rfl:i=0:=by omega
    match j,hj with
    | 0,_=>rfl
    | 1,_=>rfl
    | 2,_=>rfl
   ·match j,hj with
    | 0,_=>rfl
    | 1,_=>rfl
    | 2,_=>rfl
   ·obtain rfl:i=0:=by omega
    match j,hj with
    | 0,_=>rfl
    | 1,_=>rfl
    | 2,_=>rfl
   ·exact yv (show(wb 2 1 _).clos=true by rw[resetC_clos (hac i j hj)];exact hac i j hj)
   ·match y,hy with
    | 0,_=>rfl
    | 1,_=>rfl
    | 2,_=>rfl
   ·obtain rfl:x=0:=by omega
    match y,hy with
    | 0,_=>rfl
    | 1,_=>rfl
    | 2,_=>rfl
   ·exact(resetC_clos (hac x y hy)).trans ((flat_app (u:=0)).2 x y hx hy)
  ·have h:=of_decide_eq_false h;obtain rfl:i=n:=by omega
   conv=>whnf
   refine⟨fun _ _ _ hb=>yj _ _ hb,?_⟩;conv=>whnf
   exact⟨rfl,Sub.refl _⟩
theorem fits_ok (n:Int):FnOK Tryz.prog true 107 [.c (.int .i64 n)] (.c (.bool (decide (0<=n/\n<=1024)))):=by
 refine qV (E:=E1) qQ Tryz.func107 rfl mixed (by kernel_rfl) (by kernel_rfl) ?_;conv=>whnf
 refine qg (fun(h:decide (0<=n)=true)=>?_) fun(h:decide (0<=n)=false)=>?_
 ·have h:=of_decide_eq_true h;conv=>whnf
  refine⟨rfl,Sub.bool ?_⟩;show decide (n<=1024)=decide (0<=n/\n<=1024);simp[h]
 ·have h:=of_decide_eq_false h;conv=>whnf
  refine⟨rfl,Sub.bool ?_⟩;show false=decide (0<=n/\n<=1024);simp[h]
theorem valid_ok {r c:Int} {len:Nat} {f:Nat->Nat->Cell}:FnOK Tryz.prog true 72 [.g [.int .i64 r,.int .i64 c,.row 4 len f]] (.c (.bool (decide ((0<=r/\r<=1024)/\(0<=c/\c<=1024)/\(len:Int)=r*c)))):=by
 refine qV (E:=E1) qQ Tryz.func72 rfl mixed (by kernel_rfl) (by kernel_rfl) ?_;conv=>whnf
 refine⟨_,fits_ok r,?_⟩;conv=>whnf
 refine qg (fun(h:decide (0<=r/\r<=1024)=true)=>?_) fun(h:decide (0<=r/\r<=1024)=false)=>?_
 ·have h:=of_decide_eq_true h;conv=>whnf
  refine⟨_,fits_ok c,?_⟩;conv=>whnf
  refine qg (fun(h2:decide (0<=c/\c<=1024)=true)=>?_) fun(h2:decide (0<=c/\c<=1024)=false)=>?_
  ·have h2:=of_decide_eq_true h2;have hb:r*c<=1024*1024:=Int.mul_le_mul h.2 h2.2 h2.1 (by omega);have h0:0<=r*c:=Int.mul_nonneg h.1 h2.1;conv=>whnf
   refine⟨qz (by omega) (by omega),?_⟩;conv=>whnf
   refine⟨rfl,Sub.bool ?_⟩;show decide ((len:Int)=r*c)=_;simp[h,h2]
  ·have h2:=of_decide_eq_false h2;conv=>whnf
   refine⟨rfl,Sub.bool ?_⟩;show false=_;simp[h2]
 ·have h:=of_decide_eq_false h;conv=>whnf
  refine⟨rfl,Sub.bool ?_⟩;show false=_;simp[h]
end Go.Proofs.YtkmbnldginonbaaGreat
/- Package charpoly: the first errors. -/
namespace Go.Proofs.YtkmbnldginonbaaGreat
open Go.RowKit
def jW (r c len:Int):Int:=if((0<=r/\r<=1024)/\(0<=c/\c<=1024)/\len=r*c)/\r=c then(if r > 64 then 7 else 0)else 4
theorem check_ok {r c:Int} {len:Nat} {f:Nat->Nat->Cell}:FnOK Tryz.prog true 38 [.g [.int .i64 r,.int .i64 c,.row 4 len f]] (.c (.int .i64 (jW r c len))):=by
 refine qV (E:=E1) qQ Tryz.func38 rfl mixed (by kernel_rfl) (by kernel_rfl) ?_;conv=>whnf
 refine⟨_,valid_ok (r:=r) (c:=c) (len:=len) (f:=f),?_⟩;conv=>whnf
 refine qg (fun h=>?_) fun h=>?_
 ·have h:(!decide ((0<=r/\r<=1024)/\(0<=c/\c<=1024)/\(len:Int)=r*c))=false:=gwf h;have hv:(0<=r/\r<=1024)/\(0<=c/\c<=1024)/\(len:Int)=r*c:=by simpa using h
  conv=>whnf
  refine qg (fun(h2:(!decide (r=c))=true)=>?_) fun(h2:(!decide (r=c))=false)=>?_
  ·have h2:r≠c:=by simpa using h2
   conv=>whnf
   refine⟨rfl,Sub.int ?_⟩;unfold jW;rw[if_neg (fun h=>h2 h.2)]
  ·have h2:r=c:=by simpa using h2
   conv=>whnf
   refine qg (fun(h3:decide (r > 64)=true)=>?_) fun(h3:decide (r > 64)=false)=>?_
   ·have h3:=of_decide_eq_true h3;conv=>whnf
    refine⟨rfl,Sub.int ?_⟩;unfold jW;rw[if_pos ⟨hv,h2⟩,if_pos h3]
   ·have h3:=of_decide_eq_false h3;conv=>whnf
    refine⟨rfl,Sub.int ?_⟩;unfold jW;rw[if_pos ⟨hv,h2⟩,if_neg h3]
 ·have h:(!decide ((0<=r/\r<=1024)/\(0<=c/\c<=1024)/\(len:Int)=r*c))=true:=gwf' h;have hv:¬((0<=r/\r<=1024)/\(0<=c/\c<=1024)/\(len:Int)=r*c):=by
   intro hh;rw[decide_eq_true hh]at h;cases h
  conv=>whnf
  refine⟨rfl,Sub.int ?_⟩;unfold jW;rw[if_neg (fun h=>hv h.1)]
end Go.Proofs.YtkmbnldginonbaaGreat
/- Rows of rows: blank. -/
namespace Go.Proofs.YtkmbnldginonbaaGreat
open Go.RowKit
def WQ (i:Nat) (R:Nat->Cell) (x _y:Nat):Cell:=if x<i then R x else .nil
def gblk (n i:Nat) (R:Nat->Cell):Blk:=⟨22,1,n,0,0,WQ i R⟩
theorem gridF_clos {i:Nat} {R:Nat->Cell} (hR:∀ x,(R x).clos=true) (x y:Nat):(WQ i R x y).clos=true:=by
 unfold WQ;split
 ·exact hR x
 ·rfl
theorem gblk_clos (n m i x y:Nat):((gblk n i fun _=>jw m fun _=>0).f x y).clos=true:=gridF_clos (i:=i) (R:=fun _=>jw m fun _=>0) (fun _=>rfl) x y
theorem blank_ok {n m:Nat} (hn:n<=1048576) (hm:m<=1048576):FnOK Tryz.prog true 109 [.c (.int .i64 n),.c (.int .i64 m)] (.c (.row 1 n fun _ _=>jw m fun _=>0)):=by
 refine qV (E:=E1) qQ Tryz.func109 rfl mixed (by kernel_rfl) (by kernel_rfl) ?_;conv=>whnf
 refine⟨by omega,by omega,by omega,by show((24:Nat):Int)*(n:Int)<=_;omega,?_⟩;conv=>whnf
 refine gg (fun k σ=>∃ i:Nat,k=n-i/\i<=n/\σ=⟨asg [(1,.c (.int .i64 m)),(5,.c (.gs 0 0)),(10,.c (.int .i64 n)),(11,.c (.int .i64 i))],[gblk n i fun _=>jw m fun _=>0]⟩) n ?_ ?_
 ·refine⟨_,(Weak.cut (tl:=[(1,.c (.int .i64 m)),(5,.c (.gs 0 0)),(10,.c (.int .i64 n)),(11,.c (.int .i64 0))]) (bl':=[⟨22,1,n,0,0,zeroF [.nil]⟩]) rfl ⟨rfl,rfl,rfl,rfl,trivial⟩ rfl ⟨fun _ i j _ hj=>?_,trivial⟩ rfl).trans (Weak.alike (bl':=[gblk n 0 fun _=>jw m fun _=>0]) ⟨⟨rfl,fun i j _ hj=>?_⟩,trivial⟩),0,rfl,by omega,rfl⟩
  ·match j,hj with
   | 0,_=>rfl
  ·match j,hj with
   | 0,_=>rfl
 ·rintro k σ' ⟨i,hk,hi,rfl⟩;conv=>whnf
  refine qg (fun(h:decide ((i:Int)<n)=true)=>?_) fun(h:decide ((i:Int)<n)=false)=>?_
  ·have h:=of_decide_eq_true h;conv=>whnf
   refine .inl ⟨[],true,?_⟩;conv=>whnf
   refine⟨1,phB,[.c (.int .i64 m)],_,_,_,zeros_m hm,rfl,.inr (Nat.le_refl 2),fun h=>absurd h (by decide),fun h=>absurd h (by decide),fun F hF=>?_,rfl,rfl,?_⟩
   ·simp at hF;subst hF;exact VQ _ _
   conv=>whnf
   refine⟨by omega,by show((i:Nat):Int)<(n:Int);omega,?_⟩;conv=>whnf
   refine⟨qz (by omega) (by omega),?_⟩;conv=>whnf
   have hup:∀ x y,(zY (gblk n i fun _=>jw m fun _=>0).f i 0 [.gs 2 0] x y).lt 3=true:=fun x y=>by
    unfold zY;split
    ·rename_i h';obtain rfl:y=0:=by have:=h'.2.2;simp at this;omega
     rfl
    ·exact yv (gblk_clos _ _ _ x y)
   refine⟨n-(i+1),by omega,_,(Weak.cut (tl:=[(1,.c (.int .i64 m)),(5,.c (.gs 0 0)),(10,.c (.int .i64 n)),(11,.c (.int .i64 ((i+1:Nat):Int)))]) (bl':=[⟨22,1,n,0,0,zY (gblk n i fun _=>jw m fun _=>0).f i 0 [.gs 2 0]⟩,phB,wG m fun _=>0]) rfl ⟨rfl,rfl,rfl,rfl,trivial⟩ rfl ⟨fun _ x y _ _=>hup x y,fun h=>absurd h (by decide),fun _ i j _ hj=>VJ _ _ _ i j hj,trivial⟩ rfl).trans ((Weak.freeze 2 (B:=wG m fun _=>0) rfl rfl fun x y _ hy=>yj _ _ hy).trans ((Weak.close (tm:=asg [(1,.c (.int .i64 m)),(5,.c (.gs 0 0)),(10,.c (.int .i64 n)),(11,.c (.int .i64 ((i+1:Nat):Int)))]) (bl:=[⟨22,1,n,0,0,zY (gblk n i fun _=>jw m fun _=>0).f i 0 [.gs 2 0]⟩,phB,{ (wG m fun _=>0)with st:=1 }]) (tm':=asg [(1,.c (.int .i64 m)),(5,.c (.gs 0 0)),(10,.c (.int .i64 n)),(11,.c (.int .i64 ((i+1:Nat):Int)))]) (bl':=[gblk n (i+1) fun _=>jw m fun _=>0,phB,{ (wG m fun _=>0)with st:=1 }]) ⟨⟨rfl,fun h=>absurd rfl h,fun x y hx hy=>?_⟩,Blk.closed.refl _ _,Blk.closed.refl _ _,trivial⟩ fun t => .inl rfl).trans (Weak.cut (tl:=[(1,.c (.int .i64 m)),(5,.c (.gs 0 0)),(10,.c (.int .i64 n)),(11,.c (.int .i64 ((i+1:Nat):Int)))]) (bl':=[gblk n (i+1) fun _=>jw m fun _=>0]) rfl ⟨rfl,rfl,rfl,rfl,trivial⟩ rfl ⟨fun _ x y _ _=>yv (gblk_clos _ _ _ x y),trivial⟩ rfl))),i+1,rfl,by omega,rfl⟩;have hy:y<1:=hy;obtain rfl:y=0:=by omega
   by_cases e:x=i
   ·subst e;right;show WQ (x+1) (fun _=>jw m fun _=>0) x 0=St.closeC [⟨22,1,n,0,0,zY (gblk n x fun _=>jw m fun _=>0).f x 0 [.gs 2 0]⟩,phB,{ (wG m fun _=>0)with st:=1 }] (zY (gblk n x fun _=>jw m fun _=>0).f x 0 [.gs 2 0] x 0);have e1:zY (gblk n x fun _=>jw m fun _=>0).f x 0 [.gs 2 0] x 0 = .gs 2 0:=by unfold zY;rw[if_pos ⟨rfl,Nat.le_refl _,by simp⟩];rfl
    rw[e1];unfold WQ;rw[if_pos (by omega)];rfl
   ·left;show WQ (i+1) (fun _=>jw m fun _=>0) x 0=zY (gblk n i fun _=>jw m fun _=>0).f i 0 [.gs 2 0] x 0;unfold zY;rw[if_neg (fun h=>e h.1)];show WQ (i+1) (fun _=>jw m fun _=>0) x 0=WQ i (fun _=>jw m fun _=>0) x 0;unfold WQ;by_cases e2:x<i
    ·rw[if_pos e2,if_pos (by omega)]
    ·rw[if_neg e2,if_neg (by omega)]
  ·have h:=of_decide_eq_false h;obtain rfl:i=n:=by omega
   conv=>whnf
   refine⟨fun x y _ _=>gblk_clos _ _ _ x y,?_⟩;conv=>whnf
   refine⟨rfl,Sub.row rfl fun x y hx _=>?_⟩;show WQ i (fun _=>jw m fun _=>0) x y=jw m fun _=>0;have hx:x<i:=hx;unfold WQ;rw[if_pos hx]
end Go.Proofs.YtkmbnldginonbaaGreat
/- Package matrix: New. -/
namespace Go.Proofs.YtkmbnldginonbaaGreat
open Go.RowKit
theorem new_ok {n m:Nat} (hn:n<=1024) (hm:m<=1024):FnOK Tryz.prog true 58 [.c (.int .i64 n),.c (.int .i64 m)] (.t2 (qmat n m fun _ _=>0) (.c (.int .i64 0))):=by
 refine qV (E:=E1) qQ Tryz.func58 rfl mixed (by kernel_rfl) (by kernel_rfl) ?_;conv=>whnf
 refine⟨_,fits_ok n,?_⟩;conv=>whnf
 refine qg (fun h=>?_) fun h=>?_
 ·conv=>whnf
  refine⟨_,fits_ok m,?_⟩;conv=>whnf
  refine qg (fun(h:(!decide ((0:Int)<=m/\(m:Int)<=1024))=true)=>?_) fun h=>?_
  ·exact absurd h (by rw[decide_eq_true (⟨by omega,by omega⟩:(0:Int)<=m/\(m:Int)<=1024)];simp)
  conv=>whnf
  refine⟨_,blank_ok (n:=n) (m:=m) (by omega) (by omega),?_⟩;conv=>whnf
  refine⟨_,store_ok (n:=n) (m:=m) (G:=fun _ _=>0) hn hm,?_⟩;conv=>whnf
  exact⟨rfl,Sub.refl _⟩
 ·have h:(!decide ((0:Int)<=n/\(n:Int)<=1024))=true:=gwf' h;exact absurd h (by rw[decide_eq_true (⟨by omega,by omega⟩:(0:Int)<=n/\(n:Int)<=1024)];simp)
end Go.Proofs.YtkmbnldginonbaaGreat
