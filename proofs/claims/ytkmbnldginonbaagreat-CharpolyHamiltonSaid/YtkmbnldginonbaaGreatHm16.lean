/- matrix.Row; charpoly.MinPoly: its rounds. -/
import Derived.Test.YtkmbnldginonbaaGreatHm15
import Derived.Test.YtkmbnldginonbaaGreatHm10
import Derived.Test.YtkmbnldginonbaaGreatHm8
import Derived.Test.YtkmbnldginonbaaGreatHm12
import Derived.Test.YtkmbnldginonbaaGreatRows
import Derived.ProofKit
import Derived.OpenShut
import Derived.Carry
import Derived.ChangeSame
set_option maxHeartbeats 16000000
namespace Go.Proofs.YtkmbnldginonbaaGreat
open Go.RowKit
namespace Mx
open Rf
theorem row_n {n i:Nat} {G:Nat->Nat->Rat} (hn:n≤64) (hi:i<n) (hq:∀ j,j<n->qlen (G i j)≤KD):FnOK Tryz.prog true 65 [.g (matL n n G),.c (.int .i64 (i:Nat))] (.t2 (.c (nql n (G i))) (.c (.int .i64 0))):=by
 have b1:i*n≤64*64:=Nat.mul_le_mul (by omega) hn
 have b2:(i+1)*n≤65*64:=Nat.mul_le_mul (by omega) hn
 have m3:(i+1)*n=i*n+n:=Nat.succ_mul i n
 have m4:i*n+n≤n*n:=by rw[← m3];exact Nat.mul_le_mul_right n hi
 have m1:((i*n:Nat):Int)=(i:Int)*(n:Int):=Int.natCast_mul i n
 have m2:(((i+1)*n:Nat):Int)=((i:Int)+1)*(n:Int):=by rw[Int.natCast_mul];rfl
 have l1:=loadR_ok (n:=1) (m:=n) (q:=fun k=>ofR (G i k)) (G:=fun _ j=>G i j) (by omega) hn (fun k hk=>ofR_fit (hq k (by omega))) fun a j ha hj=>by
  rw[ofR_val,show a*n+j=j by rw[show a=0 by omega];omega]
 have l2:FnOK Tryz.prog true 111 [.g [.int .i64 1,.int .i64 n,.row 4 (((i:Int)+1)*n-(i:Int)*n).toNat fun a b=>qlF (fun k=>ofR (G (k / n) (k%n))) (((i:Int)*n).toNat+a) b]] (.c (rowsC 1 n fun _ j=>G i j)):=by
  refine arg_ok l1 fun D' w vs h=>?_
  match vs,h with
  | [v],⟨⟨us,e,h1⟩,_⟩ =>
   refine⟨⟨us,e,?_⟩,trivial⟩
   match us.toList,h1 with
   | [a,b,c],⟨g1,g2,g3,_⟩ =>
    refine⟨g1,g2,subRowG (by rw[← m1,← m2,m3];omega) (fun x y hx _=>?_) D' w c g3,trivial⟩
    rw[Nat.one_mul]at hx
    rw[← m1,Int.toNat_natCast]
    show qlF (fun k=>ofR (G (k / n) (k%n))) (i*n+x) y=qlF (fun k=>ofR (G i k)) x y
    have q1:(i*n+x) / n=i:=by rw[Nat.mul_comm,Nat.mul_add_div (by omega),Nat.div_eq_of_lt hx,Nat.add_zero]
    have q2:(i*n+x)%n=x:=by rw[Nat.mul_comm,Nat.mul_add_mod,Nat.mod_eq_of_lt hx]
    exact congrArg (fun z=>(rr z).getD y .any) (show ofR (G ((i*n+x) / n) ((i*n+x)%n))=ofR (G i x)by rw[q1,q2])
 have v1:=valid_yes (n:=n) (m:=n) (q:=fun k=>ofR (G (k / n) (k%n))) (by omega) (by omega)
 refine fn_ok (E:=E1) E1_ok Tryz.func65 rfl mixed (by kernel_rfl) (by kernel_rfl) ?_
 conv=>whnf
 refine⟨_,v1,?_⟩
 conv=>whnf
 refine bneg (show decide ((n:Int)≤(i:Int))=false from decide_eq_false (by omega)) ?_
 conv=>whnf
 refine⟨i64_range (by rw[← m1];omega) (by rw[← m1];omega),?_⟩
 conv=>whnf
 refine⟨i64_range (by omega) (by omega),?_⟩
 conv=>whnf
 refine⟨i64_range (by rw[← m2];omega) (by rw[← m2];omega),?_⟩
 conv=>whnf
 refine⟨by rw[← m1];omega,by rw[← m1,← m2,m3];omega,?_⟩
 conv=>whnf
 refine⟨by rw[← m2,m3];omega,?_⟩
 conv=>whnf
 refine .inr ⟨_,l2,?_⟩
 conv=>whnf
 refine⟨by decide,?_⟩
 conv=>whnf
 refine⟨by decide,?_⟩
 conv=>whnf
 exact⟨rfl,Sub.refl _⟩
structure Mpw (n : Nat) (p : Nat → RawR) (f g : Nat → Pol Rat) (E : Nat → Nat → Nat → Rat) : Prop where
 hn:n≤64
 start:f 0=1
 kat:∀ i,i<n->FnOK Tryz.prog true 27 [.c (nql (f i).len (f i).f),.g (rmat n n p)] (.t2 (.g (matL n n (E i))) (.c (.int .i64 0)))
 krow:∀ i,i<n->FnOK Tryz.prog true 65 [.g (matL n n (E i)),.c (.int .i64 (i:Nat))] (.t2 (.c (nql n (E i i))) (.c (.int .i64 0)))
 kann:∀ i,i<n->FnOK Tryz.prog true 67 [.g (rmat n n p),.c (nql n (E i i))] (.c (nql (g i).len (g i).f))
 kmul:∀ i,i<n->FnOK Tryz.prog true 66 [.c (nql (f i).len (f i).f),.c (nql (g i).len (g i).f)] (.c (nql (f (i+1)).len (f (i+1)).f))
theorem sub_nql {a b:Nat} {f g:Nat->Rat} (h:a=b) (e:∀ i,i<b->f i=g i):Sub (.c (nql a f)) (.c (nql b g)):=subRowG h fun i j hi _=>congrArg (fun z=>(rr (ofR z)).getD j .any) (e i hi)
set_option maxRecDepth 100000 in
theorem min_walk {n:Nat} {p:Nat->RawR} {f g:Nat->Pol Rat} {E:Nat->Nat->Nat->Rat} (h:Mpw n p f g E):FnOK Tryz.prog true 20 [.g (rmat n n p)] (.t2 (.c (nql (f n).len (f n).f)) (.c (.int .i64 0))):=by
 obtain⟨hn,hs,kat,krow,kann,kmul⟩:=h
 have k0:FnOK Tryz.prog true 38 [.g (rmat n n p)] (.c (.int .i64 0)):=by
  have h:=check_ok (r:=n) (c:=n) (len:=n*n) (f:=qlF p)
  rwa [show firstErr (n:Int) n ((n*n:Nat):Int)=0 by
   unfold firstErr
   rw[if_pos ⟨⟨⟨by omega,by omega⟩,⟨by omega,by omega⟩,by rw[Int.natCast_mul]⟩,rfl⟩,if_neg (by omega)]]at h
 have k1:FnOK Tryz.prog true 41 [] (.c (nql (f 0).len (f 0).f)):=one_ok.res (sub_nql (by rw[hs,Pol.len_one]) fun i hi=>by
  rw[hs,Pol.len_one]at hi
  rw[hs,show i=0 by omega]
  rfl)
 clear hs
 obtain⟨N,hN⟩:∃ N:Nat->Nat,∀ i,(f i).len=N i:=⟨_,fun _=>rfl⟩
 obtain⟨F,hF⟩:∃ F:Nat->Nat->Rat,∀ i,(f i).f=F i:=⟨_,fun _=>rfl⟩
 simp only[hN,hF]at kat kmul k1 ⊢
 clear hN hF
 refine fn_okS (E:=E1) E1_ok Tryz.func20 rfl (by kernel_rfl) ?_
 refine swp_seq E1_ok mixed (by kernel_rfl) ?_
 conv=>whnf
 refine⟨gst [(1,.c (.p 0 0 3 0 0))] [⟨24,3,1,boxF (rmat n n p)⟩],Weak.gen [some 0] rfl ⟨Rf.boxK rfl rfl,trivial⟩ ⟨⟨_,rfl,rfl,rfl⟩,trivial⟩,?_⟩
 refine swp_seq E1_ok mixed (by kernel_rfl) ?_
 conv=>whnf
 refine⟨_,k0,?_⟩
 conv=>whnf
 refine⟨gst [(1,.c (.p 0 0 3 0 0))] [⟨24,3,1,boxF (rmat n n p)⟩],Weak.gen [some 0] rfl ⟨Rf.boxK rfl rfl,trivial⟩ ⟨⟨_,rfl,rfl,rfl⟩,trivial⟩,?_⟩
 refine swp_seq E1_ok mixed (by kernel_rfl) ?_
 conv=>whnf
 refine⟨_,k1,?_⟩
 conv=>whnf
 refine⟨gst [(1,.c (.p 0 0 3 0 0)),(5,.c (nql (N 0) (F 0)))] [⟨24,3,1,boxF (rmat n n p)⟩],Weak.gen [some 0] rfl ⟨Rf.boxK rfl rfl,trivial⟩ ⟨⟨_,rfl,rfl,rfl⟩,.inl ⟨_,_,rfl,rfl,fun _ _ _ _=>rfl⟩,trivial⟩,?_⟩
 refine swp_mid (fun _:Unit=>gst [(5,.c (nql (N n) (F n)))] []) (fun _=>True) ?_ fun _ _=>?_
 rotate_left
 ·refine swp_of E1_ok mixed (by kernel_rfl) ?_
  conv=>whnf
  exact⟨rfl,Sub.refl _⟩
 refine swp_seq E1_ok mixed (by kernel_rfl) ?_
 conv=>whnf
 refine⟨(fun i:Nat=>gst [(1,.c (.p 0 0 3 0 0)),(5,.c (nql (N i) (F i))),(18,.c (.int .i64 ((n:Nat):Int))),(19,.c (.int .i64 ((i:Nat):Int)))] [⟨24,3,1,boxF (rmat n n p)⟩]) 0,Weak.gen [some 0] rfl ⟨Rf.boxK rfl rfl,trivial⟩ ⟨⟨_,rfl,rfl,rfl⟩,.inl ⟨_,_,rfl,rfl,fun _ _ _ _=>rfl⟩,⟨_,rfl,rfl⟩,⟨_,rfl,rfl⟩,trivial⟩,?_⟩
 refine swp_block (swp_loop (fun i:Nat=>gst [(1,.c (.p 0 0 3 0 0)),(5,.c (nql (N i) (F i))),(18,.c (.int .i64 ((n:Nat):Int))),(19,.c (.int .i64 ((i:Nat):Int)))] [⟨24,3,1,boxF (rmat n n p)⟩]) (fun i=>n-i) (fun i=>i≤n) 0 (Weak.refl _) (Nat.zero_le n) fun i hi=>?_)
 have hi:i≤n:=hi
 rcases Nat.lt_or_ge i n with hlt | hge
 rotate_left
 ·obtain rfl:i=n:=by omega
  refine swp_seq0 E1_ok mixed (by kernel_rfl) ?_
  conv=>whnf
  refine swp_of E1_ok mixed (by kernel_rfl) ?_
  conv=>whnf
  refine bneg (show decide ((i:Int)<(i:Int))=false from decide_eq_false (by omega)) ?_
  conv=>whnf
  exact⟨(),trivial,Weak.gen [] rfl trivial ⟨.inl ⟨_,_,rfl,rfl,fun _ _ _ _=>rfl⟩,trivial⟩⟩
 have kat:=kat i hlt
 have krow:=krow i hlt
 have kann:=kann i hlt
 have kmul:=kmul i hlt
 refine swp_seq0 E1_ok mixed (by kernel_rfl) ?_
 conv=>whnf
 refine swp_seq E1_ok mixed (by kernel_rfl) ?_
 conv=>whnf
 refine bpos (show decide ((i:Int)<(n:Int))=true from decide_eq_true (by omega)) ?_
 conv=>whnf
 refine⟨gst [(1,.c (.p 0 0 3 0 0)),(5,.c (nql (N i) (F i))),(18,.c (.int .i64 ((n:Nat):Int))),(19,.c (.int .i64 ((i:Nat):Int)))] [⟨24,3,1,boxF (rmat n n p)⟩],Weak.gen [some 0] rfl ⟨Rf.boxK rfl rfl,trivial⟩ ⟨⟨_,rfl,rfl,rfl⟩,.inl ⟨_,_,rfl,rfl,fun _ _ _ _=>rfl⟩,⟨_,rfl,rfl⟩,⟨_,rfl,rfl⟩,trivial⟩,?_⟩
 refine swp_mid (fun _:Unit=>gst [(1,.c (.p 0 0 3 0 0)),(5,.c (nql (N (i+1)) (F (i+1)))),(18,.c (.int .i64 ((n:Nat):Int))),(19,.c (.int .i64 ((i:Nat):Int)))] [⟨24,3,1,boxF (rmat n n p)⟩]) (fun _=>True) ?_ fun _ _=>?_
 rotate_left
 ·refine swp_of E1_ok mixed (by kernel_rfl) ?_
  conv=>whnf
  refine⟨i64_range (by omega) (by omega),?_⟩
  conv=>whnf
  exact⟨i+1,by omega,Weak.gen [some 0] rfl ⟨Rf.boxK rfl rfl,trivial⟩ ⟨⟨_,rfl,rfl,rfl⟩,.inl ⟨_,_,rfl,rfl,fun _ _ _ _=>rfl⟩,⟨_,rfl,rfl⟩,⟨_,rfl,rfl⟩,trivial⟩,hlt⟩
 refine swp_block ?_
 refine swp_of E1_ok mixed (by kernel_rfl) ?_
 conv=>whnf
 refine⟨_,kat,?_⟩
 conv=>whnf
 refine⟨_,krow,?_⟩
 conv=>whnf
 refine⟨_,kann,?_⟩
 conv=>whnf
 refine⟨_,kmul,?_⟩
 conv=>whnf
 exact⟨(),trivial,Weak.gen [some 0] rfl ⟨Rf.boxK rfl rfl,trivial⟩ ⟨⟨_,rfl,rfl,rfl⟩,.inl ⟨_,_,rfl,rfl,fun _ _ _ _=>rfl⟩,⟨_,rfl,rfl⟩,⟨_,rfl,rfl⟩,trivial⟩⟩
end Mx
end Go.Proofs.YtkmbnldginonbaaGreat
/- Sizes of the coefficients of a relation between vectors, by elimination without quotients. Plain: no program. -/
namespace Go.Proofs.YtkmbnldginonbaaGreat
open Crg Pol
namespace Mx
def IntB (M:Nat) (x:Rat):Prop:=∃ k:Int,x=(k:Rat)/\k.natAbs≤M
theorem IntB.mul {M N:Nat} {x y:Rat} (h:IntB M x) (g:IntB N y):IntB (M*N) (x*y):=by
 obtain⟨a,rfl,ha⟩:=h
 obtain⟨b,rfl,hb⟩:=g
 exact⟨a*b,(Rat.intCast_mul a b).symm,by rw[Int.natAbs_mul];exact Nat.mul_le_mul ha hb⟩
theorem IntB.sub {M N:Nat} {x y:Rat} (h:IntB M x) (g:IntB N y):IntB (M+N) (x-y):=by
 obtain⟨a,rfl,ha⟩:=h
 obtain⟨b,rfl,hb⟩:=g
 exact⟨a-b,(Rat.intCast_sub a b).symm,by omega⟩
theorem IntB.mono {M N:Nat} {x:Rat} (h:IntB M x) (hM:M≤N):IntB N x:=by
 obtain⟨a,h,ha⟩:=h
 exact⟨a,h,Nat.le_trans ha hM⟩
def es : Nat → Nat → Nat
 | 0,M=>M
 | k+1,M=>es k (2*(M*M))
theorem es_mono : ∀ (k : Nat) {M N : Nat}, M ≤ N → es k M ≤ es k N
 | 0,_,_,h=>h
 | k+1,_,_,h=>es_mono k (Nat.mul_le_mul_left 2 (Nat.mul_le_mul h h))
theorem es_up (k:Nat) {M:Nat}:es k M≤es (k+1) M:=es_mono k (by
 rcases Nat.eq_zero_or_pos M with e | e
 ·rw[e];exact Nat.le_refl 0
 ·have:=Nat.le_mul_of_pos_left M e
  omega)
theorem es_two : ∀ (k m : Nat), es k (2 ^ m) ≤ 2 ^ (2 ^ k * (m + 1))
 | 0,m=>Nat.pow_le_pow_right (by omega) (by rw[Nat.pow_zero,Nat.one_mul];omega)
 | k+1,m=>by
  show es k (2*(2^m*2^m))≤_
  rw[← Nat.pow_add,Nat.mul_comm 2,← Nat.pow_succ]
  refine Nat.le_trans (es_two k _) (Nat.pow_le_pow_right (by omega) ?_)
  rw[Nat.pow_succ,Nat.mul_assoc]
  exact Nat.mul_le_mul_left _ (by omega)
open Classical in
theorem rel_fits : ∀ (k M N : Nat) (U : Nat → Nat → Rat) (V T : Nat → Rat) (c0 : Rat) (c : Nat → Rat), (∀ t j, t < k → j < N → IntB M (U t j)) → (∀ j, j < N → IntB M (V j)) → (∀ j, j < N → IntB M (T j)) → (∀ j, j < N → T j = c0 * V j + sm (fun t => c t * U t j) k) → (∀ (e0 : Rat) (e : Nat → Rat), (∀ j, j < N → e0 * V j + sm (fun t => e t * U t j) k = 0) → e0 = 0) → ∃ p q : Int, q ≠ 0 ∧ c0 * (q : Rat) = (p : Rat) ∧ p.natAbs ≤ es k M ∧ q.natAbs ≤ es k M
 | 0,M,N,U,V,T,c0,c,_,hV,hT,hr,hi=>by
  by_cases hx:∃ j,j<N/\V j≠0
  ·obtain⟨j,hj,h0⟩:=hx
   obtain⟨q,eq,bq⟩:=hV j hj
   obtain⟨p,ep,bp⟩:=hT j hj
   refine⟨p,q,fun e=>h0 (by rw[eq,e];rfl),?_,bp,bq⟩
   rw[← ep,← eq,hr j hj]
   exact(Rat.add_zero _).symm
  ·exact absurd (hi 1 (fun _=>0) fun j hj=>by
    rw[show V j=0 from Classical.byContradiction fun e=>hx ⟨j,hj,e⟩,Rat.mul_zero]
    exact Rat.add_zero 0) (by decide)
 | k+1,M,N,U,V,T,c0,c,hU,hV,hT,hr,hi=>by
  by_cases hx:∃ j,j<N/\U k j≠0
  ·obtain⟨j0,hj0,h0⟩:=hx
   have step:∀(d0:Rat) (d:Nat->Rat) (j:Nat),d0*(U k j0*V j-V j0*U k j)+sm (fun t=>d t*(U k j0*U t j-U t j0*U k j)) k=U k j0*(d0*V j+sm (fun t=>d t*U t j) k)-U k j*(d0*V j0+sm (fun t=>d t*U t j0) k):=fun d0 d j=>by
    have e1:sm (fun t=>d t*(U k j0*U t j-U t j0*U k j)) k=U k j0*sm (fun t=>d t*U t j) k + -(U k j*sm (fun t=>d t*U t j0) k):=by
     rw[Crg.mul_sm,Crg.mul_sm,← Crg.sm_neg,← Crg.sm_add]
     exact Crg.sm_congr fun t _=>RE.eq [d t,U k j0,U t j,U t j0,U k j] (t0*(t1*t2-t3*t4)) (t1*(t0*t2) + -(t4*(t0*t3))) rfl
    rw[e1]
    exact RE.eq [d0,U k j0,V j,V j0,U k j,sm (fun t=>d t*U t j) k,sm (fun t=>d t*U t j0) k] (t0*(t1*t2-t3*t4)+(t1*t5 + -(t4*t6))) (t1*(t0*t2+t5)-t4*(t0*t3+t6)) rfl
   have hu:∀ {x y:Nat->Rat},(∀ j,j<N->IntB M (x j))->(∀ j,j<N->IntB M (y j))->∀ j,j<N->IntB (2*(M*M)) (U k j0*x j-x j0*U k j):=fun {x y} h1 _ j hj=>((hU k j0 (by omega) hj0).mul (h1 j hj)).sub ((h1 j0 hj0).mul (hU k j (by omega) hj)) |>.mono (by omega)
   refine rel_fits k (2*(M*M)) N (fun t j=>U k j0*U t j-U t j0*U k j) (fun j=>U k j0*V j-V j0*U k j) (fun j=>U k j0*T j-T j0*U k j) c0 c (fun t j ht hj=>hu (y:=T) (fun j hj=>hU t j (by omega) hj) hT j hj) (hu (y:=T) hV hT) (hu (y:=T) hT hT) (fun j hj=>?_) fun e0 e he=>?_
   ·rw[step,hr j hj,hr j0 hj0]
    show U k j0*(c0*V j+(sm (fun t=>c t*U t j) k+c k*U k j))-(c0*V j0+(sm (fun t=>c t*U t j0) k+c k*U k j0))*U k j=_
    exact RE.eq [U k j0,c0*V j,sm (fun t=>c t*U t j) k,c k,U k j,c0*V j0,sm (fun t=>c t*U t j0) k] (t0*(t1+(t2+t3*t4))-(t5+(t6+t3*t0))*t4) (t0*(t1+t2)-t4*(t5+t6)) rfl
   ·have h:=hi (e0*U k j0) (fun t=>if t<k then e t*U k j0 else -(e0*V j0+sm (fun t=>e t*U t j0) k)) fun j hj=>by
     show _*V j+(sm _ k+(if k<k then _ else _)*U k j)=0
     rw[if_neg (Nat.lt_irrefl k),Crg.sm_congr (g:=fun t=>U k j0*(e t*U t j)) fun t ht=>by
      rw[if_pos ht]
      exact RE.eq [e t,U k j0,U t j] (t0*t1*t2) (t1*(t0*t2)) rfl,← Crg.mul_sm,← he j hj,step]
     exact RE.eq [e0,U k j0,V j,sm (fun t=>e t*U t j) k,e0*V j0+sm (fun t=>e t*U t j0) k,U k j] (t0*t1*t2+(t1*t3 + -t4*t5)) (t1*(t0*t2+t3)-t5*t4) rfl
    exact(Fld.domain h).resolve_right h0
  ·have hz:∀ j,j<N->U k j=0:=fun j hj=>Classical.byContradiction fun e=>hx ⟨j,hj,e⟩
   obtain⟨p,q,h1,h2,h3,h4⟩:=rel_fits k M N U V T c0 c (fun t j ht hj=>hU t j (by omega) hj) hV hT (fun j hj=>by
    rw[hr j hj]
    show c0*V j+(sm (fun t=>c t*U t j) k+c k*U k j)=_
    rw[hz j hj,Rat.mul_zero,Rat.add_zero]) fun e0 e he=>hi e0 e fun j hj=>by
    show e0*V j+(sm (fun t=>e t*U t j) k+e k*U k j)=0
    rw[hz j hj,Rat.mul_zero,Rat.add_zero]
    exact he j hj
   exact⟨p,q,h1,h2,Nat.le_trans h3 (es_up k),Nat.le_trans h4 (es_up k)⟩
theorem sm_skip {R : Type} [Crg R] (f : Nat → R) (t : Nat) : ∀ d, t < d → sm f d = f t + sm (fun i => f (if i < t then i else i + 1)) (d - 1)
 | 0,h=>absurd h (Nat.not_lt_zero t)
 | d+1,h=>by
  show sm f d+f d=_
  rw[Nat.add_sub_cancel]
  rcases Nat.lt_or_ge t d with e | e
  ·obtain⟨c,rfl⟩:∃ c,d=c+1:=⟨d-1,by omega⟩
   rw[sm_skip f t (c+1) e,Nat.add_sub_cancel]
   show _=f t+(sm _ c+f (if c<t then c else c+1))
   rw[if_neg (by omega),Crg.add_assoc]
  ·obtain rfl:t=d:=by omega
   rw[Crg.sm_congr (g:=f) (f:=fun i=>f (if i<t then i else i+1)) fun i hi=>by rw[if_pos hi],Crg.add_comm]
theorem Mn.fits {n m D E:Nat} {A:Nat->Nat->Rat} {f:Pol Rat} (h:Mn n A m f) (h0:0<D) (hD:D≤2^E) {M:Nat} (hM:∀ t i j,t<f.len->i<m->j<n->IntB M (((D^t:Nat):Rat)*mpw n A t i j)) {t:Nat} (ht:t+1<f.len):∃ p q:Int,q≠0/\f.f t*(q:Rat)=(p:Rat)/\p.natAbs≤es (f.len-2) M/\q.natAbs≤es (f.len-2) M*2^(E*(f.len-1)):=by
 obtain⟨d,hd⟩:∃ d,f.len=d+1:=⟨f.len-1,by omega⟩
 have hP:∀ t,((D^t:Nat):Rat)≠0:=fun t=>by
  have:D^t≠0:=by have:=Nat.pow_pos (n:=t) h0;omega
  exact_mod_cast this
 have htd:t<d:=by omega
 rw[hd]
 rw[show d+1-2=d-1 by omega,Nat.add_sub_cancel]
 let sk:Nat->Nat:=fun i=>if i<t then i else i+1
 have sk1:∀ i,i<d-1->sk i<d:=fun i hi=>by show(if i<t then i else i+1)<d;split <;> omega
 have sk2:∀ i,sk i≠t:=fun i=>by show(if i<t then i else i+1)≠t;split <;> omega
 have hb:∀ j,j<m*n->j / n<m/\j%n<n:=fun j hj=>by
  have hn:0<n:=Nat.pos_of_ne_zero fun e=>by rw[e,Nat.mul_zero]at hj;omega
  exact⟨Nat.div_lt_of_lt_mul (by rw[Nat.mul_comm];exact hj),Nat.mod_lt _ hn⟩
 have hsum:∀ j,j<m*n->mpw n A d (j / n) (j%n) = -(sm (fun s=>f.f s*mpw n A s (j / n) (j%n)) d):=fun j hj=>by
  have e:=h.zero _ _ (hb j hj).1 (hb j hj).2
  rw[evm_of (Nat.le_of_eq hd)]at e
  have e2:sm (fun s=>f.f s*mpw n A s (j / n) (j%n)) d+f.f d*mpw n A d (j / n) (j%n)=0:=e
  have e3:f.f d=1:=by have:=h.mon.2;unfold lead at this;rwa [hd]at this
  rw[e3,Crg.one_mul]at e2
  exact neg_eq e2
 suffices S:∃ p q:Int,q≠0 /\ -(f.f t)*((D^(d-t):Nat):Rat)*(q:Rat)=(p:Rat)/\p.natAbs≤es (d-1) M/\q.natAbs≤es (d-1) M by
  obtain⟨p,q,q0,e1,b1,b2⟩:=S
  refine⟨-p,(D^(d-t):Nat)*q,fun e=>?_,?_,by rw[Int.natAbs_neg];exact b1,?_⟩
  ·rcases Int.mul_eq_zero.1 e with e | e
   ·have:=Nat.pow_pos (n:=d-t) h0;omega
   ·exact q0 e
  ·rw[Rat.intCast_mul,Rat.intCast_neg,← e1,Rat.intCast_natCast]
   exact RE.eq [f.f t,((D^(d-t):Nat):Rat),(q:Rat)] (t0*(t1*t2)) (-(-t0*t1*t2)) rfl
  ·rw[Int.natAbs_mul,Int.natAbs_natCast,Nat.mul_comm]
   refine Nat.mul_le_mul b2 (Nat.le_trans (Nat.pow_le_pow_left hD _) ?_)
   rw[← Nat.pow_mul]
   exact Nat.pow_le_pow_right (by omega) (Nat.mul_le_mul_left E (by omega))
 refine rel_fits (d-1) M (m*n) (fun i j=>((D^sk i:Nat):Rat)*mpw n A (sk i) (j / n) (j%n)) (fun j=>((D^t:Nat):Rat)*mpw n A t (j / n) (j%n)) (fun j=>((D^d:Nat):Rat)*mpw n A d (j / n) (j%n)) (-(f.f t)*((D^(d-t):Nat):Rat)) (fun i => -(f.f (sk i))*((D^(d-sk i):Nat):Rat)) (fun i j hi hj=>hM _ _ _ (by have:=sk1 i hi;omega) (hb j hj).1 (hb j hj).2) (fun j hj=>hM _ _ _ (by omega) (hb j hj).1 (hb j hj).2) (fun j hj=>hM _ _ _ (by omega) (hb j hj).1 (hb j hj).2) (fun j hj=>?_) fun e0 e he=>?_
 ·have pw2:∀ s,s<d->((D^d:Nat):Rat)=((D^(d-s):Nat):Rat)*((D^s:Nat):Rat):=fun s hs=>by
   rw[← Rat.natCast_mul,← Nat.pow_add,show d-s+s=d by omega]
  show((D^d:Nat):Rat)*mpw n A d (j / n) (j%n)=_
  rw[hsum j hj,sm_skip _ t d htd]
  show((D^d:Nat):Rat) * -(f.f t*mpw n A t (j / n) (j%n)+sm (fun i=>f.f (sk i)*mpw n A (sk i) (j / n) (j%n)) (d-1)) = -(f.f t)*((D^(d-t):Nat):Rat)*(((D^t:Nat):Rat)*mpw n A t (j / n) (j%n))+sm (fun i => -(f.f (sk i))*((D^(d-sk i):Nat):Rat)*(((D^sk i:Nat):Rat)*mpw n A (sk i) (j / n) (j%n))) (d-1)
  have e1:sm (fun i => -(f.f (sk i))*((D^(d-sk i):Nat):Rat)*(((D^sk i:Nat):Rat)*mpw n A (sk i) (j / n) (j%n))) (d-1)=((D^d:Nat):Rat) * -(sm (fun i=>f.f (sk i)*mpw n A (sk i) (j / n) (j%n)) (d-1)):=by
   rw[← Crg.sm_neg,Crg.mul_sm]
   exact Crg.sm_congr fun i hi=>by
    rw[pw2 (sk i) (sk1 i hi)]
    exact RE.eq [f.f (sk i),((D^(d-sk i):Nat):Rat),((D^sk i:Nat):Rat),mpw n A (sk i) (j / n) (j%n)] (-t0*t1*(t2*t3)) (t1*t2 * -(t0*t3)) rfl
  rw[e1,pw2 t htd]
  exact RE.eq [f.f t,((D^(d-t):Nat):Rat),((D^t:Nat):Rat),mpw n A t (j / n) (j%n),sm (fun i=>f.f (sk i)*mpw n A (sk i) (j / n) (j%n)) (d-1)] (t1*t2 * -(t0*t3+t4)) (-t0*t1*(t2*t3)+t1*t2 * -t4) rfl
 ·-- a shorter polynomial with the same rows 0
  let g:Pol Rat:=⟨fun s=>if s=t then e0*((D^t:Nat):Rat)else if s<t then e s*((D^s:Nat):Rat)else if s<d then e (s-1)*((D^s:Nat):Rat)else 0,d,fun s hs=>by rw[if_neg (by omega),if_neg (by omega),if_neg (by omega)]⟩
  have gl:g.len≤d:=len_le fun s hs=>by
   show(if s=t then _ else if s<t then _ else if s<d then _ else(0:Rat))=0
   rw[if_neg (by omega),if_neg (by omega),if_neg (by omega)]
  have gk:∀ i,i<d-1->g.f (sk i)=e i*((D^sk i:Nat):Rat):=fun i hi=>by
   show(if sk i=t then _ else if sk i<t then _ else if sk i<d then _ else(0:Rat))=_
   rw[if_neg (sk2 i)]
   have e5:sk i=if i<t then i else i+1:=rfl
   by_cases c:i<t
   ·rw[if_pos c]at e5
    rw[if_pos (by omega),e5]
   ·rw[if_neg c]at e5
    rw[if_neg (by omega),if_pos (by omega),show sk i-1=i by omega]
  have gz:∀ a b,a<m->b<n->evm n A g a b=0:=fun a b ha hb=>by
   have hj:a*n+b<m*n:=by
    have:=Nat.mul_le_mul_right n (show a+1≤m by omega)
    rw[Nat.succ_mul]at this
    omega
   have h1:=he (a*n+b) hj
   have q1:(a*n+b) / n=a:=by rw[Nat.mul_comm,Nat.mul_add_div (by omega),Nat.div_eq_of_lt hb,Nat.add_zero]
   have q2:(a*n+b)%n=b:=by rw[Nat.mul_comm,Nat.mul_add_mod,Nat.mod_eq_of_lt hb]
   rw[evm_of gl,sm_skip _ t d htd]
   rw[q1,q2]at h1
   have e6:(fun s=>g.f s*mpw n A s a b) t=e0*(((D^t:Nat):Rat)*mpw n A t a b):=by
    show(if t=t then e0*((D^t:Nat):Rat)else _)*mpw n A t a b=_
    rw[if_pos rfl,Rat.mul_assoc]
   rw[← h1]
   refine congr (congrArg _ e6) (Crg.sm_congr fun i hi=>?_)
   show g.f (sk i)*mpw n A (sk i) a b=_
   rw[gk i hi,Rat.mul_assoc]
  have hg:=h.low g gz
  have hg0:g=0:=Classical.byContradiction fun c=>by
   have:=hg.len c
   omega
  have e7:g.f t=e0*((D^t:Nat):Rat):=if_pos rfl
  rw[hg0]at e7
  exact(Fld.domain e7.symm).resolve_right (hP t)
end Mx
end Go.Proofs.YtkmbnldginonbaaGreat
/- The polynomial of a Hessenberg matrix divides a power of every polynomial that takes the matrix to 0; the same for characteristic polynomials. Plain: no program. -/
namespace Go.Proofs.YtkmbnldginonbaaGreat
open Crg Pol
namespace Mx
section
variable {K:Type} [Fld K]
section
variable {s l:Nat} {H:Nat->Nat->K}
theorem mpw_bl (hz : ∀ i j, s ≤ i → i < s + l → j < s → H i j = 0) : ∀ t i j, s ≤ i → i < s + l → j < s → mpw (s + l) H t i j = 0
 | 0,i,j,h1,_,h3=>if_neg (by omega)
 | t+1,i,j,h1,h2,h3=>by
  show sm (fun a=>H i a*mpw (s+l) H t a j) (s+l)=0
  refine sm_zero fun a ha=>?_
  rcases Nat.lt_or_ge a s with e | e
  ·rw[hz i a h1 h2 e,zero_mul]
  ·rw[mpw_bl hz t a j e ha h3,mul_zero]
theorem mpw_tl (hz : ∀ i j, s ≤ i → i < s + l → j < s → H i j = 0) : ∀ t i j, i < s → j < s → mpw (s + l) H t i j = mpw s H t i j
 | 0,_,_,_,_=>rfl
 | t+1,i,j,h1,h2=>by
  show sm (fun a=>H i a*mpw (s+l) H t a j) (s+l)=sm (fun a=>H i a*mpw s H t a j) s
  rw[sm_split,sm_zero (n:=l) fun a ha=>by rw[mpw_bl hz t (s+a) j (by omega) (by omega) h2,mul_zero],Crg.add_zero]
  exact sm_congr fun a ha=>by rw[mpw_tl hz t a j ha h2]
theorem mpw_br (hz : ∀ i j, s ≤ i → i < s + l → j < s → H i j = 0) : ∀ t i j, i < l → j < l → mpw (s + l) H t (s + i) (s + j) = mpw l (fun a b => H (s + a) (s + b)) t i j
 | 0,i,j,_,_=>by
  show(if s+i=s+j then(1:K)else 0)=if i=j then 1 else 0
  by_cases e:i=j
  ·rw[if_pos e,if_pos (by omega)]
  ·rw[if_neg e,if_neg (by omega)]
 | t+1,i,j,h1,h2=>by
  show sm (fun a=>H (s+i) a*mpw (s+l) H t a (s+j)) (s+l)=sm (fun a=>H (s+i) (s+a)*mpw l (fun a b=>H (s+a) (s+b)) t a j) l
  rw[sm_split,sm_zero (n:=s) fun a ha=>by rw[hz (s+i) a (by omega) (by omega) ha,zero_mul],zero_add]
  exact sm_congr fun a ha=>by rw[mpw_br hz t a j ha h2]
end
theorem hp_zero (W:Nat->Nat->K):hp W 0=1:=Pol.ext fun i=>by
 rw[f_one]
 split
 ·next e=>rw[e,(hp_deg W 0).2]
 ·exact(hp_deg W 0).1 i (by omega)
theorem dd_ne {H : Nat → Nat → K} : ∀ k, (∀ i, i < k → H (i + 1) i ≠ 0) → dd H 0 k ≠ 0
 | 0,_=>by rw[dd_self];exact Fld.one_ne
 | k+1,h=>by
  rw[dd_succ H (Nat.zero_le k)]
  exact fun e=>(Fld.domain e).elim (dd_ne k fun i hi=>h i (by omega)) (h k (by omega))
open Classical in
theorem hess_pow:∀(n:Nat) (H:Nat->Nat->K) (g:Pol K),Hess n H->Eqn n (evm n H g) (fun _ _=>0)->Dvs (hp (wd H) n) (pw g n):=by
 intro n
 induction n using Nat.strongRecOn with
 | ind n ih =>
  intro H g hH h0
  rcases Nat.eq_zero_or_pos n with e | hn
  ·subst e
   rw[hp_zero]
   exact Dvs.one _
  by_cases hx:∃ k,k+1<n/\H (k+1) k=0
  ·obtain⟨k,hk,hz⟩:=hx
   obtain⟨l,rfl⟩:∃ l,n=k+1+l:=⟨n-(k+1),by omega⟩
   have hb:∀ i j,k+1≤i->i<k+1+l->j<k+1->H i j=0:=fun i j h1 h2 h3=>by
    by_cases e:i=k+1/\j=k
    ·rw[e.1,e.2];exact hz
    ·exact hH i j h2 (by omega)
   have d1:=ih (k+1) (by omega) H g (fun i j hi hj=>hH i j (by omega) hj) fun i j hi hj=>by
    rw[← h0 i j (by omega) (by omega)]
    exact sm_congr fun t _=>by rw[mpw_tl hb t i j hi hj]
   have d2:=ih l (by omega) (fun a b=>H (k+1+a) (k+1+b)) g (fun i j hi hj=>hH _ _ (by omega) (by omega)) fun i j hi hj=>by
    rw[← h0 (k+1+i) (k+1+j) (by omega) (by omega)]
    exact sm_congr fun t _=>by rw[mpw_br hb t i j hi hj]
   rw[hp_blocks hz l,pw_add]
   obtain⟨a,ha⟩:=d1
   obtain⟨b,hb⟩:=d2
   exact⟨a*b,by rw[ha,hb];exact RE.eq [hp (wd H) (k+1),a,hp (wd fun i j=>H (k+1+i) (k+1+j)) l,b] (t0*t1*(t2*t3)) (t0*t2*(t1*t3)) rfl⟩
  ·have hc:Dvs (hp (wd H) n) g:=cyc_dvs fun j hj=>by
    have hd:=dd_ne (H:=H) j fun i hi e=>hx ⟨i,by omega,e⟩
    have e1:dd H 0 j*evm n (um (wd H)) g j 0=evm n H g j 0:=by
     unfold evm
     rw[mul_sm]
     refine sm_congr fun t _=>?_
     have e2:=dg_pow hH t hj hn
     rw[dd_self,Crg.mul_one]at e2
     rw[e2]
     exact RE.eq [dd H 0 j,g.f t,mpw n (um (wd H)) t j 0] (t0*(t1*t2)) (t1*(t0*t2)) rfl
    rw[h0 j 0 hj hn]at e1
    exact(Fld.domain e1).resolve_left hd
   obtain⟨m,rfl⟩:∃ m,n=m+1:=⟨n-1,by omega⟩
   exact hc.mul' (pw g m)
end
noncomputable def chp (n:Nat) (A:Nat->Nat->Rat):Pol Rat:=hp (wd (hsn n A)) n
theorem evm_hsn {n:Nat} {A:Nat->Nat->Rat} {g:Pol Rat} (h:Eqn n (evm n A g) fun _ _=>0):Eqn n (evm n (hsn n A) g) fun _ _=>0:=by
 obtain⟨E,F,h1,h2,h3⟩:=(hsn_ok n A).1
 have hb:Sim n (hsn n A) A:=⟨F,E,h2,h1,fun i j hi hj=>by
  have e1:mm n (mm n F (mm n A E)) F i j=mm n (mm n F (mm n E (hsn n A))) F i j:=mm_congr (mm_congr (Eqn.refl F) h3) (Eqn.refl F) i j hi hj
  have e2:mm n (mm n F (mm n A E)) F i j=mm n F A i j:=by
   rw[mm_assoc]
   refine mm_congr (C:=F) (Eqn.refl F) (fun a b ha hb=>?_) i j hi hj
   rw[mm_assoc,mm_congr (Eqn.refl A) h1 a b ha hb,mm_I hb]
  have e3:mm n (mm n F (mm n E (hsn n A))) F i j=mm n (hsn n A) F i j:=by
   refine mm_congr (fun a b ha hb=>?_) (Eqn.refl F) i j hi hj
   rw[← mm_assoc,mm_congr h2 (Eqn.refl _) a b ha hb,I_mm ha]
  rw[← e3,← e1,e2]⟩
 exact hb.root (c:=g.f) (m:=g.len) h
theorem chp_pow {n:Nat} {A:Nat->Nat->Rat} {g:Pol Rat} (h:Eqn n (evm n A g) fun _ _=>0):Dvs (chp n A) (pw g n):=hess_pow n _ g (hsn_ok n A).2 (evm_hsn h)
theorem chp_root (n:Nat) (A:Nat->Nat->Rat):Eqn n (evm n A (chp n A)) fun _ _=>0:=fun i j hi hj=>by
 have h:=(newt_hsn n A).root i j hi hj
 rw[evm_of (N:=n+1) (by rw[show(chp n A).len=n+1 from hp_len _ n];exact Nat.le_refl _)]
 exact h
end Mx
end Go.Proofs.YtkmbnldginonbaaGreat
/- The minimal polynomial: how long its coefficients are; the contracts of charpoly.At and charpoly.MinPoly at at most five rows. -/
namespace Go.Proofs.YtkmbnldginonbaaGreat
open Go.RowKit Crg
namespace Mx
open Rf
theorem IntB.zero (M:Nat):IntB M 0:=⟨0,rfl,Nat.zero_le M⟩
theorem IntB.sm {N : Nat} {f : Nat → Rat} : ∀ n, (∀ i, i < n → IntB N (f i)) → IntB (n * N) (Crg.sm f n)
 | 0,_=>IntB.zero _
 | n+1,h=>by
  obtain⟨a,ha,la⟩:=IntB.sm n fun i hi=>h i (by omega)
  obtain⟨b,hb,lb⟩:=h n (by omega)
  refine⟨a+b,?_,?_⟩
  ·show Crg.sm f n+f n=_
   rw[ha,hb,Rat.intCast_add]
  ·rw[Nat.succ_mul];omega
theorem IntB.of_fits {D N:Nat} {x:Rat} (h:Fits D N x) (h0:0<D):IntB N ((D:Rat)*x):=by
 obtain⟨k,rfl,hk⟩:=h
 refine⟨k,?_,hk⟩
 have hD:(D:Rat)≠0:=by
  have:D≠0:=by omega
  exact_mod_cast this
 unfold ratio
 rw[Rat.intCast_natCast,Rat.div_def,Rat.mul_comm,Rat.mul_assoc,Rat.inv_mul_cancel _ hD,Rat.mul_one]
theorem mpw_int {n D N : Nat} {A : Nat → Nat → Rat} (h0 : 0 < D) (hA : ∀ i j, i < n → j < n → Fits D N (A i j)) : ∀ t i j, i < n → j < n → IntB ((n * N) ^ t) (((D ^ t : Nat) : Rat) * mpw n A t i j)
 | 0,i,j,_,_=>by
  rw[Nat.pow_zero,Nat.pow_zero]
  show IntB 1 (((1:Nat):Rat)*if i=j then 1 else 0)
  split
  ·exact⟨1,by rw[Rat.mul_one];rfl,Nat.le_refl 1⟩
  ·exact⟨0,by rw[Rat.mul_zero];rfl,by decide⟩
 | t+1,i,j,hi,hj=>by
  have e:((D^(t+1):Nat):Rat)*mpw n A (t+1) i j=Crg.sm (fun a=>(D:Rat)*A i a*(((D^t:Nat):Rat)*mpw n A t a j)) n:=by
   show _*Crg.sm (fun a=>A i a*mpw n A t a j) n=_
   rw[Crg.mul_sm]
   refine Crg.sm_congr fun a _=>?_
   rw[Nat.pow_succ,Rat.natCast_mul]
   exact RE.eq [((D^t:Nat):Rat),(D:Rat),A i a,mpw n A t a j] (t0*t1*(t2*t3)) (t1*t2*(t0*t3)) rfl
  rw[e,Nat.pow_succ,show(n*N)^t*(n*N)=n*(N*(n*N)^t)by rw[Nat.mul_comm,Nat.mul_assoc]]
  exact IntB.sm n fun a ha=>(IntB.of_fits (hA i a hi ha) h0).mul (mpw_int h0 hA t a j ha hj)
theorem fits_of_int {x:Rat} {p q:Int} (q0:q≠0) (e:x*(q:Rat)=(p:Rat)):Fits q.natAbs p.natAbs x:=by
 have key:∀(d:Nat) (k:Int),0<d->x*(d:Rat)=(k:Rat)->x=ratio k d:=fun d k hd hk=>by
  have hD:(d:Rat)≠0:=by
   have:d≠0:=by omega
   exact_mod_cast this
  unfold ratio
  rw[Rat.intCast_natCast,Rat.div_def,← hk,Rat.mul_assoc,Rat.mul_inv_cancel _ hD,Rat.mul_one]
 rcases Int.lt_or_gt_of_ne q0 with h | h
 ·refine⟨-p,key q.natAbs (-p) (by omega) ?_,by omega⟩
  have e2:((q.natAbs:Nat):Rat)=((-q:Int):Rat):=by rw[← Rat.intCast_natCast,show((q.natAbs:Nat):Int) = -q by omega]
  rw[e2,Rat.intCast_neg,Rat.intCast_neg,← e,Rat.mul_neg]
 ·refine⟨p,key q.natAbs p (by omega) ?_,by omega⟩
  have e2:((q.natAbs:Nat):Rat)=(q:Rat):=by rw[← Rat.intCast_natCast,show((q.natAbs:Nat):Int)=q by omega]
  rw[e2,e]
theorem fits_le {D N e k:Nat} {x:Rat} (h:Fits D N x) (h0:0<D) (hD:D≤2^e) (hN:N≤2^e) (he:e<32*k):qlen x≤k:=by
 have h1:=h.small h0
 have hB:=lt_B (e:=e) (L:=k) he
 have a:zlen x.num≤k:=zlen_le (Nat.lt_of_le_of_lt (Nat.le_trans h1.1 hN) hB)
 have b:zlen (x.den:Int)≤k:=zlen_le (Nat.lt_of_le_of_lt (Nat.le_trans h1.2 hD) hB)
 show max (zlen x.num) (zlen (x.den:Int))≤k
 omega
theorem Mn.len {n m:Nat} {A:Nat->Nat->Rat} {f:Pol Rat} (h:Mn n A m f) (hm:m≤n):f.len≤n+1:=by
 have hl:(chp n A).len=n+1:=hp_len _ n
 have:=(h.low (chp n A) fun i j hi hj=>chp_root n A i j (by omega) hj).len (Pol.ne_of_len (by omega))
 omega
theorem es_k (M : Nat) : ∀ {k l : Nat}, k ≤ l → es k M ≤ es l M
 | k,l,h=>by
  induction l with
  | zero=>rw[Nat.le_zero.1 h];exact Nat.le_refl _
  | succ l ih =>
   rcases Nat.lt_or_ge k (l+1)with e | e
   ·exact Nat.le_trans (ih (by omega)) (es_up l)
   ·rw[show k=l+1 by omega];exact Nat.le_refl _
/-! Exponents by name. -/
def xM:Nat:=4015
def xN:Nat:=64256
def xQ:Nat:=68256
def xP:Nat:=8030
def xR:Nat:=4000
structure Sm5 (n : Nat) (A : Nat → Nat → Rat) (D E : Nat) : Prop where
 hn:n≤5
 hE:E≤800
 h0:0<D
 hD:D≤2^E
 hA:∀ i j,i<n->j<n->Fits D (2^E) (A i j)
variable {n:Nat} {A:Nat->Nat->Rat} {D E:Nat}
theorem Sm5.pow (h:Sm5 n A D E) (t:Nat):(n*2^E)^t≤2^((3+E)*t):=pow_le_two (mul_le_two (show n≤2^3 by have:=h.hn;omega) (Nat.le_refl _))
theorem Sm5.pwl (h:Sm5 n A D E) {t i j:Nat} (ht:t≤10) (hi:i<n) (hj:j<n):qlen (mpw n A t i j)≤251:=by
 have hE:=h.hE
 obtain⟨k,hk,lk⟩:=mpw_int h.h0 h.hA t i j hi hj
 have hq:((D^t:Nat):Int)≠0:=by have:=Nat.pow_pos (n:=t) h.h0;omega
 have f:=fits_of_int (x:=mpw n A t i j) (p:=k) hq (by rw[Rat.intCast_natCast,Rat.mul_comm];exact hk)
 have e1:(3+E)*t≤xP:=Nat.mul_le_mul (show 3+E≤803 by omega) ht
 have e2:E*t≤xP:=Nat.le_trans (Nat.mul_le_mul_right t (by omega)) e1
 exact fits_le (e:=xP) f (by omega) (by rw[Int.natAbs_natCast];exact Nat.le_trans (pow_le_two h.hD) (le_two e2)) (Nat.le_trans lk (Nat.le_trans (h.pow t) (le_two e1))) (by decide)
theorem Sm5.fit (h:Sm5 n A D E) {m:Nat} {f:Pol Rat} (hf:Mn n A m f) (hm:m≤n) {t:Nat} (ht:t+1<f.len):∃ Q,0<Q/\Q≤2^xQ/\Fits Q (2^xN) (f.f t):=by
 have hE:=h.hE
 have hn:=h.hn
 have hl:=hf.len hm
 obtain⟨p,q,q0,e,l1,l2⟩:=hf.fits h.h0 h.hD (M:=2^xM) (fun t i j ht hi hj=>(mpw_int h.h0 h.hA t i j (by omega) hj).mono (Nat.le_trans (h.pow t) (le_two (Nat.mul_le_mul (show 3+E≤803 by omega) (show t≤5 by omega))))) ht
 have e4:es (f.len-2) (2^xM)≤2^xN:=Nat.le_trans (Nat.le_trans (es_k _ (show f.len-2≤4 by omega)) (es_two 4 xM)) (le_two (by decide))
 refine⟨q.natAbs,by omega,Nat.le_trans l2 ?_,(fits_of_int q0 e).mono (Nat.le_trans l1 e4)⟩
 have e5:2^(E*(f.len-1))≤2^xR:=le_two (Nat.mul_le_mul (show E≤800 by omega) (show f.len-1≤5 by omega))
 exact Nat.le_trans (Nat.mul_le_mul e4 e5) (by rw[← Nat.pow_add];exact le_two (by decide))
theorem Sm5.coef (h:Sm5 n A D E) {m:Nat} {f:Pol Rat} (hf:Mn n A m f) (hm:m≤n) (t:Nat):qlen (f.f t)≤2200:=by
 rcases Nat.lt_trichotomy (t+1) f.len with c | c | c
 ·obtain⟨Q,h1,h2,h3⟩:=h.fit hf hm c
  exact fits_le (e:=xQ) h3 h1 h2 (le_two (by decide)) (by decide)
 ·have:=hf.mon.2
  unfold Pol.lead at this
  rw[show t=f.len-1 by omega,this]
  exact Nat.le_trans q_one (by decide)
 ·rw[Pol.len_out f t (by omega)]
  exact Nat.le_trans q_zero (by decide)
theorem sm_len {f : Nat → Rat} {L : Nat} : ∀ n, (∀ i, i < n → qlen (f i) ≤ L) → qlen (Crg.sm f n) ≤ n * (L + 1) + 1
 | 0,_=>by
  show qlen 0≤_
  exact Nat.le_trans q_zero (by omega)
 | n+1,h=>by
  have h1:=sm_len n fun i hi=>h i (by omega)
  have h2:=h n (by omega)
  refine Nat.le_trans (q_add h1 h2 (by omega)) ?_
  rw[Nat.succ_mul]
  omega
theorem Sm5.evm (h:Sm5 n A D E) {f:Nat->Rat} {L N r:Nat} (hf:∀ t,qlen (f t)≤L) (h1:1≤L) (hN:N≤6) (hr:r≤5) {i j:Nat} (hi:i<n) (hj:j<n):qlen (Crg.sm (fun t=>f t*mpw n A (t+r) i j) N)≤6*(L+251+1)+1:=by
 have e:=sm_len (f:=fun t=>f t*mpw n A (t+r) i j) (L:=L+251) N fun t ht=>q_mul (hf t) (h.pwl (by omega) hi hj) (by omega)
 exact Nat.le_trans e (Nat.succ_le_succ (Nat.mul_le_mul_right (L+251+1) hN))
theorem hrn_evm {T : Nat} {F : Nat → Rat} : ∀ t i j, t ≤ T → i < n → j < n → hrn n T F A t i j = Crg.sm (fun k => F (T - t + k) * mpw n A k i j) t
 | 0,_,_,_,_,_=>by rw[(hrn_hor n T F A).zero];rfl
 | t+1,i,j,ht,hi,hj=>by
  rw[(hrn_hor n T F A).step t i j (by omega),Crg.sm_head]
  have e1:F (T-(t+1)+0)*mpw n A 0 i j=F (T-1-t)*mone i j:=by
   rw[show T-(t+1)+0=T-1-t by omega]
   rfl
  have e2:sumR (hrn n T F A t i) A n j=Crg.sm (fun k=>F (T-(t+1)+(k+1))*mpw n A (k+1) i j) t:=by
   show Q.su (fun a=>hrn n T F A t i a*A a j) n=_
   rw[su_crg,Crg.sm_congr (g:=fun a=>Crg.sm (fun k=>F (T-t+k)*mpw n A k i a*A a j) t) fun a ha=>by rw[hrn_evm t i a (by omega) hi ha,Crg.sm_mul],Crg.sm_swap]
   refine Crg.sm_congr fun k _=>?_
   have e3:=mpw_add A k 1 i j hi hj
   rw[← e3,show mm n (mpw n A k) (mpw n A 1) i j=mm n (mpw n A k) A i j from Crg.sm_congr fun a ha=>by rw[show mpw n A 1 a j=A a j from mm_I hj a],show T-(t+1)+(k+1)=T-t+k by omega]
   unfold mm
   rw[Crg.mul_sm]
   exact Crg.sm_congr fun a _=>Rat.mul_assoc _ _ _
  rw[e1,e2]
  exact Rat.add_comm _ _
theorem sumR_len {x:Nat->Rat} {B:Nat->Nat->Rat} {L L' i j:Nat} (hi:i≤5) (h1:1≤L) (hx:∀ a,a<i->qlen (x a)≤L) (hB:∀ a,a<i->qlen (B a j)≤L'):qlen (sumR x B i j)≤5*(L+L'+1)+1:=by
 show qlen (Q.su (fun a=>x a*B a j) i)≤_
 rw[su_crg]
 have e:=sm_len (f:=fun a=>x a*B a j) (L:=L+L') i fun a ha=>q_mul (hx a ha) (hB a ha) (by omega)
 exact Nat.le_trans e (by
  have:=Nat.mul_le_mul_right (L+L'+1) hi
  omega)
theorem Sm5.one (h:Sm5 n A D E) {i j:Nat} (hi:i<n) (hj:j<n):qlen (A i j)≤251:=by
 have:=h.pwl (t:=1) (by decide) hi hj
 rwa [show mpw n A 1 i j=A i j from mm_I hj i]at this
theorem at_pol (h:Sm5 n A D E) {p:Nat->RawR} (hp:∀ a,a<n*n->(p a).Fit KD) (hpv:∀ i j,i<n->j<n->(p (i*n+j)).val=A i j) {f:Pol Rat} {L:Nat} (hl:f.len≤6) (hf:∀ t,qlen (f.f t)≤L) (h1:1≤L) (hL:L≤1000000):FnOK Tryz.prog true 27 [.c (nql f.len f.f),.g (rmat n n p)] (.t2 (.g (matL n n (evm n A f))) (.c (.int .i64 0))):=by
 have hn:=h.hn
 have hT:Q.tq f.f f.len=f.len:=Q.tq_self fun k hk=>Pol.len_top f hk
 have hH:∀ t i j,t≤f.len->i<n->j<n->qlen (hrn n f.len f.f A t i j)≤6*(L+251+1)+1:=fun t i j ht hi hj=>by
  rw[hrn_evm t i j ht hi hj]
  exact h.evm (f:=fun k=>f.f (f.len-t+k)) (r:=0) (fun k=>hf _) h1 (by omega) (by decide) hi hj
 have k:=at_ok (n:=n) (N:=f.len) (T:=f.len) (q:=fun i=>ofR (f.f i)) (p:=p) (F:=f.f) (A:=A) (H:=hrn n f.len f.f A) (by omega) (by omega) (funext fun i=>ofR_val _) hT (by omega) (fun i _=>ofR_fit (Nat.le_trans (hf i) (by show L≤67108864;omega))) hp hpv (fun i j hi hj=>Nat.le_trans (h.one hi hj) (by decide)) (fun i _=>Nat.le_trans (hf i) (by show L≤67108864;omega)) (fun t i j ht hi hj=>Nat.le_trans (hH t i j ht hi hj) (by show _≤67108864;omega)) (fun t r i j ht hr hi hj=>Nat.le_trans (sumR_len (L:=6*(L+251+1)+1) (L':=251) (by omega) (by omega) (fun a ha=>hH t r a (by omega) hr (by omega)) fun a ha=>h.one (by omega) hj) (by show _≤67108864;omega)) (hrn_hor n f.len f.f A)
 refine k.res fun D' w v ⟨x,y,e1,e2,e3⟩=>⟨x,y,e1,matL_eq (fun i j hi hj=>?_) D' w x e2,e3⟩
 rw[hrn_evm f.len i j (Nat.le_refl _) hi hj]
 exact Crg.sm_congr fun t _=>by rw[Nat.sub_self,Nat.zero_add]
theorem mul_pol {f g:Pol Rat} {L L':Nat} (hf0:0<f.len) (hg0:0<g.len) (hl:f.len≤6) (hl':g.len≤6) (hf:∀ t,qlen (f.f t)≤L) (hg:∀ t,qlen (g.f t)≤L') (h1:1≤L) (hL:16*L+16*L'+64≤LIM):FnOK Tryz.prog true 66 [.c (nql f.len f.f),.c (nql g.len g.f)] (.c (nql (f*g).len (f*g).f)):=by
 have e1:Q.cf f.f g.f=(f*g).f:=funext fun k=>by
  show Q.su (fun i=>f.f i*g.f (k-i)) (k+1)=_
  rw[su_crg]
  rfl
 have e2:=Pol.len_mul (Pol.ne_of_len hf0) (Pol.ne_of_len hg0)
 have fin:∀ {a:Pol Rat},Q.Fin a.len a.f:=fun {a} t ht=>Pol.len_out a t ht
 have k:=qpMul_ok (n:=f.len) (m:=g.len) (q:=fun i=>ofR (f.f i)) (p:=fun i=>ofR (g.f i)) (L:=L+L') (K:=6*(L+L'+1)+1) (F:=f.f) (G:=g.f) (by rw[show(fun i=>(ofR (f.f i)).val)=f.f from funext fun i=>ofR_val _];exact Q.qx_self fin) (by rw[show(fun i=>(ofR (g.f i)).val)=g.f from funext fun i=>ofR_val _];exact Q.qx_self fin) (by omega) (by omega) (fun i _=>ofR_fit (Nat.le_trans (hf i) (by omega))) (fun i _=>ofR_fit (Nat.le_trans (hg i) (by omega))) (by omega) (fun i k hi=>by
  show qlen (Q.su (fun a=>if a≤k then f.f a*g.f (k-a)else 0) i)≤_
  rw[su_crg]
  refine Nat.le_trans (sm_len (L:=L+L') i fun a _=>?_) (by have:=Nat.mul_le_mul_right (L+L'+1) (show i≤6 by omega);omega)
  split
  ·exact q_mul (hf a) (hg _) (by omega)
  ·exact Nat.le_trans q_zero (by omega)) (by omega)
 rw[e1,show f.len+g.len-1=(f*g).len by omega,Q.tq_self fun k hk=>Pol.len_top (f*g) hk]at k
 exact k
theorem evv_row (f:Pol Rat) (i r j:Nat) (hj:j<n) (hi:i<n):av n A (evm n A f i) r j=Crg.sm (fun t=>f.f t*mpw n A (t+r) i j) f.len:=by
 rw[av_mpw _ r j hj]
 show Crg.sm (fun a=>Crg.sm (fun t=>f.f t*mpw n A t i a) f.len*mpw n A r a j) n=_
 rw[Crg.sm_congr (g:=fun a=>Crg.sm (fun t=>f.f t*mpw n A t i a*mpw n A r a j) f.len) fun a _=>Crg.sm_mul (mpw n A r a j) (fun t=>f.f t*mpw n A t i a) f.len]
 have e0:=Crg.sm_swap (fun a t=>f.f t*mpw n A t i a*mpw n A r a j) f.len n
 rw[e0]
 refine Crg.sm_congr fun t _=>?_
 rw[← mpw_add A t r i j hi hj]
 unfold mm
 rw[Crg.mul_sm]
 exact Crg.sm_congr fun a _=>Rat.mul_assoc _ _ _
def Rnd (n:Nat) (A:Nat->Nat->Rat) (p:Nat->RawR) (i:Nat) (f g:Pol Rat):Prop:=Ann n A (evm n A f i) g/\g.len≤n+1/\(∀ t,qlen (g.f t)≤8192*14713)/\FnOK Tryz.prog true 67 [.g (rmat n n p),.c (nql n (evm n A f i))] (.c (nql g.len g.f))
theorem rnd_ex (h:Sm5 n A D E) {p:Nat->RawR} (hp:∀ a,a<n*n->(p a).Fit KD) (hpv:∀ i j,i<n->j<n->(p (i*n+j)).val=A i j) {i:Nat} {f:Pol Rat} (hf:Mn n A i f) (hi:i<n):∃ g,Rnd n A p i f g:=by
 have hn:=h.hn
 have hl:=hf.len (Nat.le_of_lt hi)
 have hc:=h.coef hf (Nat.le_of_lt hi)
 have hV:∀ r j,r≤n->j<n->qlen (av n A (evm n A f i) r j)≤14713:=fun r j hr hj=>by
  rw[evv_row f i r j hj hi]
  exact h.evm hc (by decide) (by omega) (by omega) hi hj
 exact ann_ok (L:=14713) (by omega) hp hpv (fun i j hi hj=>Nat.le_trans (h.one hi hj) (by decide)) hV (by decide) (by decide) fun r i j hr hi hj=>Nat.le_trans (sumR_len (L:=14713) (L':=251) (by omega) (by decide) (fun a ha=>hV r a (by omega) (by omega)) fun a ha=>h.one (by omega) hj) (by decide)
open Classical in
theorem min_ok (h:Sm5 n A D E) {p:Nat->RawR} (hp:∀ a,a<n*n->(p a).Fit KD) (hpv:∀ i j,i<n->j<n->(p (i*n+j)).val=A i j):∃ μ:Pol Rat,Mn n A n μ/\FnOK Tryz.prog true 20 [.g (rmat n n p)] (.t2 (.c (nql μ.len μ.f)) (.c (.int .i64 0))):=by
 have hn:=h.hn
 let G:Nat->Pol Rat->Pol Rat:=fun i f=>if h:∃ g,Rnd n A p i f g then h.choose else 1
 let f:Nat->Pol Rat:=fun i=>Nat.rec (1:Pol Rat) (fun i f=>f*G i f) i
 have fs:∀ i,f (i+1)=f i*G i (f i):=fun _=>rfl
 have key:∀ i,i≤n->Mn n A i (f i):=by
  intro i
  induction i with
  | zero=>intro _;exact Mn.start
  | succ i ih =>
   intro hi
   have hm:=ih (by omega)
   have hx:=rnd_ex h hp hpv hm (by omega)
   have e:G i (f i)=hx.choose:=dif_pos hx
   rw[fs,e]
   exact hm.step (by omega) hx.choose_spec.1
 have rn:∀ i,i<n->Rnd n A p i (f i) (G i (f i)):=fun i hi=>by
  have hx:=rnd_ex h hp hpv (key i (by omega)) hi
  have e:G i (f i)=hx.choose:=dif_pos hx
  rw[e]
  exact hx.choose_spec
 have W:Mpw n p f (fun i=>G i (f i)) (fun i=>evm n A (f i)):=by
  refine⟨by omega,rfl,fun i hi=>?_,fun i hi=>?_,fun i hi=>(rn i hi).2.2.2,fun i hi=>?_⟩
  ·exact at_pol h hp hpv (by have:=(key i (by omega)).len (by omega);omega) (h.coef (key i (by omega)) (by omega)) (by decide) (by decide)
  ·refine row_n (by omega) hi fun j hj=>?_
   exact Nat.le_trans (h.evm (r:=0) (h.coef (key i (by omega)) (by omega)) (by decide) (by have:=(key i (by omega)).len (by omega);omega) (by decide) hi hj) (by decide)
  ·have k1:=key i (by omega)
   obtain⟨g1,g2,g3,-⟩:=rn i hi
   exact mul_pol k1.mon.1 g1.mon.1 (by have:=k1.len (by omega);omega) (by omega) (h.coef k1 (by omega)) g3 (by decide) (by decide)
 exact⟨f n,key n (Nat.le_refl n),min_walk W⟩
end Mx
end Go.Proofs.YtkmbnldginonbaaGreat
/- The law CharpolyHamilton: sizes of the characteristic polynomial and of powers; exact divisions; the document's powers. -/
namespace Go.Proofs.YtkmbnldginonbaaGreat
open Go.RowKit Crg
namespace Mx
open Rf
variable {n:Nat} {A:Nat->Nat->Rat} {D E:Nat}
def nsm (f : Nat → Nat) : Nat → Nat
 | 0=>0
 | n+1=>nsm f n+f n
theorem sm_lenF {f : Nat → Rat} {L : Nat → Nat} : ∀ n, (∀ i, i < n → qlen (f i) ≤ L i) → qlen (Crg.sm f n) ≤ nsm (fun i => L i + 1) n + 1
 | 0,_=>q_zero
 | n+1,h=>by
  have h1:=sm_lenF n fun i hi=>h i (by omega)
  have h2:=h n (by omega)
  refine Nat.le_trans (q_add h1 h2 (by omega)) ?_
  show _≤nsm (fun i=>L i+1) n+(L n+1)+1
  omega
def CB : Nat → Nat
 | 0=>1
 | 1=>1265
 | 2=>3792
 | 3=>8846
 | 4=>18954
 | _=>39170
theorem Sm5.trl (h:Sm5 n A D E) {t:Nat} (ht:t≤10):qlen (tr n (mpw n A t))≤1261:=by
 have hn:=h.hn
 exact Nat.le_trans (sm_len (L:=251) n fun i hi=>h.pwl ht hi hi) (Nat.succ_le_succ (Nat.mul_le_mul_right 252 hn))
theorem Sm5.chp_back (h:Sm5 n A D E):∀ r,r≤n->qlen ((chp n A).f (n-r))≤CB r:=by
 have hn:=h.hn
 have hN:=newt_hsn n A
 intro r
 induction r using Nat.strongRecOn with
 | ind r ih =>
  intro hr
  rcases Nat.eq_zero_or_pos r with e | h1
  ·subst e
   rw[Nat.sub_zero,show(chp n A).f n=1 from hN.top]
   exact q_one
  have e1:=hN.id r hr
  rw[Crg.sm_head,Nat.add_zero,show tr n (mpw n A 0)=nc n from tr_I n,nc_rat,nc_rat]at e1
  have hs:=sm_lenF (f:=fun t=>(chp n A).f (n-r+(t+1))*tr n (mpw n A (t+1))) (L:=fun t=>CB (r-(t+1))+1261) r fun t ht=>by
   refine q_mul ?_ (h.trl (by omega)) (by omega)
   rw[show n-r+(t+1)=n-(r-(t+1))by omega]
   exact ih (r-(t+1)) (by omega) (by omega)
  have hr0:(r:Rat)≠0:=by
   have:r≠0:=by omega
   exact_mod_cast this
  have e2:((n:Nat):Rat)=((n-r:Nat):Rat)+(r:Rat):=by rw[← Rat.natCast_add,show n-r+r=n by omega]
  have e3:(chp n A).f (n-r) = -(Crg.sm (fun t=>(chp n A).f (n-r+(t+1))*tr n (mpw n A (t+1))) r) / (r:Rat):=by
   have e4:(chp n A).f (n-r)*(r:Rat) = -(Crg.sm (fun t=>(chp n A).f (n-r+(t+1))*tr n (mpw n A (t+1))) r):=by
    have e1:(chp n A).f (n-r)*(n:Rat)+Crg.sm (fun t=>(chp n A).f (n-r+(t+1))*tr n (mpw n A (t+1))) r=((n-r:Nat):Rat)*(chp n A).f (n-r):=e1
    rw[e2]at e1
    have e5:((n-r:Nat):Rat)*(chp n A).f (n-r)+((chp n A).f (n-r)*(r:Rat)+Crg.sm (fun t=>(chp n A).f (n-r+(t+1))*tr n (mpw n A (t+1))) r)=((n-r:Nat):Rat)*(chp n A).f (n-r)+0:=by
     refine Eq.trans ?_ (e1.trans (Rat.add_zero _).symm)
     exact RE.eq [((n-r:Nat):Rat),(chp n A).f (n-r),(r:Rat),Crg.sm (fun t=>(chp n A).f (n-r+(t+1))*tr n (mpw n A (t+1))) r] (t0*t1+(t1*t2+t3)) (t1*(t0+t2)+t3) rfl
    have e6:=Crg.add_left_cancel e5
    rw[Rat.add_comm]at e6
    exact neg_eq e6
   rw[← e4,Rat.div_def,Rat.mul_assoc,Rat.mul_inv_cancel _ hr0,Rat.mul_one]
  rw[e3]
  have hrl:qlen (r:Rat)≤1:=by
   rcases(show r=1∨r=2∨r=3∨r=4∨r=5 by omega)with e | e | e | e | e <;> (subst e;decide)
  refine Nat.le_trans (q_div (L:=nsm (fun i=>CB (r-(i+1))+1261+1) r+1) (by rw[q_neg];exact hs) hrl (by omega)) ?_
  rcases(show r=1∨r=2∨r=3∨r=4∨r=5 by omega)with e | e | e | e | e <;> (subst e;decide)
theorem Sm5.chp (h:Sm5 n A D E) (t:Nat):qlen ((chp n A).f t)≤40000:=by
 have hn:=h.hn
 rcases Nat.lt_or_ge n t with c | c
 ·rw[show(Mx.chp n A).f t=0 from(newt_hsn n A).out t c]
  exact Nat.le_trans q_zero (by decide)
 ·have e:=h.chp_back (n-t) (by omega)
  rw[show n-(n-t)=t by omega]at e
  refine Nat.le_trans e ?_
  unfold CB
  split <;> decide
theorem dvs_len {d N L Lf : Nat} {f p : Nat → Rat} (hp : ∀ k, qlen (p k) ≤ L) (hf : ∀ k, qlen (f k) ≤ Lf) (h1 : 1 ≤ L) : ∀ t k, qlen (Q.dvs d f N p t k) + Lf + 1 ≤ 2 ^ t * (L + Lf + 1)
 | 0,k=>by
  rw[Nat.pow_zero,Nat.one_mul]
  have:=hp k
  show qlen (p k)+Lf+1≤_
  omega
 | t+1,k=>by
  have h2:=dvs_len (d:=d) (N:=N) hp hf h1 t k
  have h3:=dvs_len (d:=d) (N:=N) hp hf h1 t (N-1-t+d)
  have h4:1≤2^t:=Nat.pow_pos (by omega)
  have h5:=Nat.mul_le_mul h4 (show L+Lf+1≤L+Lf+1 from Nat.le_refl _)
  have key:qlen (Q.dvs d f N p (t+1) k)≤(2^t*(L+Lf+1)-Lf-1)+(2^t*(L+Lf+1)-Lf-1+Lf)+1:=by
   show qlen (Q.dvs d f N p t k-(if N-1-t≤k then Q.dvs d f N p t (N-1-t+d)*f (k-(N-1-t))else 0))≤_
   refine q_sub (by omega) ?_ (by omega)
   split
   ·exact q_mul (by omega) (hf _) (by omega)
   ·exact Nat.le_trans q_zero (by omega)
  rw[Nat.pow_succ,Nat.mul_comm (2^t) 2,Nat.mul_assoc]
  omega
theorem div_zero {f g:Pol Rat} {L Lg:Nat} (hd:Pol.Dvs g f) (hg:Pol.Monic g) (hf:∀ t,qlen (f.f t)≤L) (hgl:∀ t,qlen (g.f t)≤Lg) (hl:f.len≤64) (hl2:g.len≤64) (h1:1≤L) (hb:3*(2^(f.len+1-g.len)*(L+Lg+1))+32≤LIM):∃ Y v,FnOK Tryz.prog true 29 [.c (nql f.len f.f),.c (nql g.len g.f)] (.t3 (.c Y) (.c (nql 0 v)) (.c (.int .i64 0))):=by
 obtain⟨d,hdl⟩:∃ d,g.len=d+1:=⟨g.len-1,by have:=hg.1;omega⟩
 have hpos:1≤2^(f.len+1-g.len):=Nat.pow_pos (by omega)
 have hb1:=Nat.mul_le_mul hpos (show L+Lg+1≤L+Lg+1 from Nat.le_refl _)
 have hM:Q.Mon d g.f:=⟨by have:=hg.2;unfold Pol.lead at this;rwa [hdl]at this,fun t ht=>Pol.len_out g t (by omega)⟩
 have finf:Q.Fin f.len f.f:=fun t ht=>Pol.len_out f t ht
 have hT:Q.tq f.f f.len=f.len:=Q.tq_self fun k hk=>Pol.len_top f hk
 have hz:∀ k,Q.rst d g.f f.f f.len k=0:=fun k=>by
  obtain⟨c,hc⟩:=hd
  have r0:Q.Rm d g.f f.f fun _=>0:=⟨fun _ _=>rfl,c.len,c.f,fun t ht=>Pol.len_out c t ht,fun k=>by
   show f.f k=Q.su (fun i=>c.f i*g.f (k-i)) (k+1)+0
   rw[su_crg,hc,Rat.add_zero,Pol.f_mul,Pol.cv_comm]
   rfl⟩
  exact(Q.rst_rm hM finf).eq hM r0 k
 obtain⟨Y,-,k⟩:=qpdivmod_ok (n:=f.len) (d:=d) (q:=fun i=>ofR (f.f i)) (p:=f.f) (f:=g.f) (L:=L) (K:=2^(f.len+1-g.len)*(L+Lg+1)) (by rw[show(fun i=>(ofR (f.f i)).val)=f.f from funext fun i=>ofR_val _];exact Q.qx_self finf) hM (by omega) (by omega) (fun i _=>ofR_fit (hf i)) (fun t k ht=>by
  rw[hT]at ht
  have h2:=dvs_len (d:=d) (N:=Q.tq f.f f.len-d) hf hgl h1 t k
  have h3:2^t≤2^(f.len+1-g.len):=Nat.pow_le_pow_right (by omega) (by omega)
  have h4:=Nat.mul_le_mul_right (L+Lg+1) h3
  omega) (fun j=>Nat.le_trans (hgl j) (by omega)) (by omega) (by omega) (by omega)
 rw[hT]at k
 refine⟨Y,Q.rst d g.f f.f f.len,?_⟩
 rw[hdl]
 rwa [tq_zero hz]at k
end Mx
end Go.Proofs.YtkmbnldginonbaaGreat
/- Powers of the minimal polynomial, by the document; lists of zeros. -/
namespace Go.Proofs.YtkmbnldginonbaaGreat
open Go.RowKit Crg
namespace Mx
open Rf
variable {n:Nat} {A:Nat->Nat->Rat} {D E:Nat}
/-! Exponents by name. -/
def yA:Nat:=341280
def yB:Nat:=341285
theorem Sm5.fits_to (h : Sm5 n A D E) {f : Pol Rat} (hf : Mn n A n f) : ∀ m, m + 1 ≤ f.len → ∃ Q, 0 < Q ∧ Q ≤ 2 ^ (xQ * m) ∧ ∀ t, t < m → Fits Q (2 ^ (xQ * m)) (f.f t)
 | 0,_=>⟨1,by decide,by rw[Nat.mul_zero];decide,fun t ht=>absurd ht (Nat.not_lt_zero t)⟩
 | m+1,hm=>by
  obtain⟨Q,h1,h2,h3⟩:=h.fits_to hf m (by omega)
  obtain⟨q,g1,g2,g3⟩:=h.fit hf (Nat.le_refl n) hm
  have e1:2^(xQ*(m+1))=2^(xQ*m)*2^xQ:=by rw[Nat.mul_succ,Nat.pow_add]
  refine⟨Q*q,Nat.mul_pos h1 g1,by rw[e1];exact Nat.mul_le_mul h2 g2,fun t ht=>?_⟩
  rw[e1]
  rcases Nat.lt_or_ge t m with c | c
  ·exact((h3 t c).scale g1).mono (Nat.mul_le_mul_left _ g2)
  ·rw[show t=m by omega,Nat.mul_comm Q q]
   exact(g3.scale h1).mono (by rw[Nat.mul_comm];exact Nat.mul_le_mul h2 (le_two (by decide)))
theorem Fits.one {U0 N:Nat} (h:U0≤N) (h0:0<U0):Fits U0 N 1:=by
 have f:=(Fits.of (1:Rat)).scale h0
 have e:(1:Rat).den=1:=rfl
 have e2:(1:Rat).num.natAbs=1:=rfl
 rw[e,e2,Nat.one_mul]at f
 exact f.mono h
theorem Sm5.fits_all (h:Sm5 n A D E) {f:Pol Rat} (hf:Mn n A n f):∃ U0,0<U0/\U0≤2^yA/\∀ t,Fits U0 (2^yA) (f.f t):=by
 have hn:=h.hn
 have hl:=hf.len (Nat.le_refl n)
 have hp:=hf.mon.1
 obtain⟨U0,h1,h2,h3⟩:=h.fits_to hf (f.len-1) (by omega)
 have e:xQ*(f.len-1)≤yA:=Nat.le_trans (Nat.mul_le_mul_left xQ (show f.len-1≤5 by omega)) (by decide)
 refine⟨U0,h1,Nat.le_trans h2 (le_two e),fun t=>?_⟩
 rcases Nat.lt_trichotomy (t+1) f.len with c | c | c
 ·exact(h3 t (by omega)).mono (le_two e)
 ·have:=hf.mon.2
  unfold Pol.lead at this
  rw[show t=f.len-1 by omega,this]
  exact Fits.one (Nat.le_trans h2 (le_two e)) h1
 ·rw[Pol.len_out f t (by omega)]
  exact Fits.zero _ _
theorem pw_len {f : Pol Rat} (hf : Pol.Monic f) : ∀ k, (pw f k).len = k * (f.len - 1) + 1 ∧ Pol.Monic (pw f k)
 | 0=>by
  rw[Nat.zero_mul]
  exact⟨Pol.len_one,by show 0<(1:Pol Rat).len;rw[Pol.len_one];omega,by show(1:Pol Rat).f ((1:Pol Rat).len-1)=1;rw[Pol.len_one];rfl⟩
 | k+1=>by
  obtain⟨h1,h2⟩:=pw_len hf k
  have h3:=Pol.len_mul (Pol.ne_of_len h2.1) (Pol.ne_of_len hf.1)
  have:=hf.1
  refine⟨?_,monic_mul h2 hf⟩
  show(pw f k*f).len=_
  rw[Nat.succ_mul]
  omega
theorem pw_fits {f : Pol Rat} {U0 : Nat} (h0 : 0 < U0) (hl : f.len ≤ 6) (hm : Pol.Monic f) (hf : ∀ t, Fits U0 (2 ^ yA) (f.f t)) : ∀ k, k ≤ 5 → ∀ t, Fits (U0 ^ k) (2 ^ (yB * k)) ((pw f k).f t)
 | 0,_,t=>by
  rw[Nat.pow_zero,Nat.mul_zero]
  show Fits 1 1 (if t=0 then 1 else 0)
  split
  ·exact Fits.one (Nat.le_refl 1) (by decide)
  ·exact Fits.zero _ _
 | k+1,hk,t=>by
  have ih:=pw_fits h0 hl hm hf k (by omega)
  have hlen:=(pw_len hm (k+1)).1
  rcases Nat.lt_or_ge t 32 with c | c
  ·have e:(pw f (k+1)).f t=Crg.sm (fun i=>(pw f k).f i*f.f (t-i)) (t+1):=rfl
   rw[e,Nat.pow_succ]
   refine(sm_fits (n:=t+1) (fun i _=>(ih i).mul (hf (t-i))) (t+1) (Nat.le_refl _)).mono ?_
   refine Nat.le_trans (Nat.mul_le_mul_right _ (show t+1≤2^5 by omega)) ?_
   rw[← Nat.pow_add,← Nat.pow_add]
   exact le_two (by rw[Nat.mul_succ];have:yB=yA+5:=rfl;omega)
  ·rw[Pol.len_out (pw f (k+1)) t (by
    rw[hlen]
    have:=Nat.mul_le_mul (show k+1≤5 from hk) (show f.len-1≤5 by omega)
    omega)]
   exact Fits.zero _ _
theorem pw_size {f:Pol Rat} {U0:Nat} (h0:0<U0) (hQ:U0≤2^yA) (hl:f.len≤6) (hm:Pol.Monic f) (hf:∀ t,Fits U0 (2^yA) (f.f t)) {k:Nat} (hk:k≤5) (t:Nat):qlen ((pw f k).f t)≤65535:=by
 have e:yB*k≤yB*5:=Nat.mul_le_mul_left yB hk
 exact fits_len (e:=yB*5) (pw_fits h0 hl hm hf k hk t) (Nat.pow_pos h0) (Nat.le_trans (pow_le_two hQ) (le_two (Nat.le_trans (Nat.mul_le_mul_right k (show yA≤yB by decide)) e))) (le_two e) (by decide)
theorem pw_part {f:Pol Rat} {U0:Nat} (h0:0<U0) (hQ:U0≤2^yA) (hl:f.len≤6) (hm:Pol.Monic f) (hf:∀ t,Fits U0 (2^yA) (f.f t)) {k:Nat} (hk:k<5) (t i:Nat):qlen (cfi (pw f k).f f.f t i)≤131070:=by
 have key:∀ i,i≤32->qlen (cfi (pw f k).f f.f t i)≤131070:=fun i hi=>by
  show qlen (Q.su (fun a=>(pw f k).f a*f.f (t-a)) i)≤_
  rw[su_crg]
  have s:=sm_fits (n:=i) (fun a _=>(pw_fits h0 hl hm hf k (by omega) a).mul (hf (t-a))) i (Nat.le_refl i)
  have e:yB*(k+1)≤yB*5:=Nat.mul_le_mul_left yB hk
  have e2:yA+5=yB:=rfl
  refine Nat.le_trans (fits_len (e:=yB*5) s (Nat.mul_pos (Nat.pow_pos h0) h0) (Nat.le_trans (mul_le_two (pow_le_two hQ) hQ) (le_two ?_)) (Nat.le_trans (Nat.mul_le_mul_right _ (show i≤2^5 by omega)) ?_) (by decide)) (by decide)
  ·have:=Nat.mul_le_mul_right k (show yA≤yB by decide)
   rw[Nat.mul_succ]at e
   omega
  ·rw[← Nat.pow_add,← Nat.pow_add]
   rw[Nat.mul_succ]at e
   exact le_two (by omega)
 rcases Nat.lt_or_ge i 32 with c | c
 ·exact key i (by omega)
 ·have e:cfi (pw f k).f f.f t i=cfi (pw f k).f f.f t 32:=Q.su_more (fun a ha=>by
   rw[Pol.len_out (pw f k) a (by
    rw[(pw_len hm k).1]
    have:=Nat.mul_le_mul (show k≤5 by omega) (show f.len-1≤5 by omega)
    omega),Rat.zero_mul]) c
  rw[e]
  exact key 32 (Nat.le_refl _)
def Nr (a : Nat → Nat) : Nat → Nat
 | 0=>1
 | k+1=>a k
def Fr (v : Nat → Nat → Rat) : Nat → Nat → Rat
 | 0=>fun _=>1
 | k+1=>v k
set_option maxHeartbeats 8000000 in
theorem power_walk {n M:Nat} {g:Nat->Rat} {a:Nat->Nat} {v:Nat->Nat->Rat} (hn:n≤100) (km:∀ k,k<n->FnOK Tryz.prog false 34 [.c (nql (Nr a k) (Fr v k)),.c (nql M g)] (.c (nql (Nr a (k+1)) (Fr v (k+1))))):FnOK Tryz.prog false 30 [.c (nql M g),.c (.int .i64 (n:Nat))] (.c (nql (Nr a n) (Fr v n))):=by
 have k1:=rqof_ok (n:=1) (by decide) (by decide)
 refine fn_ok (E:=E0) E0_ok Tryz.func30 rfl mixed (by kernel_rfl) (by kernel_rfl) ?_
 conv=>whnf
 refine⟨_,k1,?_⟩
 conv=>whnf
 refine loop_ints (fun k:Nat=>gst [(0,.c (nql M g)),(1,.c (.int .i64 n)),(5,.c (nql (Nr a k) (Fr v k))),(6,.c (.int .i64 k))] []) (fun k=>n-k) (fun k=>k≤n) 0 rfl (Weak.gen [] rfl trivial ⟨.inl ⟨_,_,rfl,rfl,fun _ _ _ _=>rfl⟩,⟨_,rfl,rfl⟩,.inr (.inr ⟨0,_,rfl,rfl,rfl,rfl,Nat.zero_le _,rfl,rfl,fun x y hx hy=>⟨row1_eq hx rfl,q_clos _ x y⟩⟩),⟨_,rfl,rfl⟩,trivial⟩) (Nat.zero_le n) fun k hk=>?_
 have hk:k≤n:=hk
 have km:=km k
 conv=>whnf
 refine bcase (fun(h:decide ((k:Int)<(n:Int))=true)=>?_) fun(h:decide ((k:Int)<(n:Int))=false)=>?_
 ·have h:=of_decide_eq_true h
  have km:=km (by omega)
  conv=>whnf
  refine⟨_,km,?_⟩
  conv=>whnf
  refine⟨i64 (by omega) (by omega),?_⟩
  conv=>whnf
  exact⟨k+1,by omega,Weak.gen [] rfl trivial ⟨.inl ⟨_,_,rfl,rfl,fun _ _ _ _=>rfl⟩,⟨_,rfl,rfl⟩,.inl ⟨_,_,rfl,rfl,fun _ _ _ _=>rfl⟩,⟨_,rfl,rfl⟩,trivial⟩,by omega⟩
 ·have h:=of_decide_eq_false h
  obtain rfl:k=n:=by omega
  conv=>whnf
  exact⟨rfl,Sub.refl _⟩
theorem rpower_ok {f:Pol Rat} {U0:Nat} (h0:0<U0) (hQ:U0≤2^yA) (hl:f.len≤6) (hm:Pol.Monic f) (hf:∀ t,Fits U0 (2^yA) (f.f t)) (hn:n≤5):FnOK Tryz.prog false 30 [.c (nql f.len f.f),.c (.int .i64 (n:Nat))] (.c (nql (pw f n).len (pw f n).f)):=by
 have hs:=fun k (hk:k≤5) t=>pw_size h0 hQ hl hm hf hk t
 have hs1:∀ t,qlen (f.f t)≤65535:=fun t=>by
  have:=hs 1 (by decide) t
  rwa [pw_one]at this
 have fin:∀ {a:Pol Rat},Q.Fin a.len a.f:=fun {a} t ht=>Pol.len_out a t ht
 have wqx:∀ {x:Rat},qlen x≤65535->wq (ofR x):=fun {x} h=>wq_n (by omega)
 have km:∀ k,k<n->FnOK Tryz.prog false 34 [.c (nql (pw f k).len (pw f k).f),.c (nql f.len f.f)] (.c (nql (pw f (k+1)).len (pw f (k+1)).f)):=fun k hk=>by
  have hlk:=(pw_len hm k).1
  have hb:=Nat.mul_le_mul (show k≤5 by omega) (show f.len-1≤5 by omega)
  have e1:Q.cf (pw f k).f f.f=(pw f (k+1)).f:=funext fun t=>by
   show Q.su (fun i=>(pw f k).f i*f.f (t-i)) (t+1)=_
   rw[su_crg]
   rfl
  have h:=mul6_ok (n:=(pw f k).len) (m:=f.len) (q:=fun i=>ofR ((pw f k).f i)) (p:=fun i=>ofR (f.f i)) (F:=(pw f k).f) (G:=f.f) (by rw[show(fun i=>(ofR ((pw f k).f i)).val)=(pw f k).f from funext fun i=>ofR_val _];exact Q.qx_self fin) (by rw[show(fun i=>(ofR (f.f i)).val)=f.f from funext fun i=>ofR_val _];exact Q.qx_self fin) (by omega) (by omega) (fun i _=>wqx (hs k (by omega) i)) (fun i _=>wqx (hs1 i)) (hs k (by omega)) hs1 fun t i=>pw_part h0 hQ hl hm hf (by omega) t i
  have e2:=Pol.len_mul (Pol.ne_of_len (pw_len hm k).2.1) (Pol.ne_of_len hm.1)
  rw[e1,show Q.tq (pw f (k+1)).f ((pw f k).len+f.len)=(pw f (k+1)).len from by
   rw[Q.tq_eq (m:=(pw f (k+1)).len) (fun t ht=>Pol.len_out _ t (by show(pw f k*f).len≤t;omega)) fin]
   exact Q.tq_self fun c hc=>Pol.len_top _ hc]at h
  exact h
 have eN:∀ k,Nr (fun k=>(pw f (k+1)).len) k=(pw f k).len:=fun k=>by
  cases k with
  | zero=>exact Pol.len_one.symm
  | succ k=>rfl
 have eF:∀ k i,i<(pw f k).len->Fr (fun k=>(pw f (k+1)).f) k i=(pw f k).f i:=fun k i hi=>by
  cases k with
  | zero =>
   have hi:i<(1:Pol Rat).len:=hi
   rw[Pol.len_one]at hi
   rw[show i=0 by omega]
   rfl
  | succ k=>rfl
 refine(power_walk (n:=n) (M:=f.len) (g:=f.f) (a:=fun k=>(pw f (k+1)).len) (v:=fun k=>(pw f (k+1)).f) (by omega) fun k hk=>?_).res (sub_nql (eN n) (eF n))
 refine arg_ok (km k hk) fun D' w vs h=>?_
 match vs,h with
 | [a,b],⟨h1,h2,_⟩=>exact⟨sub_nql (eN k) (eF k) D' w a h1,h2,trivial⟩
end Mx
end Go.Proofs.YtkmbnldginonbaaGreat
/- What the statements of charpoly begin with: fixed calls, run. -/
namespace Go.Proofs.YtkmbnldginonbaaGreat
open Go.RowKit
def inlAwake (f:FuncId):Bool:=[39,40,92,151,58,108,48,100].contains f
theorem awake_run:(pureX orcC (runX ER orcC okF inlAwake 1000 40) 8 []).map (fun x=>match x with | .c (.bool b)=>b | _=>false)=some true:=by kernel_rfl
theorem awake_ok:FnOK Tryz.prog false 8 [] (.c (.bool true)):=by
 have h:=awake_run
 cases hx:pureX orcC (runX ER orcC okF inlAwake 1000 40) 8 []with
 | none=>rw[hx]at h;cases h
 | some X =>
  rw[hx]at h
  have hX:X = .c (.bool true):=by
   simp only[Option.map_some,Option.some.injEq]at h
   split at h
   ·rename_i b;subst h;rfl
   ·cases h
  subst hX
  exact run_call orcC_ok hx
end Go.Proofs.YtkmbnldginonbaaGreat
/- The law CharpolyNewton over abstract arguments. -/
namespace Go.Proofs.YtkmbnldginonbaaGreat
open Go.RowKit
namespace Mx
open Rf
def qs (n : Nat) (p : Nat → RawR) (A : Nat → Nat → Rat) : Nat → Nat → RawR
 | 0=>p
 | t+1=>fun k=>ofR (xw n A (t+1) (k / n) (k%n))
theorem pb_lit {n:Nat} (hn:n≤5):PB (KB n 1) n≤32700000000:=by
 rcases(show n=0∨n=1∨n=2∨n=3∨n=4∨n=5 by omega)with rfl | rfl | rfl | rfl | rfl | rfl
 ·decide
 ·decide
 ·decide
 ·decide
 ·decide
 ·decide
end Mx
end Go.Proofs.YtkmbnldginonbaaGreat
/- The law CharpolyHamilton over abstract arguments. -/
set_option maxHeartbeats 16000000
namespace Go.Proofs.YtkmbnldginonbaaGreat
open Go.RowKit
namespace Mx
open Rf
def inlNone (_:FuncId):Bool:=false
theorem bz0:FnOK Tryz.prog false 28 [.c (.int .i64 (0:Nat))] (.c (nql 0 fun _=>0)):=run_same (inl:=inlNone) (by kernel_rfl)
theorem bz1:FnOK Tryz.prog false 28 [.c (.int .i64 (1:Nat))] (.c (nql 1 fun _=>0)):=run_same (inl:=inlNone) (by kernel_rfl)
theorem bz4:FnOK Tryz.prog false 28 [.c (.int .i64 (4:Nat))] (.c (nql 4 fun _=>0)):=run_same (inl:=inlNone) (by kernel_rfl)
theorem bz9:FnOK Tryz.prog false 28 [.c (.int .i64 (9:Nat))] (.c (nql 9 fun _=>0)):=run_same (inl:=inlNone) (by kernel_rfl)
theorem bz16:FnOK Tryz.prog false 28 [.c (.int .i64 (16:Nat))] (.c (nql 16 fun _=>0)):=run_same (inl:=inlNone) (by kernel_rfl)
theorem bz25:FnOK Tryz.prog false 28 [.c (.int .i64 (25:Nat))] (.c (nql 25 fun _=>0)):=run_same (inl:=inlNone) (by kernel_rfl)
theorem bzeros_ok : ∀ {n : Nat}, n ≤ 5 → FnOK Tryz.prog false 28 [.c (.int .i64 ((n * n : Nat) : Int))] (.c (nql (n * n) fun _ => 0))
 | 0,_=>bz0
 | 1,_=>bz1
 | 2,_=>bz4
 | 3,_=>bz9
 | 4,_=>bz16
 | 5,_=>bz25
set_option maxRecDepth 100000 in
theorem hm_no {p:Nat->RawR} {r c:Int} {len:Nat} (h1:FnOK Tryz.prog true 9 [.c (.int .i64 5),oneM r c len p] (.c (.bool false))):FnOK Tryz.prog true 6 [.g [.int .i64 r,.int .i64 c,ql len p]] (.c (.bool true)):=by
 have h0:=awake_ok.weak (r:=true)
 refine fn_okS (E:=E1v) E1v_ok Tryz.func6 rfl (by kernel_rfl) ?_
 refine swp_seq0 E1v_ok mixed (by kernel_rfl) ?_
 conv=>whnf
 refine swp_seq0 E1v_ok mixed (by kernel_rfl) ?_
 conv=>whnf
 refine⟨_,h0,?_⟩
 conv=>whnf
 refine swp_of E1v_ok mixed (by kernel_rfl) ?_
 conv=>whnf
 refine⟨fun i j hi hj=>?_,?_⟩
 ·match i,j,hi,hj with
  | 0,0,_,_=>rfl
  | 0,1,_,_=>rfl
  | 0,2,_,_=>rfl
 conv=>whnf
 refine⟨_,h1,?_⟩
 conv=>whnf
 exact⟨rfl,Sub.refl _⟩
set_option maxRecDepth 100000 in
theorem hm_yes {n M N : Nat} {p : Nat → RawR} {c μ w v1 v2 : Nat → Rat} {X Z : Nat → Nat → Rat} {Y1 Y2 : Cell} (hn : n ≤ 5) (h1 : FnOK Tryz.prog true 9 [.c (.int .i64 5), oneM n n (n * n) p] (.c (.bool true)))
  (kc:FnOK Tryz.prog true 10 [.g (rmat n n p)] (.t2 (.c (nql (n+1) c)) (.c (.int .i64 0))))
  (km:FnOK Tryz.prog true 20 [.g (rmat n n p)] (.t2 (.c (nql M μ)) (.c (.int .i64 0))))
  (ka:FnOK Tryz.prog true 27 [.c (nql (n+1) c),.g (rmat n n p)] (.t2 (.g (matL n n X)) (.c (.int .i64 0))))
  (kb:FnOK Tryz.prog true 27 [.c (nql M μ),.g (rmat n n p)] (.t2 (.g (matL n n Z)) (.c (.int .i64 0))))
  (kz:FnOK Tryz.prog true 28 [.c (.int .i64 ((n:Int)*(n:Int)))] (.c (nql (n*n) fun _=>0)))
  (kd:FnOK Tryz.prog true 29 [.c (nql (n+1) c),.c (nql M μ)] (.t3 (.c Y1) (.c (nql 0 v1)) (.c (.int .i64 0))))
  (kp:FnOK Tryz.prog true 30 [.c (nql M μ),.c (.int .i64 (n:Nat))] (.c (nql N w)))
  (ke:FnOK Tryz.prog true 29 [.c (nql N w),.c (nql (n+1) c)] (.t3 (.c Y2) (.c (nql 0 v2)) (.c (.int .i64 0))))
  (kx:FnOK Tryz.prog true 21 [.c (.row 4 (n*n) (qlF fun k=>ofR (X (k / n) (k%n)))),.c (nql (n*n) fun _=>0)] (.c (.bool true)))
  (ky:FnOK Tryz.prog true 21 [.c (.row 4 (n*n) (qlF fun k=>ofR (Z (k / n) (k%n)))),.c (nql (n*n) fun _=>0)] (.c (.bool true))):FnOK Tryz.prog true 6 [.g (rmat n n p)] (.c (.bool true)):=by
 have h0:=awake_ok.weak (r:=true)
 have nn:(n:Int)*(n:Int)=((n*n:Nat):Int):=(Int.natCast_mul n n).symm
 have nb:n*n≤25:=Nat.mul_le_mul hn hn
 refine fn_okS (E:=E1v) E1v_ok Tryz.func6 rfl (by kernel_rfl) ?_
 refine swp_seq0 E1v_ok mixed (by kernel_rfl) ?_
 conv=>whnf
 refine swp_seq0 E1v_ok mixed (by kernel_rfl) ?_
 conv=>whnf
 refine⟨_,h0,?_⟩
 conv=>whnf
 refine swp_seq E1v_ok mixed (by kernel_rfl) ?_
 conv=>whnf
 refine⟨fun i j hi hj=>?_,?_⟩
 ·match i,j,hi,hj with
  | 0,0,_,_=>rfl
  | 0,1,_,_=>rfl
  | 0,2,_,_=>rfl
 conv=>whnf
 refine⟨_,h1,?_⟩
 conv=>whnf
 refine⟨gst [(1,.c (.p 0 0 3 0 0))] [⟨24,3,1,boxF (rmat n n p)⟩],Weak.gen [some 0] rfl ⟨Rf.boxK rfl rfl,trivial⟩ ⟨⟨_,rfl,rfl,rfl⟩,trivial⟩,?_⟩
 refine swp_seq E1v_ok mixed (by kernel_rfl) ?_
 conv=>whnf
 refine⟨_,kc,?_⟩
 conv=>whnf
 refine⟨gst [(1,.c (.p 0 0 3 0 0)),(3,.c (nql (n+1) c)),(4,.c (.int .i64 0))] [⟨24,3,1,boxF (rmat n n p)⟩],Weak.gen [some 0] rfl ⟨Rf.boxK rfl rfl,trivial⟩ ⟨⟨_,rfl,rfl,rfl⟩,.inl ⟨_,_,rfl,rfl,fun _ _ _ _=>rfl⟩,⟨_,rfl,rfl⟩,trivial⟩,?_⟩
 refine swp_seq E1v_ok mixed (by kernel_rfl) ?_
 conv=>whnf
 refine⟨_,km,?_⟩
 conv=>whnf
 refine⟨gst [(1,.c (.p 0 0 3 0 0)),(3,.c (nql (n+1) c)),(4,.c (.int .i64 0)),(5,.c (nql M μ)),(6,.c (.int .i64 0))] [⟨24,3,1,boxF (rmat n n p)⟩],Weak.gen [some 0] rfl ⟨Rf.boxK rfl rfl,trivial⟩ ⟨⟨_,rfl,rfl,rfl⟩,.inl ⟨_,_,rfl,rfl,fun _ _ _ _=>rfl⟩,⟨_,rfl,rfl⟩,.inl ⟨_,_,rfl,rfl,fun _ _ _ _=>rfl⟩,⟨_,rfl,rfl⟩,trivial⟩,?_⟩
 refine swp_seq E1v_ok mixed (by kernel_rfl) ?_
 conv=>whnf
 refine⟨_,ka,?_⟩
 conv=>whnf
 refine⟨gst [(1,.c (.p 0 0 3 0 0)),(3,.c (nql (n+1) c)),(4,.c (.int .i64 0)),(5,.c (nql M μ)),(6,.c (.int .i64 0)),(7,.c (.p 1 0 3 0 0)),(8,.c (.int .i64 0))] [⟨24,3,1,boxF (rmat n n p)⟩,⟨24,3,1,boxF (matL n n X)⟩],Weak.gen [some 0,some 1] rfl ⟨Rf.boxK rfl rfl,Rf.boxU rfl rfl rfl,trivial⟩ ⟨⟨_,rfl,rfl,rfl⟩,.inl ⟨_,_,rfl,rfl,fun _ _ _ _=>rfl⟩,⟨_,rfl,rfl⟩,.inl ⟨_,_,rfl,rfl,fun _ _ _ _=>rfl⟩,⟨_,rfl,rfl⟩,⟨_,rfl,rfl,rfl⟩,⟨_,rfl,rfl⟩,trivial⟩,?_⟩
 refine swp_seq E1v_ok mixed (by kernel_rfl) ?_
 conv=>whnf
 refine⟨_,kb,?_⟩
 conv=>whnf
 refine⟨gst [(1,.c (.p 0 0 3 0 0)),(3,.c (nql (n+1) c)),(4,.c (.int .i64 0)),(5,.c (nql M μ)),(6,.c (.int .i64 0)),(7,.c (.p 1 0 3 0 0)),(8,.c (.int .i64 0)),(9,.c (.p 2 0 3 0 0)),(10,.c (.int .i64 0))] [⟨24,3,1,boxF (rmat n n p)⟩,⟨24,3,1,boxF (matL n n X)⟩,⟨24,3,1,boxF (matL n n Z)⟩],Weak.gen [some 0,some 1,some 2] rfl ⟨Rf.boxK rfl rfl,Rf.boxK rfl rfl,Rf.boxU rfl rfl rfl,trivial⟩ ⟨⟨_,rfl,rfl,rfl⟩,.inl ⟨_,_,rfl,rfl,fun _ _ _ _=>rfl⟩,⟨_,rfl,rfl⟩,.inl ⟨_,_,rfl,rfl,fun _ _ _ _=>rfl⟩,⟨_,rfl,rfl⟩,⟨_,rfl,rfl,rfl⟩,⟨_,rfl,rfl⟩,⟨_,rfl,rfl,rfl⟩,⟨_,rfl,rfl⟩,trivial⟩,?_⟩
 refine swp_seq E1v_ok mixed (by kernel_rfl) ?_
 conv=>whnf
 refine⟨i64_range (by omega) (by omega),?_⟩
 conv=>whnf
 refine bneg (show(!decide (((n+1:Nat):Int)=(n:Int)+1))=false by simp) ?_
 conv=>whnf
 refine⟨gst [(1,.c (.p 0 0 3 0 0)),(3,.c (nql (n+1) c)),(5,.c (nql M μ)),(7,.c (.p 1 0 3 0 0)),(9,.c (.p 2 0 3 0 0))] [⟨24,3,1,boxF (rmat n n p)⟩,⟨24,3,1,boxF (matL n n X)⟩,⟨24,3,1,boxF (matL n n Z)⟩],Weak.gen [some 0,some 1,some 2] rfl ⟨Rf.boxK rfl rfl,Rf.boxK rfl rfl,Rf.boxK rfl rfl,trivial⟩ ⟨⟨_,rfl,rfl,rfl⟩,.inl ⟨_,_,rfl,rfl,fun _ _ _ _=>rfl⟩,.inl ⟨_,_,rfl,rfl,fun _ _ _ _=>rfl⟩,⟨_,rfl,rfl,rfl⟩,⟨_,rfl,rfl,rfl⟩,trivial⟩,?_⟩
 refine swp_seq E1v_ok mixed (by kernel_rfl) ?_
 conv=>whnf
 refine⟨i64_range (by rw[nn];omega) (by rw[nn];omega),?_⟩
 conv=>whnf
 refine⟨_,kz,?_⟩
 conv=>whnf
 refine⟨gst [(1,.c (.p 0 0 3 0 0)),(3,.c (nql (n+1) c)),(5,.c (nql M μ)),(7,.c (.p 1 0 3 0 0)),(9,.c (.p 2 0 3 0 0)),(11,.c (nql (n*n) fun _=>0))] [⟨24,3,1,boxF (rmat n n p)⟩,⟨24,3,1,boxF (matL n n X)⟩,⟨24,3,1,boxF (matL n n Z)⟩],Weak.gen [some 0,some 1,some 2] rfl ⟨Rf.boxK rfl rfl,Rf.boxK rfl rfl,Rf.boxK rfl rfl,trivial⟩ ⟨⟨_,rfl,rfl,rfl⟩,.inl ⟨_,_,rfl,rfl,fun _ _ _ _=>rfl⟩,.inl ⟨_,_,rfl,rfl,fun _ _ _ _=>rfl⟩,⟨_,rfl,rfl,rfl⟩,⟨_,rfl,rfl,rfl⟩,.inl ⟨_,_,rfl,rfl,fun _ _ _ _=>rfl⟩,trivial⟩,?_⟩
 refine swp_seq E1v_ok mixed (by kernel_rfl) ?_
 conv=>whnf
 refine⟨_,kd,?_⟩
 conv=>whnf
 refine⟨gst [(1,.c (.p 0 0 3 0 0)),(3,.c (nql (n+1) c)),(5,.c (nql M μ)),(7,.c (.p 1 0 3 0 0)),(9,.c (.p 2 0 3 0 0)),(11,.c (nql (n*n) fun _=>0)),(13,.c (nql 0 v1)),(14,.c (.int .i64 0))] [⟨24,3,1,boxF (rmat n n p)⟩,⟨24,3,1,boxF (matL n n X)⟩,⟨24,3,1,boxF (matL n n Z)⟩],Weak.gen [some 0,some 1,some 2] rfl ⟨Rf.boxK rfl rfl,Rf.boxK rfl rfl,Rf.boxK rfl rfl,trivial⟩ ⟨⟨_,rfl,rfl,rfl⟩,.inl ⟨_,_,rfl,rfl,fun _ _ _ _=>rfl⟩,.inl ⟨_,_,rfl,rfl,fun _ _ _ _=>rfl⟩,⟨_,rfl,rfl,rfl⟩,⟨_,rfl,rfl,rfl⟩,.inl ⟨_,_,rfl,rfl,fun _ _ _ _=>rfl⟩,.inl ⟨_,_,rfl,rfl,fun _ _ _ _=>rfl⟩,⟨_,rfl,rfl⟩,trivial⟩,?_⟩
 refine swp_seq E1v_ok mixed (by kernel_rfl) ?_
 conv=>whnf
 refine⟨_,kp,?_⟩
 conv=>whnf
 refine⟨gst [(1,.c (.p 0 0 3 0 0)),(3,.c (nql (n+1) c)),(5,.c (nql M μ)),(7,.c (.p 1 0 3 0 0)),(9,.c (.p 2 0 3 0 0)),(11,.c (nql (n*n) fun _=>0)),(13,.c (nql 0 v1)),(14,.c (.int .i64 0)),(15,.c (nql N w))] [⟨24,3,1,boxF (rmat n n p)⟩,⟨24,3,1,boxF (matL n n X)⟩,⟨24,3,1,boxF (matL n n Z)⟩],Weak.gen [some 0,some 1,some 2] rfl ⟨Rf.boxK rfl rfl,Rf.boxK rfl rfl,Rf.boxK rfl rfl,trivial⟩ ⟨⟨_,rfl,rfl,rfl⟩,.inl ⟨_,_,rfl,rfl,fun _ _ _ _=>rfl⟩,.inl ⟨_,_,rfl,rfl,fun _ _ _ _=>rfl⟩,⟨_,rfl,rfl,rfl⟩,⟨_,rfl,rfl,rfl⟩,.inl ⟨_,_,rfl,rfl,fun _ _ _ _=>rfl⟩,.inl ⟨_,_,rfl,rfl,fun _ _ _ _=>rfl⟩,⟨_,rfl,rfl⟩,.inl ⟨_,_,rfl,rfl,fun _ _ _ _=>rfl⟩,trivial⟩,?_⟩
 refine swp_seq E1v_ok mixed (by kernel_rfl) ?_
 conv=>whnf
 refine⟨_,ke,?_⟩
 conv=>whnf
 refine⟨gst [(1,.c (.p 0 0 3 0 0)),(7,.c (.p 1 0 3 0 0)),(9,.c (.p 2 0 3 0 0)),(11,.c (nql (n*n) fun _=>0)),(13,.c (nql 0 v1)),(14,.c (.int .i64 0)),(17,.c (nql 0 v2)),(18,.c (.int .i64 0))] [⟨24,3,1,boxF (rmat n n p)⟩,⟨24,3,1,boxF (matL n n X)⟩,⟨24,3,1,boxF (matL n n Z)⟩],Weak.gen [some 0,some 1,some 2] rfl ⟨Rf.boxK rfl rfl,Rf.boxK rfl rfl,Rf.boxK rfl rfl,trivial⟩ ⟨⟨_,rfl,rfl,rfl⟩,⟨_,rfl,rfl,rfl⟩,⟨_,rfl,rfl,rfl⟩,.inl ⟨_,_,rfl,rfl,fun _ _ _ _=>rfl⟩,.inl ⟨_,_,rfl,rfl,fun _ _ _ _=>rfl⟩,⟨_,rfl,rfl⟩,.inl ⟨_,_,rfl,rfl,fun _ _ _ _=>rfl⟩,⟨_,rfl,rfl⟩,trivial⟩,?_⟩
 refine swp_of E1v_ok mixed (by kernel_rfl) ?_
 conv=>whnf
 refine⟨_,kx,?_⟩
 conv=>whnf
 refine⟨_,ky,?_⟩
 conv=>whnf
 exact⟨rfl,Sub.refl _⟩
end Mx
end Go.Proofs.YtkmbnldginonbaaGreat
/- What is read as data, in abstract words; the last step of a law's row. -/
namespace Go.Proofs.YtkmbnldginonbaaGreat
open Go.ChangeShapes Go.WideShapes Go.ChangeAt Go.RowKit
theorem lawOwn:ownKnob Tryz.prog.godebug=none:=by kernel_rfl
theorem lawLaid:laidOutB Tryz.prog=true:=by kernel_rfl
section
variable {H:Type} {enc:TypeId × Value->H} {P:Program}
theorem post_below {f : Func} {s : ChangeSpec} {apart fresh handsOn again : Bool} {W W' : World} {args : Array Value} {v : Value} {ds gs : List (DataW H)} {before pa pv : List MemPlace}
  (hW:DataW.Whole enc P f.params.toList s.vars apart W args.toList ds gs before)
  (hres:∀(b:Nat) (sp:Nat->Bool) (hd:Bool),DataW.TrodAll enc P W' b sp hd f.resultTypes.toList (v.resultList f.resultTypes.size) (s.fn H (ds++gs)).results [])
  (hargs:∀ sp:Nat->Bool,(∀ p∈before,sp p.block=true)->DataW.TrodAll enc P W' 0 sp true f.params.toList args.toList (s.fn H (ds++gs)).args pa)
  (hvars:∀ sp:Nat->Bool,(∀ p∈before,sp p.block=true)->DataW.TrodVars enc P W' sp s.vars (s.fn H (ds++gs)).vars pv)
  (hps:before=pa++pv) (hb:Below W.heap.size W W')
  (hok:∀(j:Nat) (t:TypeId) (r:Value),f.resultTypes[j]? = some t->(v.resultList f.resultTypes.size)[j]? = some r->Value.okWide P W' .any 0 t r) :
  s.post enc P f apart fresh handsOn again W args v W':=by
 have hlt:∀ p∈before,p.block<W.heap.size:=fun p hp=>hW.lt p hp
 have hold:∀ p∈before,(fun b=>decide (b<W.heap.size)) p.block=true:=fun p hp=>by simpa using hlt p hp
 refine⟨ds,gs,before,[],pa,pv,hW,hres _ _ _,hargs _ hold,hvars _ hold,World.keptBut_mono (fun p hp=>⟨hp,?_⟩) (hb.frame (·∈before)),fun _=>?_⟩
 ·rw[hps,List.mem_append]at hp
  exact Or.inr hp
 ·obtain⟨_,_,_,_,_,hz,hn⟩:=hW
  refine⟨hok,_,_,([]++pa)++pv,⟨[]++pa,pv,trodAll_append (hargs _ (fun _ _=>rfl)) (hres _ _ _),hvars _ (fun _ _=>rfl),rfl,?_,?_⟩,?_⟩
  ·intro b off hp
   have hin:MemPlace.cell b off∈before:=by rw[hps];simpa using hp
   rw[hb.frozen (hlt _ hin)]
   exact hz b off hin
  ·intro ha
   have:=hn ha
   rw[hps]at this
   simpa using this
  ·intro p hp _
   rw[hps]
   simpa using hp
theorem Below.trodS {t : TypeId} (hl : laidOutB P = true) (hr : P.readableRec t = true) (hrow : t < P.types.size) {W W' : World} {sp : Nat → Bool} {v : Value} {d : DataW H} {ps : List MemPlace}
  (h:DataW.Trod enc P W 0 (fun _=>true) true t v d ps) (hb:Below W.heap.size W W') (hlt:∀ x∈ps,x.block<W.heap.size) (hs:∀ x∈ps,sp x.block=true) :
  DataW.Trod enc P W' 0 sp true t v d ps :=
 WideElems.Trod_stays hl hr hrow h (fun x hx=>hb.same (hlt x hx)) hs
end
section
variable {H:Type} {enc:TypeId × Value->H} {P:Program} {w:World} {sp:Nat->Bool} {held:Bool}
theorem trod_struct3 {t : TypeId} {f0 f1 f2 : Field} {fuel : Nat} {cs : List Value} {x : DataW H × List MemPlace} (ht : P.underlying t = some (.struct #[f0, f1, f2])) (h : DataW.trod enc P w 0 sp held fuel t cs = some x) :
  ∃ y0 y1 y2 n,cs.length=P.cellsOf t/\DataW.trod enc P w 0 sp held n f0.type ((cs.drop f0.offset).take (P.cellsOf f0.type))=some y0/\DataW.trod enc P w 0 sp held n f1.type ((cs.drop f1.offset).take (P.cellsOf f1.type))=some y1/\DataW.trod enc P w 0 sp held n f2.type ((cs.drop f2.offset).take (P.cellsOf f2.type))=some y2:=by
 obtain⟨xs,n,_,rfl,hl,hlen,hf⟩:=DataW.trod_struct ht h
 match xs,hlen with
 | [y0,y1,y2],_=>exact⟨y0,y1,y2,n,hl,by simpa using hf 0 f0 rfl,by simpa using hf 1 f1 rfl,by simpa using hf 2 f2 rfl⟩
theorem cell_int {t fuel:Nat} {k:IntKind} {cs:List Value} {x:DataW H × List MemPlace} (ht:P.underlying t=some (.int k)) (h:DataW.trod enc P w 0 sp held fuel t cs=some x):∃ n,cs=[.int k n]/\(Lit.int k n).wf=true:=by
 obtain⟨n,h1,_,h2⟩:=DataW.trod_int ht h
 exact⟨n,h1,h2⟩
theorem okWide_agg {r:Reach} {b0 t:Nat} {fs:Array Field} {v:Value} (ht:P.underlying t=some (.struct fs)) (hval:Value.okWide P w r b0 t v):∃ cs,v = .agg cs:=by
 simp only[Value.okWide,ht]at hval
 obtain⟨cs,h,_⟩:=hval
 exact⟨cs,h⟩
end
section
variable {H:Type} {enc:TypeId × Value->H} {w:World} {sp:Nat->Bool} {held:Bool}
theorem cellsMat:Tryz.prog.cellsOf 24=3:=by kernel_rfl
theorem cellsInt:Tryz.prog.cellsOf 3=1:=by kernel_rfl
theorem cellsRats:Tryz.prog.cellsOf 22=1:=by kernel_rfl
end
theorem law_call {r:Bool} {f:FuncId} {al:List V} (h:FnOK Tryz.prog r f al (.c (.bool true))) {w:World} {vs:List Value} (hv:VRels (fun _=>False) w [] al vs):Calls Tryz.prog f vs.toArray w fun e w'=>e = .returned (.bool true)/\Below w.heap.size w w' :=
 (h.2 (fun _=>False) w vs (fun b hb=>hb.elim) (fun _ b o d hb=>hb.elim) hv).mono fun _ _ ⟨v,he,hv,hb⟩=>⟨by rw[he,show v = .bool true from hv],hb⟩
end Go.Proofs.YtkmbnldginonbaaGreat
/- Lists opened: of digits, of large integers, of fractions; what the bulk of their data bounds. -/
namespace Go.Proofs.YtkmbnldginonbaaGreat
open Go.ChangeShapes Go.WideShapes Go.ChangeAt Go.RowKit
section
variable {H:Type} {enc:TypeId × Value->H} {P:Program} {w:World} {sp:Nat->Bool} {held:Bool}
theorem bulk_one (d:DataW H):1≤Rows.uptoBulk d:=by
 cases d with
 | lit l=>cases l <;> simp[Rows.uptoBulk]
 | nil=>simp[Rows.uptoBulk]
 | ptr d=>simp[Rows.uptoBulk]
 | slice elems spare=>simp[Rows.uptoBulk]
 | agg parts=>simp[Rows.uptoBulk]
 | iface t d=>simp[Rows.uptoBulk]
 | map entries=>simp[Rows.uptoBulk]
 | held h=>simp[Rows.uptoBulk]
theorem bulk_part {d:DataW H} {l:List (DataW H)} (h:d∈l):Rows.uptoBulk d≤Rows.uptoBulkAll l:=by
 induction l with
 | nil=>cases h
 | cons x r ih =>
  simp only[Rows.uptoBulkAll]
  cases List.mem_cons.1 h with
  | inl e=>subst e;omega
  | inr e=>have:=ih e;omega
theorem bulk_len (l:List (DataW H)):l.length≤Rows.uptoBulkAll l:=by
 induction l with
 | nil=>simp[Rows.uptoBulkAll]
 | cons x r ih=>have:=bulk_one x;simp only[Rows.uptoBulkAll,List.length_cons];omega
theorem free_addr {a:Addr} {sz:Nat} {cs:List Value} (h0:0<sz) (h:w.cells? 0 (a.add (0*sz)) sz=some cs):∃ b o,a=⟨b,o,none⟩/\b<w.heap.size:=by
 obtain⟨b,o,spt⟩:=a
 have hs:spt=none/\b<w.heap.size:=by
  obtain⟨_,h2,h3⟩:=World.cells?_some h
  have h4:=h3 0 h0
  rw[Nat.zero_mul,Addr.add,if_pos rfl,Addr.add,if_pos rfl,List.getElem?_eq_getElem (by omega)]at h4
  unfold World.cell? at h4
  split at h4
  ·rename_i hh
   refine⟨?_,(Array.getElem?_eq_some_iff.1 hh).1⟩
   split at h4
   ·cases h4
   ·rename_i hs;simpa using hs
  ·cases h4
 exact⟨b,o,by rw[hs.1],hs.2⟩
theorem crels_get {D : Nat → Prop} {ρ : List Loc} : ∀ {l : List Cell} {vs : List Value}, CRels D w ρ l vs → ∀ j, j < l.length → ∃ u, vs[j]? = some u ∧ CRel D w ρ (l.getD j .any) u
 | [],_,_,j,hj=>absurd hj (Nat.not_lt_zero j)
 | _ :: _,[],h,_,_=>h.elim
 | x :: l,v :: vs,h,j,hj=>by
  cases j with
  | zero=>exact⟨v,rfl,h.1⟩
  | succ j=>exact crels_get h.2 j (by simpa using hj)
theorem cell_list {α : Type} [Inhabited α] {t e sz fuel : Nat} {cs : List Value} {x : DataW H × List MemPlace} {G : α → List Cell} {Q : α → DataW H → Prop} (ht : P.underlying t = some (.slice e)) (hk : P.cellsOf e = sz) (h0 : 0 < sz) (hG : ∀ a, (G a).length = sz)
  (one:∀(n:Nat) (cs':List Value) (y:DataW H × List MemPlace),DataW.trod enc P w 0 sp held n e cs'=some y->∃ a:α,CRels (fun _=>False) w [] (G a) cs'/\Q a y.1)
  (h:DataW.trod enc P w 0 sp held fuel t cs=some x) :
  ∃(v:Value) (n:Nat) (f:Nat->α),cs=[v]/\CRel (fun _=>False) w [] (.row sz n fun i j=>(G (f i)).getD j .any) v/\n≤Rows.uptoBulk x.1/\∀ i,i<n->∃ d,Q (f i) d/\Rows.uptoBulk d≤Rows.uptoBulk x.1:=by
 rcases DataW.trod_slice ht h with⟨rfl,rfl⟩ | ⟨a,len,cap,elems,rest,n,_,rfl,hx,_,hl,hm,hlen,hel,_⟩
 ·exact⟨_,0,fun _=>default,rfl,⟨none,0,rfl,Nat.le_refl _,fun h=>absurd h (Nat.lt_irrefl 0)⟩,Nat.zero_le _,fun i hi=>absurd hi (Nat.not_lt_zero i)⟩
 ·have get:∀ i (hi:i<len),∃ b:α,(∃ cs',w.cells? 0 (a.add (i*sz)) sz=some cs'/\CRels (fun _=>False) w [] (G b) cs')/\Q b (elems[i]'(by omega)).1:=by
   intro i hi
   have:=hel i hi
   rw[hk,List.getElem?_eq_getElem (by omega),Option.bind_eq_some_iff]at this
   obtain⟨cs',h1,h2⟩:=this
   obtain⟨b,h3,h4⟩:=one n cs' _ h2
   exact⟨b,⟨cs',h1,h3⟩,h4⟩
  have hbulk:elems.length≤Rows.uptoBulk x.1/\∀ i (hi:i<len),Rows.uptoBulk (elems[i]'(by omega)).1≤Rows.uptoBulk x.1:=by
   rw[hx]
   simp only[Rows.uptoBulk]
   refine⟨?_,fun i hi=>?_⟩
   ·have:=bulk_len (elems.map (·.1))
    simp only[List.length_map]at this
    omega
   ·have:=bulk_part (l:=elems.map (·.1)) (d:=(elems[i]'(by omega)).1) (List.mem_map_of_mem (List.getElem_mem _))
    omega
  obtain⟨f,hf⟩:∃ f:Nat->α,∀ i (hi:i<len),(∃ cs',w.cells? 0 (a.add (i*sz)) sz=some cs'/\CRels (fun _=>False) w [] (G (f i)) cs')/\Q (f i) (elems[i]'(by omega)).1 :=
   ⟨fun i=>if h:i<len then(get i h).choose else default,fun i hi=>by
    simp only[dif_pos hi]
    exact(get i hi).choose_spec⟩
  refine⟨_,len,f,rfl,⟨_,cap,rfl,hl,fun hn=>?_⟩,by omega,fun i hi=>⟨_,(hf i hi).2,hbulk.2 i hi⟩⟩
  obtain⟨cs0,c1,_⟩:=(hf 0 hn).1
  obtain⟨b,o,rfl,hb⟩:=free_addr h0 c1
  refine⟨b,o,rfl,hb,id,fun i j hi hj=>?_⟩
  obtain⟨cs',c1,c2⟩:=(hf i hi).1
  obtain⟨_,h2,h3⟩:=World.cells?_some c1
  have h4:=h3 j hj
  obtain⟨u,hu,hr⟩:=crels_get c2 j (by rw[hG];exact hj)
  rw[add_plain,add_plain,hu]at h4
  exact⟨u,by rw[show o+(i*sz+j)=o+i*sz+j by omega];exact h4,hr⟩
theorem cell_mag {t e fuel:Nat} {cs:List Value} {x:DataW H × List MemPlace} (ht:P.underlying t=some (.slice e)) (hk:P.cellsOf e=1) (he:P.underlying e=some (.int .u32)) (h:DataW.trod enc P w 0 sp held fuel t cs=some x):∃(v:Value) (l:List Nat),cs=[v]/\CRel (fun _=>False) w [] (dsC l) v/\Dg.ok l/\l.length≤Rows.uptoBulk x.1:=by
 obtain⟨v,n,f,h1,h2,h3,h4⟩:=cell_list (G:=fun a:Nat=>[Cell.int .u32 a]) (Q:=fun a _=>a<4294967296) ht hk (by decide) (fun _=>rfl) (fun n cs' y hy=>by
  obtain⟨k,e1,hw⟩:=cell_int he hy
  have hw:0≤k/\k<4294967296:=by
   simp[Lit.wf]at hw
   have h1:(IntKind.u32.min:Int)=0:=by decide
   have h2:(IntKind.u32.max:Int)=4294967295:=by decide
   omega
  refine⟨k.toNat,?_,by omega⟩
  subst e1
  exact⟨by show Value.int .u32 k = .int .u32 (k.toNat:Int);rw[Int.toNat_of_nonneg hw.1],trivial⟩) h
 refine⟨v,(List.range n).map f,h1,?_,fun d hd=>?_,by simpa using h3⟩
 ·refine subRowG (by simp) (fun i j hi hj=>?_) (fun _=>False) w v h2
  have hi:i<n:=by simpa using hi
  obtain rfl:=Nat.lt_one_iff.1 hj
  simp[List.getD,hi]
 ·obtain⟨i,hi,rfl⟩:=List.mem_map.1 hd
  obtain⟨_,h5,_⟩:=h4 i (List.mem_range.1 hi)
  exact h5
instance:Inhabited RawZ:=⟨⟨false,[]⟩⟩
instance:Inhabited RawR:=⟨⟨default,default⟩⟩
end
section
variable {H:Type} {enc:TypeId × Value->H} {w:World} {sp:Nat->Bool} {held:Bool}
theorem cBool:Tryz.prog.cellsOf 4=1:=by kernel_rfl
theorem cMag:Tryz.prog.cellsOf 34=1:=by kernel_rfl
theorem cU32:Tryz.prog.cellsOf 119=1:=by kernel_rfl
theorem cBig:Tryz.prog.cellsOf 36=2:=by kernel_rfl
theorem cRat:Tryz.prog.cellsOf 38=4:=by kernel_rfl
set_option maxRecDepth 100000 in
theorem one_int {n:Nat} {cs:List Value} {y:DataW H × List MemPlace} (h:DataW.trod enc Tryz.prog w 0 sp held n 36 cs=some y):∃ a:RawZ,CRels (fun _=>False) w [] (zr a) cs/\Dg.ok a.ds/\a.ds.length≤Rows.uptoBulk y.1:=by
 obtain⟨xs,m,_,rfl,hl,hlen,hf⟩:=DataW.trod_struct Tryz.underlying36 h
 match xs,hlen with
 | [y0,y1],_ =>
  have h0:DataW.trod enc Tryz.prog w 0 sp held m 4 ((cs.drop 0).take (Tryz.prog.cellsOf 4))=some y0:=by simpa using hf 0 _ rfl
  have h1:DataW.trod enc Tryz.prog w 0 sp held m 34 ((cs.drop 1).take (Tryz.prog.cellsOf 34))=some y1:=by simpa using hf 1 _ rfl
  rw[cBool]at h0
  rw[cMag]at h1
  rw[cBig]at hl
  obtain⟨s,e0,_⟩:=DataW.trod_bool Tryz.underlying4 h0
  obtain⟨v,l,e1,hv,ho,hb⟩:=cell_mag Tryz.underlying34 cU32 Tryz.underlying119 h1
  match cs,hl,e0,e1 with
  | [x0,x1],_,e0,e1 =>
   simp at e0 e1
   subst e0 e1
   refine⟨⟨s,l⟩,⟨rfl,hv,trivial⟩,ho,?_⟩
   show l.length≤_
   simp only[List.map,Rows.uptoBulk,Rows.uptoBulkAll]
   omega
set_option maxRecDepth 100000 in
theorem one_rat {n:Nat} {cs:List Value} {y:DataW H × List MemPlace} (h:DataW.trod enc Tryz.prog w 0 sp held n 38 cs=some y):∃ a:RawR,CRels (fun _=>False) w [] (rr a) cs/\Rf.dgq a:=by
 obtain⟨xs,m,_,rfl,hl,hlen,hf⟩:=DataW.trod_struct Tryz.underlying38 h
 match xs,hlen with
 | [y0,y1],_ =>
  have h0:DataW.trod enc Tryz.prog w 0 sp held m 36 ((cs.drop 0).take (Tryz.prog.cellsOf 36))=some y0:=by simpa using hf 0 _ rfl
  have h1:DataW.trod enc Tryz.prog w 0 sp held m 36 ((cs.drop 2).take (Tryz.prog.cellsOf 36))=some y1:=by simpa using hf 1 _ rfl
  rw[cBig]at h0 h1
  rw[cRat]at hl
  obtain⟨a0,c0,d0,_⟩:=one_int h0
  obtain⟨a1,c1,d1,_⟩:=one_int h1
  match cs,hl,c0,c1 with
  | [x0,x1,x2,x3],_,c0,c1 =>
   exact⟨⟨a0,a1⟩,⟨c0.1,c0.2.1,c1.1,c1.2.1,trivial⟩,d0,d1⟩
end
end Go.Proofs.YtkmbnldginonbaaGreat
/- Fields and elements, opened. -/
namespace Go.Proofs.YtkmbnldginonbaaGreat
open Go.ChangeShapes Go.WideShapes Go.ChangeAt Go.RowKit
section
variable {H:Type} {enc:TypeId × Value->H} {w:World} {sp:Nat->Bool} {held:Bool}
end
end Go.Proofs.YtkmbnldginonbaaGreat
/- The law CharpolyNewton: its call, under what its argument reads as. -/
namespace Go.Proofs.YtkmbnldginonbaaGreat
open Go.ChangeShapes Go.WideShapes Go.ChangeAt Go.RowKit
section
variable {H:Type} {enc:TypeId × Value->H} {w:World} {sp:Nat->Bool} {held:Bool}
theorem slice_len {t e fuel:Nat} {cs:List Value} {x:DataW H × List MemPlace} {v:Value} {sz n:Nat} {f:Nat->Nat->Cell} (ht:Tryz.prog.underlying t=some (.slice e)) (h:DataW.trod enc Tryz.prog w 0 sp held fuel t cs=some x) (hc:cs=[v]) (hv:CRel (fun _=>False) w [] (.row sz n f) v):n≤9223372036854775807:=by
 obtain⟨A,c,rfl,_,_⟩:=hv
 rcases DataW.trod_slice ht h with⟨e1,_⟩ | ⟨a,len,cap,elems,rest,m,_,e1,_,_,hl,hm,_⟩
 ·rw[hc]at e1
  injection e1 with e2 _
  injection e2 with _ e3 _
  omega
 ·rw[hc]at e1
  injection e1 with e2 _
  injection e2 with _ e3 _
  have:cap≤2^63-1:=hm
  omega
set_option maxRecDepth 100000 in
theorem open_mat {r:Reach} {b0:Nat} {v:Value} {d:DataW H} {ps:List MemPlace} (hval:Value.okWide Tryz.prog w r b0 24 v) (hd:DataW.Trod enc Tryz.prog w 0 sp held 24 v d ps):∃(a b:Int) (n:Nat) (q:Nat->RawR),n≤9223372036854775807/\VRel (fun _=>False) w [] (.g [.int .i64 a,.int .i64 b,ql n q]) v/\∀ j,j<n->Rf.dgq (q j):=by
 obtain⟨cs,rfl⟩:=okWide_agg Tryz.underlying24 hval
 obtain⟨fuel,hf⟩:=hd
 obtain⟨y0,y1,y2,n,hl,h0,h1,h2⟩:=trod_struct3 Tryz.underlying24 hf
 simp only[cellsInt,cellsRats]at h0 h1 h2
 obtain⟨a,e0,_⟩:=cell_int Tryz.underlying3 h0
 obtain⟨b,e1,_⟩:=cell_int Tryz.underlying3 h1
 obtain⟨u,m,f,e2,hu,_,hq⟩:=cell_list (G:=rr) (Q:=fun a _=>Rf.dgq a) Tryz.underlying22 cRat (by decide) (fun _=>rfl) (fun n cs' y hy=>one_rat hy) h2
 have hm:=slice_len Tryz.underlying22 h2 e2 hu
 refine⟨a,b,m,f,hm,⟨cs,rfl,?_⟩,fun j hj=>(hq j hj).elim fun _ h=>h.1⟩
 have hl:cs.toList.length=3:=by rw[← cellsMat];exact hl
 change (cs.toList.drop 0).take 1=_ at e0
 change (cs.toList.drop 1).take 1=_ at e1
 change (cs.toList.drop 2).take 1=_ at e2
 match hcs:cs.toList,hl with
 | [x,y,z],_ =>
  rw[hcs]at e0 e1 e2
  simp at e0 e1 e2
  subst e0;subst e1;subst e2
  exact⟨rfl,rfl,hu,trivial⟩
end
end Go.Proofs.YtkmbnldginonbaaGreat
/- The law CharpolyHamilton: its call, under what its argument reads as. -/
namespace Go.Proofs.YtkmbnldginonbaaGreat
open Go.ChangeShapes Go.WideShapes Go.ChangeAt Go.RowKit
namespace Mx
open Rf
theorem same_zero {n:Nat} {X:Nat->Nat->Rat} (hn:n≤5) (h:∀ i j,i<n->j<n->X i j=0):FnOK Tryz.prog true 21 [.c (.row 4 (n*n) (qlF fun k=>ofR (X (k / n) (k%n)))),.c (nql (n*n) fun _=>0)] (.c (.bool true)):=by
 have nb:n*n≤25:=Nat.mul_le_mul hn hn
 refine arg_ok (sameRats_n (n:=n*n) (v:=fun _=>0) (by omega) fun i _=>Nat.le_trans q_zero (by decide)).weak fun D' w vs g=>?_
 match vs,g with
 | [a,b],⟨g1,g2,_⟩ =>
  refine⟨subRowG rfl (fun i j hi _=>?_) D' w a g1,g2,trivial⟩
  have hm:=mat_lt hi
  exact congrArg (fun z=>(rr (ofR z)).getD j .any) (h _ _ hm.1 hm.2)
theorem exp_hm {n m:Nat} (hn:n≤5) (hm:m≤n):n*m+1+1-(n+1)≤21/\n*m+1≤26:=by
 have:=Nat.mul_le_mul_left n hm
 rcases(show n=0∨n=1∨n=2∨n=3∨n=4∨n=5 by omega)with e | e | e | e | e | e <;> (subst e;omega)
open Classical in
theorem hm_ok {len:Nat} {r c:Int} {p:Nat->RawR} (hl:len≤9223372036854775807) (dp:∀ i,i<len->dgq (p i)):FnOK Tryz.prog true 6 [.g [.int .i64 r,.int .i64 c,ql len p]] (.c (.bool true)):=by
 have hLIM:LIM=1099511627776:=rfl
 have h1:=light11_ok (m:=5) (r:=r) (c:=c) (len:=len) (q:=p) hl
 by_cases g1:lite11 5 r c len p
 ·rw[decide_eq_true g1]at h1
  obtain⟨⟨u1,u2,u3,u4,u5⟩,e1,e2,e3⟩:=g1
  obtain⟨n,rfl⟩:∃ n:Nat,r=n:=⟨r.toNat,by omega⟩
  obtain rfl:c=n:=e1.symm
  obtain rfl:len=n*n:=by
   have:(len:Int)=((n*n:Nat):Int):=by rw[u5,Int.natCast_mul]
   exact Int.ofNat.inj this
  have hn:n≤5:=by omega
  have hnn:n*n≤25:=Nat.mul_le_mul hn hn
  obtain⟨D,d0,d1,d2⟩:=short_fits dp e3
  obtain⟨A,hA⟩:∃ A:Nat->Nat->Rat,∀ i j,(p (i*n+j)).val=A i j:=⟨_,fun _ _=>rfl⟩
  have hS:Sm5 n A D (32*(n*n)):=⟨hn,by omega,d0,d1,fun i j hi hj=>by
   rw[← hA]
   exact d2 _ (mat_idx hi hj).1⟩
  have hf:∀ k,k<n*n->(p k).Fit 1:=fun k hk=>⟨(dp k hk).1,(dp k hk).2,(e3 k hk).1,(e3 k hk).2⟩
  have hK:∀ k,k<n*n->(p k).Fit KD:=fun k hk=>(hf k hk).mono (by decide)
  have hB:=pb_lit hn
  have kc:=charpoly_ok (n:=n) (p:=p) (A:=A) (L:=1) hn hf (Nat.le_refl 1) (fun i j _ _=>hA i j) (by omega)
  obtain⟨μ,hμ,km⟩:=min_ok hS hK fun i j _ _=>hA i j
  have lc:(chp n A).len=n+1:=hp_len _ n
  have mc:Pol.Monic (chp n A):=⟨by omega,by unfold Pol.lead;rw[lc];exact(newt_hsn n A).top⟩
  have lm:=hμ.len (Nat.le_refl n)
  have lm0:=hμ.mon.1
  have ka:=at_pol hS hK (fun i j _ _=>hA i j) (f:=chp n A) (L:=40000) (by omega) hS.chp (by decide) (by decide)
  have kb:=at_pol hS hK (fun i j _ _=>hA i j) (f:=μ) (L:=2200) (by omega) (hS.coef hμ (Nat.le_refl n)) (by decide) (by decide)
  obtain⟨Q,q0,q1,q2⟩:=hS.fits_all hμ
  have kp:=rpower_ok q0 q1 (by omega) hμ.mon q2 hn
  obtain⟨lp,mp⟩:=pw_len hμ.mon n
  obtain⟨x1,x2⟩:=exp_hm hn (show μ.len-1≤n by omega)
  have b1:2^((chp n A).len+1-μ.len)≤2^6:=le_two (by omega)
  have b2:2^((Crg.pw μ n).len+1-(chp n A).len)≤2^21:=le_two (by omega)
  have b3:=Nat.mul_le_mul_right (40000+2200+1) b1
  have b4:=Nat.mul_le_mul_right (65535+40000+1) b2
  obtain⟨Y1,v1,kd⟩:=div_zero (f:=chp n A) (g:=μ) (L:=40000) (Lg:=2200) (hμ.low _ fun i j hi hj=>chp_root n A i j hi hj) hμ.mon hS.chp (hS.coef hμ (Nat.le_refl n)) (by omega) (by omega) (by decide) (by omega)
  obtain⟨Y2,v2,ke⟩:=div_zero (f:=Crg.pw μ n) (g:=chp n A) (L:=65535) (Lg:=40000) (chp_pow fun i j hi hj=>hμ.zero i j hi hj) mc (fun t=>pw_size q0 q1 (by omega) hμ.mon q2 hn t) hS.chp (by omega) (by omega) (by decide) (by omega)
  rw[lc]at ka kd ke
  have kz:=(bzeros_ok hn).weak (r:=true)
  rw[Int.natCast_mul]at kz
  exact hm_yes (Y1:=Y1) (Y2:=Y2) hn h1 kc km ka kb kz kd kp.weak ke (same_zero hn fun i j hi hj=>chp_root n A i j hi hj) (same_zero hn fun i j hi hj=>hμ.zero i j hi hj)
 ·rw[decide_eq_false g1]at h1
  exact hm_no h1
end Mx
section
variable {H:Type} {enc:TypeId × Value->H} {w:World} {sp:Nat->Bool} {held:Bool}
set_option maxRecDepth 100000 in
theorem walk_CharpolyHamilton {H : Type} {enc : TypeId × Value → H} {W : World} {base : Nat} {v0 : Value} {d0 : DataW H} {p0 : List MemPlace}
  (u0:Value.okWide Tryz.prog W .any base 24 v0) (h0:DataW.Trod enc Tryz.prog W 0 (fun _=>true) true 24 v0 d0 p0) :
  Calls Tryz.prog 6 #[v0] W fun e w'=>e = .returned (.bool true)/\Below W.heap.size W w':=by
 obtain⟨r,c,len,p,hl,g0,dp⟩:=open_mat u0 h0
 exact law_call (vs:=[v0]) (Mx.hm_ok (r:=r) (c:=c) hl dp) ⟨g0,trivial⟩
end
end Go.Proofs.YtkmbnldginonbaaGreat
